/- Apply: what the reference's call answers. -/
import Derived.Test.YtannfoaobeoafaaDoorOrdPool2
set_option linter.unusedVariables false
set_option linter.unusedSimpArgs false
namespace Go.Rae.Order
set_option maxRecDepth 100000

def slotS (p : Pool) (e : Entry) : Slot :=
  let s := p.at e.slot
  if e.kind = 1 then ⟨1, e.addr, e.port, e.weight, 0⟩
  else if e.kind = 2 then { s with state := 2 }
  else if e.kind = 3 then { s with state := 3 }
  else if e.kind = 4 then { s with state := 4, since := p.ring.epoch }
  else if e.kind = 5 then slot0
  else s
def doS (p : Pool) (e : Entry) : Pool :=
  { p with version := IntKind.i64.wrap (p.version + 1), slots := p.slots.set e.slot.toNat (slotS p e), ring := if e.kind = 6 then nextS p.ring e.key else p.ring }
def soonS (p : Pool) (e : Entry) : Prop := e.kind = 5 ∧ p.ring.epoch < IntKind.i64.wrap ((p.at e.slot).since + 3)
instance (p : Pool) (e : Entry) : Decidable (soonS p e) := by unfold soonS; infer_instance
def applyE (p : Pool) (e : Entry) : Int := if checkS e ≠ 0 then checkS e else if badS p e = true then 12 else if soonS p e then 13 else 0
def applyS (p : Pool) (e : Entry) : Pool := if applyE p e = 0 then doS p e else pool0

theorem check_ok {e : Entry} (h : checkS e = 0) : (1 ≤ e.kind ∧ e.kind ≤ 6) ∧ 0 ≤ e.slot ∧ e.slot < 64 := by
  unfold checkS at h
  by_cases c1 : e.kind < 1 ∨ 6 < e.kind
  · rw [if_pos c1] at h; omega
  · rw [if_neg c1] at h
    by_cases c2 : e.slot < 0 ∨ 63 < e.slot ∨ e.kind = 6 ∧ e.slot ≠ 0
    · rw [if_pos c2] at h; omega
    · omega

theorem pool0_v : (V.agg 15 [.i .i64 0, .i .i64 0, .i .i64 0, .agg 12 (List.replicate 64 (.agg 11 [.i .i64 0, .i .i64 0, .i .i64 0, .i .i64 0, .i .i64 0])), .agg 14 [.i .i64 0, .agg 13 [.i .u64 0, .i .u64 0], .agg 13 [.i .u64 0, .i .u64 0], .agg 13 [.i .u64 0, .i .u64 0]]]) = pool0.v := rfl
theorem set_v (l : List Slot) (i : Nat) (s : Slot) : (l.map Slot.v).set i s.v = (l.set i s).map Slot.v := by rw [List.map_set]

theorem ans_apply27 (p : Pool) (hp : p.slots.length = 64) (e : Entry) : Ans 27 [p.v, e.v] (.tup [(applyS p e).v, .i .i64 (applyE p e)]) := by
  refine ⟨run (fn := F27) rfl rfl ?_, rfl, rfl⟩
  have hc := call_check20 e
  by_cases c0 : checkS e = 0
  · obtain ⟨hk, h0, h1⟩ := check_ok c0
    have hb := call_bad57 p hp e h0 h1
    have hat := nthK_at hp h0 h1
    have hr := call_next58 p.ring e.key
    cases b0 : badS p e with
    | true =>
      have he : applyE p e = 12 := by simp [applyE, c0, b0]
      have hs : applyS p e = pool0 := by simp [applyS, he]
      rw [he, hs]
      unfold F27
      simp only [Pool.sh, Pool.nt, Entry.sh, Entry.nt, hc, c0, hb, b0, ↓stepR, normR, Int.cast_ofNat_Int, Int.natCast_nonneg, Int.toNat_natCast, Nat.reduceMod, Nat.reduceDiv, Nat.reducePow, Nat.testBit_eq_decide_div_mod_eq, ↓reduceIte, Nat.reduceEqDiff, Nat.reduceAdd, Nat.reduceSub, Nat.reduceMul, Nat.reduceLT, Nat.reduceLeDiff, Int.reduceEq, Int.reduceLT, Int.reduceLE, Int.reduceAdd, Int.reduceSub, Int.reduceMul, Int.reduceNeg, Int.reduceToNat, reduceCtorEq, eq_self]
      rfl
    | false =>
      by_cases d : soonS p e
      · have he : applyE p e = 13 := by simp [applyE, c0, b0, d]
        have hs : applyS p e = pool0 := by simp [applyS, he]
        rw [he, hs]
        obtain ⟨d1, d2⟩ := d
        obtain ⟨e1, e2, e3, e4, e5, e6⟩ := e
        simp only at d1 d2 h0 h1 hat
        subst d1
        simp only [Pool.v, Entry.v, Ring.v] at hc hb
        unfold F27
        simp only [Pool.v, Entry.v, Ring.v, Slot.v, hc, c0, hb, b0, h0, h1, hat, d2, Key.sh, Key.nt, ↓stepR, normR, Int.cast_ofNat_Int, Int.natCast_nonneg, Int.toNat_natCast, Nat.reduceMod, Nat.reduceDiv, Nat.reducePow, Nat.testBit_eq_decide_div_mod_eq, ↓reduceIte, Nat.reduceEqDiff, Nat.reduceAdd, Nat.reduceSub, Nat.reduceMul, Nat.reduceLT, Nat.reduceLeDiff, Int.reduceEq, Int.reduceLT, Int.reduceLE, Int.reduceAdd, Int.reduceSub, Int.reduceMul, Int.reduceNeg, Int.reduceToNat, reduceCtorEq, eq_self]
        rfl
      · have he : applyE p e = 0 := by simp [applyE, c0, b0, d]
        have hs : applyS p e = doS p e := by simp [applyS, he]
        rw [he, hs]
        obtain ⟨e1, e2, e3, e4, e5, e6⟩ := e
        simp only at h0 h1 hat hk
        simp only [soonS] at d
        simp only [Pool.v, Entry.v, Ring.v] at hc hb hr
        have hkind : e1 = 1 ∨ e1 = 2 ∨ e1 = 3 ∨ e1 = 4 ∨ e1 = 5 ∨ e1 = 6 := by omega
        unfold F27
        rcases hkind with rfl | rfl | rfl | rfl | rfl | rfl
        · simp only [Pool.v, Entry.v, Ring.v, Slot.v, hc, c0, hb, b0, h0, h1, hat, Key.sh, Key.nt, ↓stepR, normR, Int.cast_ofNat_Int, Int.natCast_nonneg, Int.toNat_natCast, Nat.reduceMod, Nat.reduceDiv, Nat.reducePow, Nat.testBit_eq_decide_div_mod_eq, ↓reduceIte, Nat.reduceEqDiff, Nat.reduceAdd, Nat.reduceSub, Nat.reduceMul, Nat.reduceLT, Nat.reduceLeDiff, Int.reduceEq, Int.reduceLT, Int.reduceLE, Int.reduceAdd, Int.reduceSub, Int.reduceMul, Int.reduceNeg, Int.reduceToNat, reduceCtorEq, eq_self]
          simp [doS, slotS, List.map_set, Slot.v, slot0, nextS]
        · simp only [Pool.v, Entry.v, Ring.v, Slot.v, hc, c0, hb, b0, h0, h1, hat, Key.sh, Key.nt, ↓stepR, normR, Int.cast_ofNat_Int, Int.natCast_nonneg, Int.toNat_natCast, Nat.reduceMod, Nat.reduceDiv, Nat.reducePow, Nat.testBit_eq_decide_div_mod_eq, ↓reduceIte, Nat.reduceEqDiff, Nat.reduceAdd, Nat.reduceSub, Nat.reduceMul, Nat.reduceLT, Nat.reduceLeDiff, Int.reduceEq, Int.reduceLT, Int.reduceLE, Int.reduceAdd, Int.reduceSub, Int.reduceMul, Int.reduceNeg, Int.reduceToNat, reduceCtorEq, eq_self]
          simp [doS, slotS, List.map_set, Slot.v, slot0, nextS]
        · simp only [Pool.v, Entry.v, Ring.v, Slot.v, hc, c0, hb, b0, h0, h1, hat, Key.sh, Key.nt, ↓stepR, normR, Int.cast_ofNat_Int, Int.natCast_nonneg, Int.toNat_natCast, Nat.reduceMod, Nat.reduceDiv, Nat.reducePow, Nat.testBit_eq_decide_div_mod_eq, ↓reduceIte, Nat.reduceEqDiff, Nat.reduceAdd, Nat.reduceSub, Nat.reduceMul, Nat.reduceLT, Nat.reduceLeDiff, Int.reduceEq, Int.reduceLT, Int.reduceLE, Int.reduceAdd, Int.reduceSub, Int.reduceMul, Int.reduceNeg, Int.reduceToNat, reduceCtorEq, eq_self]
          simp [doS, slotS, List.map_set, Slot.v, slot0, nextS]
        · simp only [Pool.v, Entry.v, Ring.v, Slot.v, hc, c0, hb, b0, h0, h1, hat, Key.sh, Key.nt, ↓stepR, normR, Int.cast_ofNat_Int, Int.natCast_nonneg, Int.toNat_natCast, Nat.reduceMod, Nat.reduceDiv, Nat.reducePow, Nat.testBit_eq_decide_div_mod_eq, ↓reduceIte, Nat.reduceEqDiff, Nat.reduceAdd, Nat.reduceSub, Nat.reduceMul, Nat.reduceLT, Nat.reduceLeDiff, Int.reduceEq, Int.reduceLT, Int.reduceLE, Int.reduceAdd, Int.reduceSub, Int.reduceMul, Int.reduceNeg, Int.reduceToNat, reduceCtorEq, eq_self]
          simp [doS, slotS, List.map_set, Slot.v, slot0, nextS]
        · have d' : ¬ p.ring.epoch < IntKind.i64.wrap ((p.at e2).since + 3) := fun h => d ⟨rfl, h⟩
          simp only [Pool.v, Entry.v, Ring.v, Slot.v, hc, c0, hb, b0, h0, h1, hat, Key.sh, Key.nt, d', ↓stepR, normR, Int.cast_ofNat_Int, Int.natCast_nonneg, Int.toNat_natCast, Nat.reduceMod, Nat.reduceDiv, Nat.reducePow, Nat.testBit_eq_decide_div_mod_eq, ↓reduceIte, Nat.reduceEqDiff, Nat.reduceAdd, Nat.reduceSub, Nat.reduceMul, Nat.reduceLT, Nat.reduceLeDiff, Int.reduceEq, Int.reduceLT, Int.reduceLE, Int.reduceAdd, Int.reduceSub, Int.reduceMul, Int.reduceNeg, Int.reduceToNat, reduceCtorEq, eq_self]
          simp [doS, slotS, List.map_set, Slot.v, slot0, nextS]
        · simp only [Pool.v, Entry.v, Ring.v, Slot.v, hc, c0, hb, b0, h0, h1, hat, Key.sh, Key.nt, hr, ↓stepR, normR, Int.cast_ofNat_Int, Int.natCast_nonneg, Int.toNat_natCast, Nat.reduceMod, Nat.reduceDiv, Nat.reducePow, Nat.testBit_eq_decide_div_mod_eq, ↓reduceIte, Nat.reduceEqDiff, Nat.reduceAdd, Nat.reduceSub, Nat.reduceMul, Nat.reduceLT, Nat.reduceLeDiff, Int.reduceEq, Int.reduceLT, Int.reduceLE, Int.reduceAdd, Int.reduceSub, Int.reduceMul, Int.reduceNeg, Int.reduceToNat, reduceCtorEq, eq_self]
          simp [doS, slotS, List.map_set, Slot.v, slot0, nextS]
  · have he : applyE p e = checkS e := by simp [applyE, c0]
    have hs : applyS p e = pool0 := by simp [applyS, he, c0]
    rw [he, hs]
    unfold F27
    simp only [Pool.sh, Pool.nt, Entry.sh, Entry.nt, hc, c0, ↓stepR, normR, Int.cast_ofNat_Int, Int.natCast_nonneg, Int.toNat_natCast, Nat.reduceMod, Nat.reduceDiv, Nat.reducePow, Nat.testBit_eq_decide_div_mod_eq, ↓reduceIte, Nat.reduceEqDiff, Nat.reduceAdd, Nat.reduceSub, Nat.reduceMul, Nat.reduceLT, Nat.reduceLeDiff, Int.reduceEq, Int.reduceLT, Int.reduceLE, Int.reduceAdd, Int.reduceSub, Int.reduceMul, Int.reduceNeg, Int.reduceToNat, reduceCtorEq, eq_self]
    rfl
theorem call_apply27 (p : Pool) (hp : p.slots.length = 64) (e : Entry) (h : H) (k : V → H → Prop) : callK pu CL 27 [p.v, e.v] h k = k (.tup [(applyS p e).v, .i .i64 (applyE p e)]) h := (ans_apply27 p hp e).k h k
theorem dcall_apply27 (p : Pool) (hp : p.slots.length = 64) (e : Entry) (h : H) (k : V → H → Cls → Prop) : callD pu CL false 27 [p.v, e.v] h k = k (.tup [(applyS p e).v, .i .i64 (applyE p e)]) h .pu := (ans_apply27 p hp e).d h k
end Go.Rae.Order
