/- Changes of pools: what the reference's calls answer. -/
import Derived.Test.YtannfoaobeoafaaDoorOrdPool
set_option linter.unusedVariables false
set_option linter.unusedSimpArgs false
namespace Go.Rae.Order
set_option maxRecDepth 100000

theorem any_no {α : Type} {P : α → Bool} {l : List α} (hn : ∀ j (hj : j < l.length), P l[j] = false) : l.any P = false := by
  rw [List.any_eq_false]
  intro x hx
  obtain ⟨j, hj, rfl⟩ := List.getElem_of_mem hx
  simp [hn j hj]
theorem any_yes {α : Type} {P : α → Bool} {l : List α} {i : Nat} (hi : i < l.length) (h : P l[i] = true) : l.any P = true := by
  rw [List.any_eq_true]; exact ⟨_, List.getElem_mem hi, h⟩

theorem ans_held39 (p : Pool) (hp : p.slots.length = 64) (a b : Int) : Ans 39 [p.v, .i .i64 a, .i .i64 b] (.b (heldS p a b)) := by
  refine ⟨run (fn := F39) rfl rfl ?_, rfl, rfl⟩
  unfold F39
  simp only [Pool.sh, Pool.nt, ↓stepR, normR, Int.cast_ofNat_Int, Int.natCast_nonneg, Int.toNat_natCast, Nat.reduceMod, Nat.reduceDiv, Nat.reducePow, Nat.testBit_eq_decide_div_mod_eq, ↓reduceIte, Nat.reduceEqDiff, Nat.reduceAdd, Nat.reduceSub, Nat.reduceMul, Nat.reduceLT, Nat.reduceLeDiff, Int.reduceEq, Int.reduceLT, Int.reduceLE, Int.reduceAdd, Int.reduceSub, Int.reduceMul, Int.reduceNeg, Int.reduceToNat, reduceCtorEq, eq_self]
  refine W_up 64 (fun i e h => e = [(1, .i .i64 a), (2, .i .i64 b), (3, .ptr 0 0 [] 15), (7, .i .i64 i)] ∧ h.get 0 = some (.cells p.v false false) ∧ ∀ j (hj : j < p.slots.length), j < i → taken a b p.slots[j] = false) ?_ 0 (by omega) _ _ ?_
  · rintro i e h hi ⟨rfl, hg, hn⟩
    have hn0 : ¬ 0 = h.n := by have := H.lt_of hg; omega
    simp only [Pool.v] at hg
    by_cases c1 : (i : Int) < 64
    · have hi' : i < p.slots.length := by omega
      have hi2 : i < 64 := by omega
      cases hs : taken a b p.slots[i] with
      | true =>
        have hd := hs
        simp only [taken, decide_eq_true_eq, ne_eq] at hd
        obtain ⟨d1, d2, d3⟩ := hd
        simp only [c1, objK_of hg, Pool.v, nthK_map _ _ _ _ hi', hn0, Slot.v, d1, d2, d3, ↓stepR, normR, Int.cast_ofNat_Int, Int.natCast_nonneg, Int.toNat_natCast, Nat.reduceMod, Nat.reduceDiv, Nat.reducePow, Nat.testBit_eq_decide_div_mod_eq, ↓reduceIte, Nat.reduceEqDiff, Nat.reduceAdd, Nat.reduceSub, Nat.reduceMul, Nat.reduceLT, Nat.reduceLeDiff, Int.reduceEq, Int.reduceLT, Int.reduceLE, Int.reduceAdd, Int.reduceSub, Int.reduceMul, Int.reduceNeg, Int.reduceToNat, reduceCtorEq, eq_self]
        simp [heldS, any_yes hi' hs]
      | false =>
        have hd : ¬ (¬ p.slots[i].state = 0 ∧ p.slots[i].addr = a ∧ p.slots[i].port = b) := by simpa only [taken, decide_eq_false_iff_not, ne_eq] using hs
        have fin : ∀ j (hj : j < p.slots.length), j < i + 1 → taken a b p.slots[j] = false := fun j hj hlt => by
          by_cases e : j = i
          · subst e; exact hs
          · exact hn j hj (by omega)
        have hw := @wrap_up i (by omega)
        by_cases d1 : p.slots[i].state = 0
        · simp only [c1, objK_of hg, Pool.v, nthK_map _ _ _ _ hi', hn0, Slot.v, d1, hw, hi2, hg, ↓stepR, normR, Int.cast_ofNat_Int, Int.natCast_nonneg, Int.toNat_natCast, Nat.reduceMod, Nat.reduceDiv, Nat.reducePow, Nat.testBit_eq_decide_div_mod_eq, ↓reduceIte, Nat.reduceEqDiff, Nat.reduceAdd, Nat.reduceSub, Nat.reduceMul, Nat.reduceLT, Nat.reduceLeDiff, Int.reduceEq, Int.reduceLT, Int.reduceLE, Int.reduceAdd, Int.reduceSub, Int.reduceMul, Int.reduceNeg, Int.reduceToNat, reduceCtorEq, eq_self]
          exact fin
        · by_cases d2 : p.slots[i].addr = a
          · have d3 : ¬ p.slots[i].port = b := fun d3 => hd ⟨d1, d2, d3⟩
            simp only [c1, objK_of hg, Pool.v, nthK_map _ _ _ _ hi', hn0, Slot.v, d1, d2, d3, hw, hi2, hg, ↓stepR, normR, Int.cast_ofNat_Int, Int.natCast_nonneg, Int.toNat_natCast, Nat.reduceMod, Nat.reduceDiv, Nat.reducePow, Nat.testBit_eq_decide_div_mod_eq, ↓reduceIte, Nat.reduceEqDiff, Nat.reduceAdd, Nat.reduceSub, Nat.reduceMul, Nat.reduceLT, Nat.reduceLeDiff, Int.reduceEq, Int.reduceLT, Int.reduceLE, Int.reduceAdd, Int.reduceSub, Int.reduceMul, Int.reduceNeg, Int.reduceToNat, reduceCtorEq, eq_self]
            exact fin
          · simp only [c1, objK_of hg, Pool.v, nthK_map _ _ _ _ hi', hn0, Slot.v, d1, d2, hw, hi2, hg, ↓stepR, normR, Int.cast_ofNat_Int, Int.natCast_nonneg, Int.toNat_natCast, Nat.reduceMod, Nat.reduceDiv, Nat.reducePow, Nat.testBit_eq_decide_div_mod_eq, ↓reduceIte, Nat.reduceEqDiff, Nat.reduceAdd, Nat.reduceSub, Nat.reduceMul, Nat.reduceLT, Nat.reduceLeDiff, Int.reduceEq, Int.reduceLT, Int.reduceLE, Int.reduceAdd, Int.reduceSub, Int.reduceMul, Int.reduceNeg, Int.reduceToNat, reduceCtorEq, eq_self]
            exact fin
    · have hno := any_no fun j hj => hn j hj (by omega)
      by_cases d1 : p.addr = a
      · simp only [c1, objK_of hg, d1, ↓stepR, normR, Int.cast_ofNat_Int, Int.natCast_nonneg, Int.toNat_natCast, Nat.reduceMod, Nat.reduceDiv, Nat.reducePow, Nat.testBit_eq_decide_div_mod_eq, ↓reduceIte, Nat.reduceEqDiff, Nat.reduceAdd, Nat.reduceSub, Nat.reduceMul, Nat.reduceLT, Nat.reduceLeDiff, Int.reduceEq, Int.reduceLT, Int.reduceLE, Int.reduceAdd, Int.reduceSub, Int.reduceMul, Int.reduceNeg, Int.reduceToNat, reduceCtorEq, eq_self]
        simp [heldS, hno, d1]
      · simp only [c1, objK_of hg, d1, ↓stepR, normR, Int.cast_ofNat_Int, Int.natCast_nonneg, Int.toNat_natCast, Nat.reduceMod, Nat.reduceDiv, Nat.reducePow, Nat.testBit_eq_decide_div_mod_eq, ↓reduceIte, Nat.reduceEqDiff, Nat.reduceAdd, Nat.reduceSub, Nat.reduceMul, Nat.reduceLT, Nat.reduceLeDiff, Int.reduceEq, Int.reduceLT, Int.reduceLE, Int.reduceAdd, Int.reduceSub, Int.reduceMul, Int.reduceNeg, Int.reduceToNat, reduceCtorEq, eq_self]
        simp [heldS, d1, hno]
  · exact ⟨rfl, rfl, fun j hj h => absurd h (by omega)⟩
theorem call_held39 (p : Pool) (hp : p.slots.length = 64) (a b : Int) (h : H) (k : V → H → Prop) : callK pu CL 39 [p.v, .i .i64 a, .i .i64 b] h k = k (.b (heldS p a b)) h := (ans_held39 p hp a b).k h k
theorem dcall_held39 (p : Pool) (hp : p.slots.length = 64) (a b : Int) (h : H) (k : V → H → Cls → Prop) : callD pu CL false 39 [p.v, .i .i64 a, .i .i64 b] h k = k (.b (heldS p a b)) h .pu := (ans_held39 p hp a b).d h k

/-- Where an entry's slot is. -/
def Pool.at (p : Pool) (i : Int) : Slot := p.slots.getD i.toNat slot0
theorem nthK_at {p : Pool} (hp : p.slots.length = 64) {i : Int} (h0 : 0 ≤ i) (h1 : i < 64) (k : V → Prop) : nthK (p.slots.map Slot.v) i.toNat k = k (p.at i).v := by
  have hi : i.toNat < p.slots.length := by omega
  rw [nthK_map _ _ _ _ hi]
  simp [Pool.at, List.getD, hi]

def badS (p : Pool) (e : Entry) : Bool :=
  let s := (p.at e.slot).state
  if e.kind = 1 then decide (s ≠ 0) || heldS p e.addr e.port
  else if e.kind = 2 ∨ e.kind = 4 then decide (s ≠ 1 ∧ s ≠ 3)
  else if e.kind = 3 then decide (s ≠ 2)
  else if e.kind = 5 then decide (s ≠ 4)
  else false

theorem ans_bad57 (p : Pool) (hp : p.slots.length = 64) (e : Entry) (h0 : 0 ≤ e.slot) (h1 : e.slot < 64) : Ans 57 [p.v, e.v] (.b (badS p e)) := by
  obtain ⟨e1, e2, e3, e4, e5, e6⟩ := e
  have hat := nthK_at hp h0 h1
  simp only at h0 h1 hat
  have held := call_held39 p hp e3 e4
  refine ⟨run (fn := F57) rfl rfl ?_, rfl, rfl⟩
  unfold F57
  simp only [Pool.v] at held
  by_cases c1 : e1 = 1
  · subst c1
    by_cases d : (p.at e2).state = 0
    · simp only [Pool.v, Entry.v, Pool.sh, Pool.nt, Key.sh, h0, h1, hat, Slot.v, held, d, ↓stepR, normR, Int.cast_ofNat_Int, Int.natCast_nonneg, Int.toNat_natCast, Nat.reduceMod, Nat.reduceDiv, Nat.reducePow, Nat.testBit_eq_decide_div_mod_eq, ↓reduceIte, Nat.reduceEqDiff, Nat.reduceAdd, Nat.reduceSub, Nat.reduceMul, Nat.reduceLT, Nat.reduceLeDiff, Int.reduceEq, Int.reduceLT, Int.reduceLE, Int.reduceAdd, Int.reduceSub, Int.reduceMul, Int.reduceNeg, Int.reduceToNat, reduceCtorEq, eq_self]
      simp [badS, d]
    · simp only [Pool.v, Entry.v, Pool.sh, Pool.nt, Key.sh, h0, h1, hat, Slot.v, held, d, ↓stepR, normR, Int.cast_ofNat_Int, Int.natCast_nonneg, Int.toNat_natCast, Nat.reduceMod, Nat.reduceDiv, Nat.reducePow, Nat.testBit_eq_decide_div_mod_eq, ↓reduceIte, Nat.reduceEqDiff, Nat.reduceAdd, Nat.reduceSub, Nat.reduceMul, Nat.reduceLT, Nat.reduceLeDiff, Int.reduceEq, Int.reduceLT, Int.reduceLE, Int.reduceAdd, Int.reduceSub, Int.reduceMul, Int.reduceNeg, Int.reduceToNat, reduceCtorEq, eq_self]
      simp [badS, d]
  · by_cases c2 : e1 = 2
    · subst c2
      by_cases d : (p.at e2).state = 1
      · simp only [Pool.v, Entry.v, h0, h1, hat, Slot.v, d, ↓stepR, normR, Int.cast_ofNat_Int, Int.natCast_nonneg, Int.toNat_natCast, Nat.reduceMod, Nat.reduceDiv, Nat.reducePow, Nat.testBit_eq_decide_div_mod_eq, ↓reduceIte, Nat.reduceEqDiff, Nat.reduceAdd, Nat.reduceSub, Nat.reduceMul, Nat.reduceLT, Nat.reduceLeDiff, Int.reduceEq, Int.reduceLT, Int.reduceLE, Int.reduceAdd, Int.reduceSub, Int.reduceMul, Int.reduceNeg, Int.reduceToNat, reduceCtorEq, eq_self]
        simp [badS, d]
      · simp only [Pool.v, Entry.v, h0, h1, hat, Slot.v, d, ↓stepR, normR, Int.cast_ofNat_Int, Int.natCast_nonneg, Int.toNat_natCast, Nat.reduceMod, Nat.reduceDiv, Nat.reducePow, Nat.testBit_eq_decide_div_mod_eq, ↓reduceIte, Nat.reduceEqDiff, Nat.reduceAdd, Nat.reduceSub, Nat.reduceMul, Nat.reduceLT, Nat.reduceLeDiff, Int.reduceEq, Int.reduceLT, Int.reduceLE, Int.reduceAdd, Int.reduceSub, Int.reduceMul, Int.reduceNeg, Int.reduceToNat, reduceCtorEq, eq_self]
        simp [badS, d]
    · by_cases c4 : e1 = 4
      · subst c4
        by_cases d : (p.at e2).state = 1
        · simp only [Pool.v, Entry.v, h0, h1, hat, Slot.v, d, ↓stepR, normR, Int.cast_ofNat_Int, Int.natCast_nonneg, Int.toNat_natCast, Nat.reduceMod, Nat.reduceDiv, Nat.reducePow, Nat.testBit_eq_decide_div_mod_eq, ↓reduceIte, Nat.reduceEqDiff, Nat.reduceAdd, Nat.reduceSub, Nat.reduceMul, Nat.reduceLT, Nat.reduceLeDiff, Int.reduceEq, Int.reduceLT, Int.reduceLE, Int.reduceAdd, Int.reduceSub, Int.reduceMul, Int.reduceNeg, Int.reduceToNat, reduceCtorEq, eq_self]
          simp [badS, d]
        · simp only [Pool.v, Entry.v, h0, h1, hat, Slot.v, d, ↓stepR, normR, Int.cast_ofNat_Int, Int.natCast_nonneg, Int.toNat_natCast, Nat.reduceMod, Nat.reduceDiv, Nat.reducePow, Nat.testBit_eq_decide_div_mod_eq, ↓reduceIte, Nat.reduceEqDiff, Nat.reduceAdd, Nat.reduceSub, Nat.reduceMul, Nat.reduceLT, Nat.reduceLeDiff, Int.reduceEq, Int.reduceLT, Int.reduceLE, Int.reduceAdd, Int.reduceSub, Int.reduceMul, Int.reduceNeg, Int.reduceToNat, reduceCtorEq, eq_self]
          simp [badS, d]
      · by_cases c3 : e1 = 3
        · subst c3
          simp only [Pool.v, Entry.v, h0, h1, hat, Slot.v, ↓stepR, normR, Int.cast_ofNat_Int, Int.natCast_nonneg, Int.toNat_natCast, Nat.reduceMod, Nat.reduceDiv, Nat.reducePow, Nat.testBit_eq_decide_div_mod_eq, ↓reduceIte, Nat.reduceEqDiff, Nat.reduceAdd, Nat.reduceSub, Nat.reduceMul, Nat.reduceLT, Nat.reduceLeDiff, Int.reduceEq, Int.reduceLT, Int.reduceLE, Int.reduceAdd, Int.reduceSub, Int.reduceMul, Int.reduceNeg, Int.reduceToNat, reduceCtorEq, eq_self]
          simp [badS]
        · by_cases c5 : e1 = 5
          · subst c5
            simp only [Pool.v, Entry.v, h0, h1, hat, Slot.v, ↓stepR, normR, Int.cast_ofNat_Int, Int.natCast_nonneg, Int.toNat_natCast, Nat.reduceMod, Nat.reduceDiv, Nat.reducePow, Nat.testBit_eq_decide_div_mod_eq, ↓reduceIte, Nat.reduceEqDiff, Nat.reduceAdd, Nat.reduceSub, Nat.reduceMul, Nat.reduceLT, Nat.reduceLeDiff, Int.reduceEq, Int.reduceLT, Int.reduceLE, Int.reduceAdd, Int.reduceSub, Int.reduceMul, Int.reduceNeg, Int.reduceToNat, reduceCtorEq, eq_self]
            simp [badS]
          · simp only [Pool.v, Entry.v, h0, h1, hat, Slot.v, c1, c2, c3, c4, c5, ↓stepR, normR, Int.cast_ofNat_Int, Int.natCast_nonneg, Int.toNat_natCast, Nat.reduceMod, Nat.reduceDiv, Nat.reducePow, Nat.testBit_eq_decide_div_mod_eq, ↓reduceIte, Nat.reduceEqDiff, Nat.reduceAdd, Nat.reduceSub, Nat.reduceMul, Nat.reduceLT, Nat.reduceLeDiff, Int.reduceEq, Int.reduceLT, Int.reduceLE, Int.reduceAdd, Int.reduceSub, Int.reduceMul, Int.reduceNeg, Int.reduceToNat, reduceCtorEq, eq_self]
            simp [badS, c1, c2, c3, c4, c5]
theorem call_bad57 (p : Pool) (hp : p.slots.length = 64) (e : Entry) (h0 : 0 ≤ e.slot) (h1 : e.slot < 64) (h : H) (k : V → H → Prop) : callK pu CL 57 [p.v, e.v] h k = k (.b (badS p e)) h := (ans_bad57 p hp e h0 h1).k h k
theorem dcall_bad57 (p : Pool) (hp : p.slots.length = 64) (e : Entry) (h0 : 0 ≤ e.slot) (h1 : e.slot < 64) (h : H) (k : V → H → Cls → Prop) : callD pu CL false 57 [p.v, e.v] h k = k (.b (badS p e)) h .pu := (ans_bad57 p hp e h0 h1).d h k

def nextS (r : Ring) (k : Key) : Ring := ⟨IntKind.i64.wrap (r.epoch + 1), r.cur, r.next, k⟩
theorem ans_next58 (r : Ring) (kk : Key) : Ans 58 [r.v, kk.v] ((nextS r kk).v) := by
  refine ⟨run (fn := F58) rfl rfl ?_, rfl, rfl⟩
  unfold F58
  simp only [Ring.v, Ring.sh, Ring.nt, Key.sh, Key.nt, ↓stepR, normR, Int.cast_ofNat_Int, Int.natCast_nonneg, Int.toNat_natCast, Nat.reduceMod, Nat.reduceDiv, Nat.reducePow, Nat.testBit_eq_decide_div_mod_eq, ↓reduceIte, Nat.reduceEqDiff, Nat.reduceAdd, Nat.reduceSub, Nat.reduceMul, Nat.reduceLT, Nat.reduceLeDiff, Int.reduceEq, Int.reduceLT, Int.reduceLE, Int.reduceAdd, Int.reduceSub, Int.reduceMul, Int.reduceNeg, Int.reduceToNat, reduceCtorEq, eq_self]
  rfl
theorem call_next58 (r : Ring) (kk : Key) (h : H) (k : V → H → Prop) : callK pu CL 58 [r.v, kk.v] h k = k ((nextS r kk).v) h := (ans_next58 r kk).k h k
theorem dcall_next58 (r : Ring) (kk : Key) (h : H) (k : V → H → Cls → Prop) : callD pu CL false 58 [r.v, kk.v] h k = k ((nextS r kk).v) h .pu := (ans_next58 r kk).d h k
end Go.Rae.Order
