/- Add: what it answers, the document's too. -/
import Derived.Test.YtannfoaobeoafaaDoorOrdFn
set_option linter.unusedVariables false
set_option linter.unusedSimpArgs false
namespace Go.Rae.Order
set_option maxRecDepth 100000

def addE (i : Nat) (a b c : Int) : Entry := ⟨1, i, a, b, c, key0⟩
def openE (i : Nat) : Entry := ⟨2, i, 0, 0, 0, key0⟩
def freeS (s : Slot) : Bool := decide (s.state = 0)
def addS (p : Pool) (a b c : Int) : List Entry × Int :=
  if checkS (addE 0 a b c) ≠ 0 then ([], 14)
  else if heldS p a b then ([], 12)
  else match p.slots.findIdx? freeS with
  | some i => ([addE i a b c, openE i], 0)
  | none => ([], 9)

theorem check_add (i : Nat) (a b c : Int) : checkS (addE 0 a b c) = 0 ∨ checkS (addE 0 a b c) = 14 := by
  unfold checkS addE
  simp only
  rw [if_neg (by omega), if_neg (by omega), if_pos trivial]
  split
  · exact .inr rfl
  · exact .inl rfl

theorem isAt_pool {g : H} {id : Nat} {p : Pool} (hg : g.get id = some (.cells p.v false false)) : g.isAt id 0 [3] 12 = true := by
  unfold H.isAt H.read H.root; simp only [hg, stampOf_false]; rfl
theorem callK_add35 (s : Slot) (a b : Int) (i j : Nat) (h : H) (hi : h.get i = some (.cells (.i .i64 a) false false)) (hj : h.get j = some (.cells (.i .i64 b) false false)) (k : V → H → Prop) (hk : ∀ h', Grow h h' → k (.b (taken a b s)) h') : callK pu CL 35 [s.v, .ptr i 0 [] 6, .ptr j 0 [] 6] h k := by
  have hr : noRefs pu [s.v, .ptr i 0 [] 6, .ptr j 0 [] 6] = false := rfl
  rw [callK_refs hr]
  exact (run_add35 s a b i j h hi hj).mono fun w h' ⟨x, y⟩ => by subst x; exact hk h' y
theorem boxes4 (h : H) (x y z u w : Obj) : (((((h.push x).push y).push z).push u).set (h.n + 3) w).get h.n = some x ∧ (((((h.push x).push y).push z).push u).set (h.n + 3) w).get (h.n + 1) = some y ∧
    (((((h.push x).push y).push z).push u).set (h.n + 3) w).get (h.n + 2) = some z ∧ (((((h.push x).push y).push z).push u).set (h.n + 3) w).get (h.n + 3) = some w ∧ Grow h (((((h.push x).push y).push z).push u).set (h.n + 3) w) ∧
    (((((h.push x).push y).push z).push u).set (h.n + 3) w).n = h.n + 4 := by
  refine ⟨?_, ?_, ?_, ?_, ?_, ?_⟩
  · simp only [↓stepR, normR, Int.cast_ofNat_Int, Int.natCast_nonneg, Int.toNat_natCast, Nat.reduceMod, Nat.reduceDiv, Nat.reducePow, Nat.testBit_eq_decide_div_mod_eq, ↓reduceIte, Nat.reduceEqDiff, Nat.reduceAdd, Nat.reduceSub, Nat.reduceMul, Nat.reduceLT, Nat.reduceLeDiff, Int.reduceEq, Int.reduceLT, Int.reduceLE, Int.reduceAdd, Int.reduceSub, Int.reduceMul, Int.reduceNeg, Int.reduceToNat, reduceCtorEq, eq_self]
  · simp only [↓stepR, normR, Int.cast_ofNat_Int, Int.natCast_nonneg, Int.toNat_natCast, Nat.reduceMod, Nat.reduceDiv, Nat.reducePow, Nat.testBit_eq_decide_div_mod_eq, ↓reduceIte, Nat.reduceEqDiff, Nat.reduceAdd, Nat.reduceSub, Nat.reduceMul, Nat.reduceLT, Nat.reduceLeDiff, Int.reduceEq, Int.reduceLT, Int.reduceLE, Int.reduceAdd, Int.reduceSub, Int.reduceMul, Int.reduceNeg, Int.reduceToNat, reduceCtorEq, eq_self]
  · simp only [↓stepR, normR, Int.cast_ofNat_Int, Int.natCast_nonneg, Int.toNat_natCast, Nat.reduceMod, Nat.reduceDiv, Nat.reducePow, Nat.testBit_eq_decide_div_mod_eq, ↓reduceIte, Nat.reduceEqDiff, Nat.reduceAdd, Nat.reduceSub, Nat.reduceMul, Nat.reduceLT, Nat.reduceLeDiff, Int.reduceEq, Int.reduceLT, Int.reduceLE, Int.reduceAdd, Int.reduceSub, Int.reduceMul, Int.reduceNeg, Int.reduceToNat, reduceCtorEq, eq_self]
  · simp only [↓stepR, normR, Int.cast_ofNat_Int, Int.natCast_nonneg, Int.toNat_natCast, Nat.reduceMod, Nat.reduceDiv, Nat.reducePow, Nat.testBit_eq_decide_div_mod_eq, ↓reduceIte, Nat.reduceEqDiff, Nat.reduceAdd, Nat.reduceSub, Nat.reduceMul, Nat.reduceLT, Nat.reduceLeDiff, Int.reduceEq, Int.reduceLT, Int.reduceLE, Int.reduceAdd, Int.reduceSub, Int.reduceMul, Int.reduceNeg, Int.reduceToNat, reduceCtorEq, eq_self]
  · exact ((((((Grow.refl h).push _).push _).push _).push _).set (by omega) (by simp only [↓stepR, normR, Int.cast_ofNat_Int, Int.natCast_nonneg, Int.toNat_natCast, Nat.reduceMod, Nat.reduceDiv, Nat.reducePow, Nat.testBit_eq_decide_div_mod_eq, ↓reduceIte, Nat.reduceEqDiff, Nat.reduceAdd, Nat.reduceSub, Nat.reduceMul, Nat.reduceLT, Nat.reduceLeDiff, Int.reduceEq, Int.reduceLT, Int.reduceLE, Int.reduceAdd, Int.reduceSub, Int.reduceMul, Int.reduceNeg, Int.reduceToNat, reduceCtorEq, eq_self]) _)
  · simp only [↓stepR, normR, Int.cast_ofNat_Int, Int.natCast_nonneg, Int.toNat_natCast, Nat.reduceMod, Nat.reduceDiv, Nat.reducePow, Nat.testBit_eq_decide_div_mod_eq, ↓reduceIte, Nat.reduceEqDiff, Nat.reduceAdd, Nat.reduceSub, Nat.reduceMul, Nat.reduceLT, Nat.reduceLeDiff, Int.reduceEq, Int.reduceLT, Int.reduceLE, Int.reduceAdd, Int.reduceSub, Int.reduceMul, Int.reduceNeg, Int.reduceToNat, reduceCtorEq, eq_self]

theorem run_add4 (p : Pool) (hp : p.slots.length = 64) (a b c : Int) (h : H) : Runs CL 4 [p.v, .i .i64 a, .i .i64 b, .i .i64 c] h fun w h' =>
    (∃ u, w = .tup [u, .i .i64 (addS p a b c).2] ∧ EntsF h.n h' u (addS p a b c).1) ∧ Grow h h' := by
  refine run (fn := F4) rfl rfl ?_
  unfold F4
  have e0 : ∀ x : Int, checkS (addE 0 a b c) = x → ∀ (h : H) (k : V → H → Prop), callK pu CL 34 [.agg 16 [.i .i64 1, .i .i64 0, .i .i64 a, .i .i64 b, .i .i64 c, .agg 13 [.i .u64 0, .i .u64 0]]] h k = k (.i .i64 x) h := fun x hx h k => by
    rw [← hx]; exact call_check34 (addE 0 a b c) h k
  simp only [Slot.sh, Slot.nt, Key.sh, Key.nt, Ring.sh, Ring.nt, Pool.sh, Pool.nt, Entry.sh, Entry.nt, ↓stepR, normR, Int.cast_ofNat_Int, Int.natCast_nonneg, Int.toNat_natCast, Nat.reduceMod, Nat.reduceDiv, Nat.reducePow, Nat.testBit_eq_decide_div_mod_eq, ↓reduceIte, Nat.reduceEqDiff, Nat.reduceAdd, Nat.reduceSub, Nat.reduceMul, Nat.reduceLT, Nat.reduceLeDiff, Int.reduceEq, Int.reduceLT, Int.reduceLE, Int.reduceAdd, Int.reduceSub, Int.reduceMul, Int.reduceNeg, Int.reduceToNat, reduceCtorEq, eq_self]
  obtain ⟨g0, g1, g2, g3, gG, gn⟩ := boxes4 h (.cells p.v false false) (.cells (.i .i64 a) false false) (.cells (.i .i64 b) false false) (.cells (.agg 16 [.i .i64 0, .i .i64 0, .i .i64 0, .i .i64 0, .i .i64 0, .agg 13 [.i .u64 0, .i .u64 0]]) false false) (.cells (.agg 16 [.i .i64 1, .i .i64 0, .i .i64 a, .i .i64 b, .i .i64 c, .agg 13 [.i .u64 0, .i .u64 0]]) false false)
  generalize H.set _ (h.n + 3) _ = g at *
  by_cases ck : checkS (addE 0 a b c) = 0
  · have hchk := e0 0 ck
    have hpv := g0
    simp only [Pool.v] at hpv
    by_cases m : p.addr = a ∧ p.port = b
    · obtain ⟨m1, m2⟩ := m
      have ea : addS p a b c = ([], 12) := by unfold addS; rw [if_neg (by simp [ck]), if_pos (by simp [heldS, m1, m2])]
      simp only [Slot.sh, Slot.nt, Key.sh, Key.nt, Ring.sh, Ring.nt, Pool.sh, Pool.nt, Entry.sh, Entry.nt, hchk, objK_of hpv, objK_of g1, objK_of g2, objK_of g3, m1, m2, ↓stepR, normR, Int.cast_ofNat_Int, Int.natCast_nonneg, Int.toNat_natCast, Nat.reduceMod, Nat.reduceDiv, Nat.reducePow, Nat.testBit_eq_decide_div_mod_eq, ↓reduceIte, Nat.reduceEqDiff, Nat.reduceAdd, Nat.reduceSub, Nat.reduceMul, Nat.reduceLT, Nat.reduceLeDiff, Int.reduceEq, Int.reduceLT, Int.reduceLE, Int.reduceAdd, Int.reduceSub, Int.reduceMul, Int.reduceNeg, Int.reduceToNat, reduceCtorEq, eq_self]
      rw [ea]
      exact ⟨⟨_, rfl, .inl ⟨rfl, rfl⟩⟩, gG⟩
    · have hb : ∀ k, boundsK 64 (some 64) none none none k = k (0, 64, some 64) := fun k => boundsK_of (by simp [bounds, bound]) k
      by_cases m1 : p.addr = a
      · have m2 : ¬ p.port = b := fun h => m ⟨m1, h⟩
        simp only [Slot.sh, Slot.nt, Key.sh, Key.nt, Ring.sh, Ring.nt, Pool.sh, Pool.nt, Entry.sh, Entry.nt, hchk, objK_of hpv, objK_of g1, objK_of g2, objK_of g3, m1, m2, isAt_pool g0, hb, Nat.sub_zero, Option.map_some, ↓stepR, normR, Int.cast_ofNat_Int, Int.natCast_nonneg, Int.toNat_natCast, Nat.reduceMod, Nat.reduceDiv, Nat.reducePow, Nat.testBit_eq_decide_div_mod_eq, ↓reduceIte, Nat.reduceEqDiff, Nat.reduceAdd, Nat.reduceSub, Nat.reduceMul, Nat.reduceLT, Nat.reduceLeDiff, Int.reduceEq, Int.reduceLT, Int.reduceLE, Int.reduceAdd, Int.reduceSub, Int.reduceMul, Int.reduceNeg, Int.reduceToNat, reduceCtorEq, eq_self]
        refine ⟨rfl, ?_⟩
        simp only [Slot.sh, Slot.nt, Key.sh, Key.nt, Ring.sh, Ring.nt, Pool.sh, Pool.nt, Entry.sh, Entry.nt, m2, ↓stepR, normR, Int.cast_ofNat_Int, Int.natCast_nonneg, Int.toNat_natCast, Nat.reduceMod, Nat.reduceDiv, Nat.reducePow, Nat.testBit_eq_decide_div_mod_eq, ↓reduceIte, Nat.reduceEqDiff, Nat.reduceAdd, Nat.reduceSub, Nat.reduceMul, Nat.reduceLT, Nat.reduceLeDiff, Int.reduceEq, Int.reduceLT, Int.reduceLE, Int.reduceAdd, Int.reduceSub, Int.reduceMul, Int.reduceNeg, Int.reduceToNat, reduceCtorEq, eq_self]
        refine callK_contains36 p hp h.n g g0 35 [.ptr (h.n + 1) 0 [] 6, .ptr (h.n + 2) 0 [] 6] (taken a b) (fun s hh k hG hk => callK_add35 s a b _ _ hh (hG.2 _ _ g1) (hG.2 _ _ g2) k hk) _ (fun h5 G5 => ?_)
        have hpv5 := G5.2 _ _ hpv
        have g05 := G5.2 _ _ g0
        have g35 := G5.2 _ _ g3
        cases hany : p.slots.any (taken a b) with
        | true =>
          have ea : addS p a b c = ([], 12) := by unfold addS; rw [if_neg (by simp [ck]), if_pos (by simp [heldS, hany])]
          simp only [m2, ↓stepR, normR, Int.cast_ofNat_Int, Int.natCast_nonneg, Int.toNat_natCast, Nat.reduceMod, Nat.reduceDiv, Nat.reducePow, Nat.testBit_eq_decide_div_mod_eq, ↓reduceIte, Nat.reduceEqDiff, Nat.reduceAdd, Nat.reduceSub, Nat.reduceMul, Nat.reduceLT, Nat.reduceLeDiff, Int.reduceEq, Int.reduceLT, Int.reduceLE, Int.reduceAdd, Int.reduceSub, Int.reduceMul, Int.reduceNeg, Int.reduceToNat, reduceCtorEq, eq_self]
          rw [ea]
          exact ⟨⟨_, rfl, .inl ⟨rfl, rfl⟩⟩, gG.trans G5⟩
        | false =>
          have hheld : heldS p a b = false := by unfold heldS; rw [hany]; simpa using m
          simp only [m2, objK_of hpv5, objK_of g35, isAt_pool g05, hb, Nat.sub_zero, Option.map_some, Slot.sh, Slot.nt, Key.sh, Key.nt, Ring.sh, Ring.nt, Pool.sh, Pool.nt, Entry.sh, Entry.nt, ↓stepR, normR, Int.cast_ofNat_Int, Int.natCast_nonneg, Int.toNat_natCast, Nat.reduceMod, Nat.reduceDiv, Nat.reducePow, Nat.testBit_eq_decide_div_mod_eq, ↓reduceIte, Nat.reduceEqDiff, Nat.reduceAdd, Nat.reduceSub, Nat.reduceMul, Nat.reduceLT, Nat.reduceLeDiff, Int.reduceEq, Int.reduceLT, Int.reduceLE, Int.reduceAdd, Int.reduceSub, Int.reduceMul, Int.reduceNeg, Int.reduceToNat, reduceCtorEq, eq_self]
          refine callK_index37 p hp h.n h5 g05 38 [] freeS (fun s hh k hG hk => by rw [show s.v :: [] = [s.v] from rfl, call_add38]; exact hk hh (Grow.refl hh)) _ (fun h6 G6 => ?_)
          have g06 := G6.2 _ _ g05
          have g36 := G6.2 _ _ g35
          have a36 := H.has_of g36
          cases hf : p.slots.findIdx? freeS with
          | none =>
            have ea : addS p a b c = ([], 9) := by unfold addS; rw [if_neg (by simp [ck]), if_neg (by simp [hheld]), hf]
            have i1 : idxI none = -1 := rfl
            rw [i1]
            simp only [objK_of g36, a36, ↓stepR, normR, Int.cast_ofNat_Int, Int.natCast_nonneg, Int.toNat_natCast, Nat.reduceMod, Nat.reduceDiv, Nat.reducePow, Nat.testBit_eq_decide_div_mod_eq, ↓reduceIte, Nat.reduceEqDiff, Nat.reduceAdd, Nat.reduceSub, Nat.reduceMul, Nat.reduceLT, Nat.reduceLeDiff, Int.reduceEq, Int.reduceLT, Int.reduceLE, Int.reduceAdd, Int.reduceSub, Int.reduceMul, Int.reduceNeg, Int.reduceToNat, reduceCtorEq, eq_self]
            rw [ea]
            exact ⟨⟨_, rfl, .inl ⟨rfl, rfl⟩⟩, ((gG.trans G5).trans G6).set (by omega) a36 _⟩
          | some i =>
            have ea : addS p a b c = ([addE i a b c, openE i], 0) := by unfold addS; rw [if_neg (by simp [ck]), if_neg (by simp [hheld]), hf]
            have i1 : idxI (some i) = (i : Int) := rfl
            have i2 : ¬ ((i : Int) < 0) := by omega
            rw [i1]
            simp only [objK_of g36, a36, i2, ↓stepR, normR, Int.cast_ofNat_Int, Int.natCast_nonneg, Int.toNat_natCast, Nat.reduceMod, Nat.reduceDiv, Nat.reducePow, Nat.testBit_eq_decide_div_mod_eq, ↓reduceIte, Nat.reduceEqDiff, Nat.reduceAdd, Nat.reduceSub, Nat.reduceMul, Nat.reduceLT, Nat.reduceLeDiff, Int.reduceEq, Int.reduceLT, Int.reduceLE, Int.reduceAdd, Int.reduceSub, Int.reduceMul, Int.reduceNeg, Int.reduceToNat, reduceCtorEq, eq_self]
            rw [ea]
            have hn6 := ((gG.trans G5).trans G6).1
            refine ⟨⟨_, rfl, .inr ⟨h6.n, 0, _, false, hn6, rfl, ?_, rfl⟩⟩, (((gG.trans G5).trans G6).set (by omega) a36 _).push _⟩
            rw [H.get_push', if_pos (by rw [H.set_n])]
            rfl
      · simp only [Slot.sh, Slot.nt, Key.sh, Key.nt, Ring.sh, Ring.nt, Pool.sh, Pool.nt, Entry.sh, Entry.nt, hchk, objK_of hpv, objK_of g1, objK_of g2, objK_of g3, m1, isAt_pool g0, hb, Nat.sub_zero, Option.map_some, ↓stepR, normR, Int.cast_ofNat_Int, Int.natCast_nonneg, Int.toNat_natCast, Nat.reduceMod, Nat.reduceDiv, Nat.reducePow, Nat.testBit_eq_decide_div_mod_eq, ↓reduceIte, Nat.reduceEqDiff, Nat.reduceAdd, Nat.reduceSub, Nat.reduceMul, Nat.reduceLT, Nat.reduceLeDiff, Int.reduceEq, Int.reduceLT, Int.reduceLE, Int.reduceAdd, Int.reduceSub, Int.reduceMul, Int.reduceNeg, Int.reduceToNat, reduceCtorEq, eq_self]
        refine ⟨rfl, ?_⟩
        simp only [Slot.sh, Slot.nt, Key.sh, Key.nt, Ring.sh, Ring.nt, Pool.sh, Pool.nt, Entry.sh, Entry.nt, ↓stepR, normR, Int.cast_ofNat_Int, Int.natCast_nonneg, Int.toNat_natCast, Nat.reduceMod, Nat.reduceDiv, Nat.reducePow, Nat.testBit_eq_decide_div_mod_eq, ↓reduceIte, Nat.reduceEqDiff, Nat.reduceAdd, Nat.reduceSub, Nat.reduceMul, Nat.reduceLT, Nat.reduceLeDiff, Int.reduceEq, Int.reduceLT, Int.reduceLE, Int.reduceAdd, Int.reduceSub, Int.reduceMul, Int.reduceNeg, Int.reduceToNat, reduceCtorEq, eq_self]
        refine callK_contains36 p hp h.n g g0 35 [.ptr (h.n + 1) 0 [] 6, .ptr (h.n + 2) 0 [] 6] (taken a b) (fun s hh k hG hk => callK_add35 s a b _ _ hh (hG.2 _ _ g1) (hG.2 _ _ g2) k hk) _ (fun h5 G5 => ?_)
        have hpv5 := G5.2 _ _ hpv
        have g05 := G5.2 _ _ g0
        have g35 := G5.2 _ _ g3
        cases hany : p.slots.any (taken a b) with
        | true =>
          have ea : addS p a b c = ([], 12) := by unfold addS; rw [if_neg (by simp [ck]), if_pos (by simp [heldS, hany])]
          simp only [↓stepR, normR, Int.cast_ofNat_Int, Int.natCast_nonneg, Int.toNat_natCast, Nat.reduceMod, Nat.reduceDiv, Nat.reducePow, Nat.testBit_eq_decide_div_mod_eq, ↓reduceIte, Nat.reduceEqDiff, Nat.reduceAdd, Nat.reduceSub, Nat.reduceMul, Nat.reduceLT, Nat.reduceLeDiff, Int.reduceEq, Int.reduceLT, Int.reduceLE, Int.reduceAdd, Int.reduceSub, Int.reduceMul, Int.reduceNeg, Int.reduceToNat, reduceCtorEq, eq_self]
          rw [ea]
          exact ⟨⟨_, rfl, .inl ⟨rfl, rfl⟩⟩, gG.trans G5⟩
        | false =>
          have hheld : heldS p a b = false := by unfold heldS; rw [hany]; simpa using m
          simp only [objK_of hpv5, objK_of g35, isAt_pool g05, hb, Nat.sub_zero, Option.map_some, Slot.sh, Slot.nt, Key.sh, Key.nt, Ring.sh, Ring.nt, Pool.sh, Pool.nt, Entry.sh, Entry.nt, ↓stepR, normR, Int.cast_ofNat_Int, Int.natCast_nonneg, Int.toNat_natCast, Nat.reduceMod, Nat.reduceDiv, Nat.reducePow, Nat.testBit_eq_decide_div_mod_eq, ↓reduceIte, Nat.reduceEqDiff, Nat.reduceAdd, Nat.reduceSub, Nat.reduceMul, Nat.reduceLT, Nat.reduceLeDiff, Int.reduceEq, Int.reduceLT, Int.reduceLE, Int.reduceAdd, Int.reduceSub, Int.reduceMul, Int.reduceNeg, Int.reduceToNat, reduceCtorEq, eq_self]
          refine callK_index37 p hp h.n h5 g05 38 [] freeS (fun s hh k hG hk => by rw [show s.v :: [] = [s.v] from rfl, call_add38]; exact hk hh (Grow.refl hh)) _ (fun h6 G6 => ?_)
          have g06 := G6.2 _ _ g05
          have g36 := G6.2 _ _ g35
          have a36 := H.has_of g36
          cases hf : p.slots.findIdx? freeS with
          | none =>
            have ea : addS p a b c = ([], 9) := by unfold addS; rw [if_neg (by simp [ck]), if_neg (by simp [hheld]), hf]
            have i1 : idxI none = -1 := rfl
            rw [i1]
            simp only [objK_of g36, a36, ↓stepR, normR, Int.cast_ofNat_Int, Int.natCast_nonneg, Int.toNat_natCast, Nat.reduceMod, Nat.reduceDiv, Nat.reducePow, Nat.testBit_eq_decide_div_mod_eq, ↓reduceIte, Nat.reduceEqDiff, Nat.reduceAdd, Nat.reduceSub, Nat.reduceMul, Nat.reduceLT, Nat.reduceLeDiff, Int.reduceEq, Int.reduceLT, Int.reduceLE, Int.reduceAdd, Int.reduceSub, Int.reduceMul, Int.reduceNeg, Int.reduceToNat, reduceCtorEq, eq_self]
            rw [ea]
            exact ⟨⟨_, rfl, .inl ⟨rfl, rfl⟩⟩, ((gG.trans G5).trans G6).set (by omega) a36 _⟩
          | some i =>
            have ea : addS p a b c = ([addE i a b c, openE i], 0) := by unfold addS; rw [if_neg (by simp [ck]), if_neg (by simp [hheld]), hf]
            have i1 : idxI (some i) = (i : Int) := rfl
            have i2 : ¬ ((i : Int) < 0) := by omega
            rw [i1]
            simp only [objK_of g36, a36, i2, ↓stepR, normR, Int.cast_ofNat_Int, Int.natCast_nonneg, Int.toNat_natCast, Nat.reduceMod, Nat.reduceDiv, Nat.reducePow, Nat.testBit_eq_decide_div_mod_eq, ↓reduceIte, Nat.reduceEqDiff, Nat.reduceAdd, Nat.reduceSub, Nat.reduceMul, Nat.reduceLT, Nat.reduceLeDiff, Int.reduceEq, Int.reduceLT, Int.reduceLE, Int.reduceAdd, Int.reduceSub, Int.reduceMul, Int.reduceNeg, Int.reduceToNat, reduceCtorEq, eq_self]
            rw [ea]
            have hn6 := ((gG.trans G5).trans G6).1
            refine ⟨⟨_, rfl, .inr ⟨h6.n, 0, _, false, hn6, rfl, ?_, rfl⟩⟩, (((gG.trans G5).trans G6).set (by omega) a36 _).push _⟩
            rw [H.get_push', if_pos (by rw [H.set_n])]
            rfl
  · have e14 := (check_add 0 a b c).resolve_left ck
    have hchk := e0 14 e14
    have ea : addS p a b c = ([], 14) := by unfold addS; rw [if_pos ck]
    simp only [Slot.sh, Slot.nt, Key.sh, Key.nt, Ring.sh, Ring.nt, Pool.sh, Pool.nt, Entry.sh, Entry.nt, hchk, ↓stepR, normR, Int.cast_ofNat_Int, Int.natCast_nonneg, Int.toNat_natCast, Nat.reduceMod, Nat.reduceDiv, Nat.reducePow, Nat.testBit_eq_decide_div_mod_eq, ↓reduceIte, Nat.reduceEqDiff, Nat.reduceAdd, Nat.reduceSub, Nat.reduceMul, Nat.reduceLT, Nat.reduceLeDiff, Int.reduceEq, Int.reduceLT, Int.reduceLE, Int.reduceAdd, Int.reduceSub, Int.reduceMul, Int.reduceNeg, Int.reduceToNat, reduceCtorEq, eq_self]
    rw [ea]
    exact ⟨⟨_, rfl, .inl ⟨rfl, rfl⟩⟩, gG⟩

theorem boxes2 (h : H) (x u w : Obj) : (((h.push x).push u).set (h.n + 1) w).get h.n = some x ∧ (((h.push x).push u).set (h.n + 1) w).get (h.n + 1) = some w ∧ Grow h (((h.push x).push u).set (h.n + 1) w) ∧
    (((h.push x).push u).set (h.n + 1) w).n = h.n + 2 := by
  refine ⟨?_, ?_, ?_, ?_⟩
  · simp only [↓stepR, normR, Int.cast_ofNat_Int, Int.natCast_nonneg, Int.toNat_natCast, Nat.reduceMod, Nat.reduceDiv, Nat.reducePow, Nat.testBit_eq_decide_div_mod_eq, ↓reduceIte, Nat.reduceEqDiff, Nat.reduceAdd, Nat.reduceSub, Nat.reduceMul, Nat.reduceLT, Nat.reduceLeDiff, Int.reduceEq, Int.reduceLT, Int.reduceLE, Int.reduceAdd, Int.reduceSub, Int.reduceMul, Int.reduceNeg, Int.reduceToNat, reduceCtorEq, eq_self]
  · simp only [↓stepR, normR, Int.cast_ofNat_Int, Int.natCast_nonneg, Int.toNat_natCast, Nat.reduceMod, Nat.reduceDiv, Nat.reducePow, Nat.testBit_eq_decide_div_mod_eq, ↓reduceIte, Nat.reduceEqDiff, Nat.reduceAdd, Nat.reduceSub, Nat.reduceMul, Nat.reduceLT, Nat.reduceLeDiff, Int.reduceEq, Int.reduceLT, Int.reduceLE, Int.reduceAdd, Int.reduceSub, Int.reduceMul, Int.reduceNeg, Int.reduceToNat, reduceCtorEq, eq_self]
  · exact ((((Grow.refl h).push _).push _).set (by omega) (by simp only [↓stepR, normR, Int.cast_ofNat_Int, Int.natCast_nonneg, Int.toNat_natCast, Nat.reduceMod, Nat.reduceDiv, Nat.reducePow, Nat.testBit_eq_decide_div_mod_eq, ↓reduceIte, Nat.reduceEqDiff, Nat.reduceAdd, Nat.reduceSub, Nat.reduceMul, Nat.reduceLT, Nat.reduceLeDiff, Int.reduceEq, Int.reduceLT, Int.reduceLE, Int.reduceAdd, Int.reduceSub, Int.reduceMul, Int.reduceNeg, Int.reduceToNat, reduceCtorEq, eq_self]) _)
  · simp only [↓stepR, normR, Int.cast_ofNat_Int, Int.natCast_nonneg, Int.toNat_natCast, Nat.reduceMod, Nat.reduceDiv, Nat.reducePow, Nat.testBit_eq_decide_div_mod_eq, ↓reduceIte, Nat.reduceEqDiff, Nat.reduceAdd, Nat.reduceSub, Nat.reduceMul, Nat.reduceLT, Nat.reduceLeDiff, Int.reduceEq, Int.reduceLT, Int.reduceLE, Int.reduceAdd, Int.reduceSub, Int.reduceMul, Int.reduceNeg, Int.reduceToNat, reduceCtorEq, eq_self]

theorem run_add5 (p : Pool) (hp : p.slots.length = 64) (a b c : Int) (h : H) : Runs CL 5 [p.v, .i .i64 a, .i .i64 b, .i .i64 c] h fun w h' =>
    (∃ u, w = .tup [u, .i .i64 (addS p a b c).2] ∧ EntsF h.n h' u (addS p a b c).1) ∧ Grow h h' := by
  refine run (fn := F5) rfl rfl ?_
  unfold F5
  have e0 : ∀ x : Int, checkS (addE 0 a b c) = x → ∀ (h : H) (k : V → H → Prop), callK pu CL 20 [.agg 16 [.i .i64 1, .i .i64 0, .i .i64 a, .i .i64 b, .i .i64 c, .agg 13 [.i .u64 0, .i .u64 0]]] h k = k (.i .i64 x) h := fun x hx h k => by
    rw [← hx]; exact call_check20 (addE 0 a b c) h k
  have hheld := call_held39 p hp a b
  simp only [Slot.sh, Slot.nt, Key.sh, Key.nt, Ring.sh, Ring.nt, Pool.sh, Pool.nt, Entry.sh, Entry.nt, ↓stepR, normR, Int.cast_ofNat_Int, Int.natCast_nonneg, Int.toNat_natCast, Nat.reduceMod, Nat.reduceDiv, Nat.reducePow, Nat.testBit_eq_decide_div_mod_eq, ↓reduceIte, Nat.reduceEqDiff, Nat.reduceAdd, Nat.reduceSub, Nat.reduceMul, Nat.reduceLT, Nat.reduceLeDiff, Int.reduceEq, Int.reduceLT, Int.reduceLE, Int.reduceAdd, Int.reduceSub, Int.reduceMul, Int.reduceNeg, Int.reduceToNat, reduceCtorEq, eq_self]
  obtain ⟨g0, g3, gG, gn⟩ := boxes2 h (.cells p.v false false) (.cells (.agg 16 [.i .i64 0, .i .i64 0, .i .i64 0, .i .i64 0, .i .i64 0, .agg 13 [.i .u64 0, .i .u64 0]]) false false) (.cells (.agg 16 [.i .i64 1, .i .i64 0, .i .i64 a, .i .i64 b, .i .i64 c, .agg 13 [.i .u64 0, .i .u64 0]]) false false)
  generalize H.set _ (h.n + 1) _ = g at *
  by_cases ck : checkS (addE 0 a b c) = 0
  · have hchk := e0 0 ck
    cases hh : heldS p a b with
    | true =>
      rw [hh] at hheld
      have ea : addS p a b c = ([], 12) := by unfold addS; rw [if_neg (by simp [ck]), if_pos hh]
      simp only [Slot.sh, Slot.nt, Key.sh, Key.nt, Ring.sh, Ring.nt, Pool.sh, Pool.nt, Entry.sh, Entry.nt, hchk, objK_of g0, objK_of g3, hheld, ↓stepR, normR, Int.cast_ofNat_Int, Int.natCast_nonneg, Int.toNat_natCast, Nat.reduceMod, Nat.reduceDiv, Nat.reducePow, Nat.testBit_eq_decide_div_mod_eq, ↓reduceIte, Nat.reduceEqDiff, Nat.reduceAdd, Nat.reduceSub, Nat.reduceMul, Nat.reduceLT, Nat.reduceLeDiff, Int.reduceEq, Int.reduceLT, Int.reduceLE, Int.reduceAdd, Int.reduceSub, Int.reduceMul, Int.reduceNeg, Int.reduceToNat, reduceCtorEq, eq_self]
      rw [ea]
      exact ⟨⟨_, rfl, .inl ⟨rfl, rfl⟩⟩, gG⟩
    | false =>
      rw [hh] at hheld
      simp only [Slot.sh, Slot.nt, Key.sh, Key.nt, Ring.sh, Ring.nt, Pool.sh, Pool.nt, Entry.sh, Entry.nt, hchk, objK_of g0, objK_of g3, hheld, ↓stepR, normR, Int.cast_ofNat_Int, Int.natCast_nonneg, Int.toNat_natCast, Nat.reduceMod, Nat.reduceDiv, Nat.reducePow, Nat.testBit_eq_decide_div_mod_eq, ↓reduceIte, Nat.reduceEqDiff, Nat.reduceAdd, Nat.reduceSub, Nat.reduceMul, Nat.reduceLT, Nat.reduceLeDiff, Int.reduceEq, Int.reduceLT, Int.reduceLE, Int.reduceAdd, Int.reduceSub, Int.reduceMul, Int.reduceNeg, Int.reduceToNat, reduceCtorEq, eq_self]
      refine W_up 64 (fun i e hh => e = [(4, .ptr h.n 0 [] 15), (10, .ptr (h.n + 1) 0 [] 16), (11, .i .i64 i)] ∧ hh = g ∧ ∀ j (hj : j < p.slots.length), j < i → freeS p.slots[j] = false) ?_ 0 (by omega) _ _ ?_
      · rintro i e hx hi ⟨rfl, rfl, hn⟩
        have hpv := g0
        simp only [Pool.v] at hpv
        have a3 := H.has_of g3
        by_cases c1 : (i : Int) < 64
        · have hi' : i < p.slots.length := by omega
          have hi2 : i < 64 := by omega
          have hw := @wrap_up i (by omega)
          cases hs : freeS p.slots[i] with
          | true =>
            have d1 : p.slots[i].state = 0 := by simpa [freeS] using hs
            have ea : addS p a b c = ([addE i a b c, openE i], 0) := by unfold addS; rw [if_neg (by simp [ck]), if_neg (by simp [hh]), findIdx_at hi' hs hn]
            simp only [c1, nthK_map _ _ _ _ hi', objK_of hpv, objK_of g3, Slot.v, d1, a3, ↓stepR, normR, Int.cast_ofNat_Int, Int.natCast_nonneg, Int.toNat_natCast, Nat.reduceMod, Nat.reduceDiv, Nat.reducePow, Nat.testBit_eq_decide_div_mod_eq, ↓reduceIte, Nat.reduceEqDiff, Nat.reduceAdd, Nat.reduceSub, Nat.reduceMul, Nat.reduceLT, Nat.reduceLeDiff, Int.reduceEq, Int.reduceLT, Int.reduceLE, Int.reduceAdd, Int.reduceSub, Int.reduceMul, Int.reduceNeg, Int.reduceToNat, reduceCtorEq, eq_self]
            rw [ea]
            refine ⟨⟨_, rfl, .inr ⟨hx.n, 0, _, false, gG.1, rfl, ?_, rfl⟩⟩, (gG.set (by omega) a3 _).push _⟩
            rw [H.get_push', if_pos (by rw [H.set_n])]
            rfl
          | false =>
            have d1 : ¬ p.slots[i].state = 0 := by simpa [freeS] using hs
            have fin : ∀ j (hj : j < p.slots.length), j < i + 1 → freeS p.slots[j] = false := fun j hj hlt => by
              by_cases e : j = i
              · subst e; exact hs
              · exact hn j hj (by omega)
            simp only [c1, nthK_map _ _ _ _ hi', objK_of hpv, Slot.v, d1, hw, ↓stepR, normR, Int.cast_ofNat_Int, Int.natCast_nonneg, Int.toNat_natCast, Nat.reduceMod, Nat.reduceDiv, Nat.reducePow, Nat.testBit_eq_decide_div_mod_eq, ↓reduceIte, Nat.reduceEqDiff, Nat.reduceAdd, Nat.reduceSub, Nat.reduceMul, Nat.reduceLT, Nat.reduceLeDiff, Int.reduceEq, Int.reduceLT, Int.reduceLE, Int.reduceAdd, Int.reduceSub, Int.reduceMul, Int.reduceNeg, Int.reduceToNat, reduceCtorEq, eq_self]
            exact ⟨hi2, fin⟩
        · have ea : addS p a b c = ([], 9) := by unfold addS; rw [if_neg (by simp [ck]), if_neg (by simp [hh]), findIdx_no fun j hj => hn j hj (by omega)]
          simp only [c1, ↓stepR, normR, Int.cast_ofNat_Int, Int.natCast_nonneg, Int.toNat_natCast, Nat.reduceMod, Nat.reduceDiv, Nat.reducePow, Nat.testBit_eq_decide_div_mod_eq, ↓reduceIte, Nat.reduceEqDiff, Nat.reduceAdd, Nat.reduceSub, Nat.reduceMul, Nat.reduceLT, Nat.reduceLeDiff, Int.reduceEq, Int.reduceLT, Int.reduceLE, Int.reduceAdd, Int.reduceSub, Int.reduceMul, Int.reduceNeg, Int.reduceToNat, reduceCtorEq, eq_self]
          rw [ea]
          exact ⟨⟨_, rfl, .inl ⟨rfl, rfl⟩⟩, gG⟩
      · exact ⟨rfl, rfl, fun j hj h => absurd h (by omega)⟩
  · have e14 := (check_add 0 a b c).resolve_left ck
    have hchk := e0 14 e14
    have ea : addS p a b c = ([], 14) := by unfold addS; rw [if_pos ck]
    simp only [Slot.sh, Slot.nt, Key.sh, Key.nt, Ring.sh, Ring.nt, Pool.sh, Pool.nt, Entry.sh, Entry.nt, hchk, objK_of g3, ↓stepR, normR, Int.cast_ofNat_Int, Int.natCast_nonneg, Int.toNat_natCast, Nat.reduceMod, Nat.reduceDiv, Nat.reducePow, Nat.testBit_eq_decide_div_mod_eq, ↓reduceIte, Nat.reduceEqDiff, Nat.reduceAdd, Nat.reduceSub, Nat.reduceMul, Nat.reduceLT, Nat.reduceLeDiff, Int.reduceEq, Int.reduceLT, Int.reduceLE, Int.reduceAdd, Int.reduceSub, Int.reduceMul, Int.reduceNeg, Int.reduceToNat, reduceCtorEq, eq_self]
    rw [ea]
    exact ⟨⟨_, rfl, .inl ⟨rfl, rfl⟩⟩, gG⟩
end Go.Rae.Order
