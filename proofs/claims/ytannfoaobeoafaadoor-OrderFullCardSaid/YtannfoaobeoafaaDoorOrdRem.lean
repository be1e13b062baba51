/- Remove, Same: what they answer. -/
import Derived.Test.YtannfoaobeoafaaDoorOrdAdd
set_option linter.unusedVariables false
set_option linter.unusedSimpArgs false
namespace Go.Rae.Order
set_option maxRecDepth 100000

def drainE (i : Nat) : Entry := ⟨3, i, 0, 0, 0, key0⟩
def shutE (i : Nat) : Entry := ⟨4, i, 0, 0, 0, key0⟩
def removeS (p : Pool) (a b : Int) : List Entry × Int :=
  match p.slots.findIdx? (stands a b) with
  | none => ([], 9)
  | some i => ((if (p.at i).state = 2 then [drainE i] else []) ++ [shutE i], 0)

theorem run_remove7 (p : Pool) (hp : p.slots.length = 64) (a b : Int) (h : H) : Runs CL 7 [p.v, .i .i64 a, .i .i64 b] h fun w h' =>
    (∃ u, w = .tup [u, .i .i64 (removeS p a b).2] ∧ EntsF h.n h' u (removeS p a b).1) ∧ Grow h h' := by
  refine run (fn := F7) rfl rfl ?_
  unfold F7
  have hfind := call_find16 p hp a b
  cases hf : p.slots.findIdx? (stands a b) with
  | none =>
    rw [hf] at hfind
    have ea : removeS p a b = ([], 9) := by unfold removeS; rw [hf]
    simp only [Slot.sh, Slot.nt, Key.sh, Key.nt, Ring.sh, Ring.nt, Pool.sh, Pool.nt, Entry.sh, Entry.nt, hfind, findV, ↓stepR, normR, Int.cast_ofNat_Int, Int.natCast_nonneg, Int.toNat_natCast, Nat.reduceMod, Nat.reduceDiv, Nat.reducePow, Nat.testBit_eq_decide_div_mod_eq, ↓reduceIte, Nat.reduceEqDiff, Nat.reduceAdd, Nat.reduceSub, Nat.reduceMul, Nat.reduceLT, Nat.reduceLeDiff, Int.reduceEq, Int.reduceLT, Int.reduceLE, Int.reduceAdd, Int.reduceSub, Int.reduceMul, Int.reduceNeg, Int.reduceToNat, reduceCtorEq, eq_self]
    rw [ea]
    exact ⟨⟨_, rfl, .inl ⟨rfl, rfl⟩⟩, (Grow.refl h).push _⟩
  | some i =>
    rw [hf] at hfind
    have hi' : i < p.slots.length := by
      have := List.findIdx?_eq_some_iff_getElem.1 hf
      exact this.1
    have hi2 : (i : Int) < 64 := by omega
    have hat : (p.slots[i]) = p.at i := by simp [Pool.at, List.getD, hi']
    simp only [Pool.v] at hfind
    by_cases c : (p.at i).state = 2
    · have ea : removeS p a b = ([drainE i, shutE i], 0) := by unfold removeS; rw [hf]; simp only [c, if_true]; rfl
      simp only [Slot.sh, Slot.nt, Key.sh, Key.nt, Ring.sh, Ring.nt, Pool.sh, Pool.nt, Entry.sh, Entry.nt, hfind, findV, Pool.v, hi2, nthK_map _ _ _ _ hi', hat, Slot.v, c, ↓stepR, normR, Int.cast_ofNat_Int, Int.natCast_nonneg, Int.toNat_natCast, Nat.reduceMod, Nat.reduceDiv, Nat.reducePow, Nat.testBit_eq_decide_div_mod_eq, ↓reduceIte, Nat.reduceEqDiff, Nat.reduceAdd, Nat.reduceSub, Nat.reduceMul, Nat.reduceLT, Nat.reduceLeDiff, Int.reduceEq, Int.reduceLT, Int.reduceLE, Int.reduceAdd, Int.reduceSub, Int.reduceMul, Int.reduceNeg, Int.reduceToNat, reduceCtorEq, eq_self]
      refine app_ents (n0 := h.n) (y := drainE i) (es := []) (.inl ⟨rfl, rfl⟩) (by simp) (by simp only [H.push_n]; omega) (fun v' h' hv' hk' hn' => ?_)
      have hnt' := hv'.r.nt
      have G1 : Grow h h' := hk' h (Nat.le_refl _) (((Grow.refl h).push _).push _)
      simp only [hnt', Slot.sh, Slot.nt, Key.sh, Key.nt, Ring.sh, Ring.nt, Pool.sh, Pool.nt, Entry.sh, Entry.nt, ↓stepR, normR, Int.cast_ofNat_Int, Int.natCast_nonneg, Int.toNat_natCast, Nat.reduceMod, Nat.reduceDiv, Nat.reducePow, Nat.testBit_eq_decide_div_mod_eq, ↓reduceIte, Nat.reduceEqDiff, Nat.reduceAdd, Nat.reduceSub, Nat.reduceMul, Nat.reduceLT, Nat.reduceLeDiff, Int.reduceEq, Int.reduceLT, Int.reduceLE, Int.reduceAdd, Int.reduceSub, Int.reduceMul, Int.reduceNeg, Int.reduceToNat, reduceCtorEq, eq_self]
      refine app_ents (n0 := h.n) (y := shutE i) (hv'.grow ((Grow.refl h').push _)) (by simp) (by simp only [H.push_n]; omega) (fun v2 h2 hv2 hk2 hn2 => ?_)
      have hnt2 := hv2.r.nt
      simp only [hnt2, Slot.sh, Slot.nt, Key.sh, Key.nt, Ring.sh, Ring.nt, Pool.sh, Pool.nt, Entry.sh, Entry.nt, ↓stepR, normR, Int.cast_ofNat_Int, Int.natCast_nonneg, Int.toNat_natCast, Nat.reduceMod, Nat.reduceDiv, Nat.reducePow, Nat.testBit_eq_decide_div_mod_eq, ↓reduceIte, Nat.reduceEqDiff, Nat.reduceAdd, Nat.reduceSub, Nat.reduceMul, Nat.reduceLT, Nat.reduceLeDiff, Int.reduceEq, Int.reduceLT, Int.reduceLE, Int.reduceAdd, Int.reduceSub, Int.reduceMul, Int.reduceNeg, Int.reduceToNat, reduceCtorEq, eq_self]
      rw [ea]
      exact ⟨⟨_, rfl, hv2.f⟩, hk2 h (Nat.le_refl _) (G1.push _)⟩
    · have ea : removeS p a b = ([shutE i], 0) := by unfold removeS; rw [hf]; simp only [c, if_false]; rfl
      simp only [Slot.sh, Slot.nt, Key.sh, Key.nt, Ring.sh, Ring.nt, Pool.sh, Pool.nt, Entry.sh, Entry.nt, hfind, findV, Pool.v, hi2, nthK_map _ _ _ _ hi', hat, Slot.v, c, ↓stepR, normR, Int.cast_ofNat_Int, Int.natCast_nonneg, Int.toNat_natCast, Nat.reduceMod, Nat.reduceDiv, Nat.reducePow, Nat.testBit_eq_decide_div_mod_eq, ↓reduceIte, Nat.reduceEqDiff, Nat.reduceAdd, Nat.reduceSub, Nat.reduceMul, Nat.reduceLT, Nat.reduceLeDiff, Int.reduceEq, Int.reduceLT, Int.reduceLE, Int.reduceAdd, Int.reduceSub, Int.reduceMul, Int.reduceNeg, Int.reduceToNat, reduceCtorEq, eq_self]
      refine app_ents (n0 := h.n) (y := shutE i) (es := []) (.inl ⟨rfl, rfl⟩) (by simp) (by simp only [H.push_n]; omega) (fun v2 h2 hv2 hk2 hn2 => ?_)
      have hnt2 := hv2.r.nt
      simp only [hnt2, Slot.sh, Slot.nt, Key.sh, Key.nt, Ring.sh, Ring.nt, Pool.sh, Pool.nt, Entry.sh, Entry.nt, ↓stepR, normR, Int.cast_ofNat_Int, Int.natCast_nonneg, Int.toNat_natCast, Nat.reduceMod, Nat.reduceDiv, Nat.reducePow, Nat.testBit_eq_decide_div_mod_eq, ↓reduceIte, Nat.reduceEqDiff, Nat.reduceAdd, Nat.reduceSub, Nat.reduceMul, Nat.reduceLT, Nat.reduceLeDiff, Int.reduceEq, Int.reduceLT, Int.reduceLE, Int.reduceAdd, Int.reduceSub, Int.reduceMul, Int.reduceNeg, Int.reduceToNat, reduceCtorEq, eq_self]
      rw [ea]
      exact ⟨⟨_, rfl, hv2.f⟩, hk2 h (Nat.le_refl _) (((Grow.refl h).push _).push _)⟩

theorem run_remove6 (p : Pool) (hp : p.slots.length = 64) (hst : p.St) (a b : Int) (h : H) : Runs CL 6 [p.v, .i .i64 a, .i .i64 b] h fun w h' =>
    (∃ u, w = .tup [u, .i .i64 (removeS p a b).2] ∧ EntsF h.n h' u (removeS p a b).1) ∧ Grow h h' := by
  refine run (fn := F6) rfl rfl ?_
  unfold F6
  have hfind := call_find40 p hp hst a b
  cases hf : p.slots.findIdx? (stands a b) with
  | none =>
    rw [hf] at hfind
    have ea : removeS p a b = ([], 9) := by unfold removeS; rw [hf]
    simp only [Slot.sh, Slot.nt, Key.sh, Key.nt, Ring.sh, Ring.nt, Pool.sh, Pool.nt, Entry.sh, Entry.nt, hfind, findV, ↓stepR, normR, Int.cast_ofNat_Int, Int.natCast_nonneg, Int.toNat_natCast, Nat.reduceMod, Nat.reduceDiv, Nat.reducePow, Nat.testBit_eq_decide_div_mod_eq, ↓reduceIte, Nat.reduceEqDiff, Nat.reduceAdd, Nat.reduceSub, Nat.reduceMul, Nat.reduceLT, Nat.reduceLeDiff, Int.reduceEq, Int.reduceLT, Int.reduceLE, Int.reduceAdd, Int.reduceSub, Int.reduceMul, Int.reduceNeg, Int.reduceToNat, reduceCtorEq, eq_self]
    rw [ea]
    exact ⟨⟨_, rfl, .inl ⟨rfl, rfl⟩⟩, (Grow.refl h).push _⟩
  | some i =>
    rw [hf] at hfind
    have hi' : i < p.slots.length := by
      have := List.findIdx?_eq_some_iff_getElem.1 hf
      exact this.1
    have hi2 : (i : Int) < 64 := by omega
    have hat : (p.slots[i]) = p.at i := by simp [Pool.at, List.getD, hi']
    simp only [Pool.v] at hfind
    by_cases c : (p.at i).state = 2
    · have ea : removeS p a b = ([drainE i, shutE i], 0) := by unfold removeS; rw [hf]; simp only [c, if_true]; rfl
      simp only [Slot.sh, Slot.nt, Key.sh, Key.nt, Ring.sh, Ring.nt, Pool.sh, Pool.nt, Entry.sh, Entry.nt, hfind, findV, Pool.v, hi2, nthK_map _ _ _ _ hi', hat, Slot.v, c, ↓stepR, normR, Int.cast_ofNat_Int, Int.natCast_nonneg, Int.toNat_natCast, Nat.reduceMod, Nat.reduceDiv, Nat.reducePow, Nat.testBit_eq_decide_div_mod_eq, ↓reduceIte, Nat.reduceEqDiff, Nat.reduceAdd, Nat.reduceSub, Nat.reduceMul, Nat.reduceLT, Nat.reduceLeDiff, Int.reduceEq, Int.reduceLT, Int.reduceLE, Int.reduceAdd, Int.reduceSub, Int.reduceMul, Int.reduceNeg, Int.reduceToNat, reduceCtorEq, eq_self]
      refine app_ents (n0 := h.n) (y := drainE i) (es := []) (.inl ⟨rfl, rfl⟩) (by simp) (by simp only [H.push_n]; omega) (fun v' h' hv' hk' hn' => ?_)
      have hnt' := hv'.r.nt
      have G1 : Grow h h' := hk' h (Nat.le_refl _) (((Grow.refl h).push _).push _)
      simp only [hnt', Slot.sh, Slot.nt, Key.sh, Key.nt, Ring.sh, Ring.nt, Pool.sh, Pool.nt, Entry.sh, Entry.nt, ↓stepR, normR, Int.cast_ofNat_Int, Int.natCast_nonneg, Int.toNat_natCast, Nat.reduceMod, Nat.reduceDiv, Nat.reducePow, Nat.testBit_eq_decide_div_mod_eq, ↓reduceIte, Nat.reduceEqDiff, Nat.reduceAdd, Nat.reduceSub, Nat.reduceMul, Nat.reduceLT, Nat.reduceLeDiff, Int.reduceEq, Int.reduceLT, Int.reduceLE, Int.reduceAdd, Int.reduceSub, Int.reduceMul, Int.reduceNeg, Int.reduceToNat, reduceCtorEq, eq_self]
      refine app_ents (n0 := h.n) (y := shutE i) (hv'.grow ((Grow.refl h').push _)) (by simp) (by simp only [H.push_n]; omega) (fun v2 h2 hv2 hk2 hn2 => ?_)
      have hnt2 := hv2.r.nt
      simp only [hnt2, Slot.sh, Slot.nt, Key.sh, Key.nt, Ring.sh, Ring.nt, Pool.sh, Pool.nt, Entry.sh, Entry.nt, ↓stepR, normR, Int.cast_ofNat_Int, Int.natCast_nonneg, Int.toNat_natCast, Nat.reduceMod, Nat.reduceDiv, Nat.reducePow, Nat.testBit_eq_decide_div_mod_eq, ↓reduceIte, Nat.reduceEqDiff, Nat.reduceAdd, Nat.reduceSub, Nat.reduceMul, Nat.reduceLT, Nat.reduceLeDiff, Int.reduceEq, Int.reduceLT, Int.reduceLE, Int.reduceAdd, Int.reduceSub, Int.reduceMul, Int.reduceNeg, Int.reduceToNat, reduceCtorEq, eq_self]
      refine call_clip41 v2 _ h2 hv2 _ (fun v3 h3 hv3 hG3 => ?_)
      have hnt3 := hv3.r.nt
      simp only [hnt3, Slot.sh, Slot.nt, Key.sh, Key.nt, Ring.sh, Ring.nt, Pool.sh, Pool.nt, Entry.sh, Entry.nt, ↓stepR, normR, Int.cast_ofNat_Int, Int.natCast_nonneg, Int.toNat_natCast, Nat.reduceMod, Nat.reduceDiv, Nat.reducePow, Nat.testBit_eq_decide_div_mod_eq, ↓reduceIte, Nat.reduceEqDiff, Nat.reduceAdd, Nat.reduceSub, Nat.reduceMul, Nat.reduceLT, Nat.reduceLeDiff, Int.reduceEq, Int.reduceLT, Int.reduceLE, Int.reduceAdd, Int.reduceSub, Int.reduceMul, Int.reduceNeg, Int.reduceToNat, reduceCtorEq, eq_self]
      rw [ea]
      exact ⟨⟨_, rfl, hv3⟩, (hk2 h (Nat.le_refl _) (G1.push _)).trans hG3⟩
    · have ea : removeS p a b = ([shutE i], 0) := by unfold removeS; rw [hf]; simp only [c, if_false]; rfl
      simp only [Slot.sh, Slot.nt, Key.sh, Key.nt, Ring.sh, Ring.nt, Pool.sh, Pool.nt, Entry.sh, Entry.nt, hfind, findV, Pool.v, hi2, nthK_map _ _ _ _ hi', hat, Slot.v, c, ↓stepR, normR, Int.cast_ofNat_Int, Int.natCast_nonneg, Int.toNat_natCast, Nat.reduceMod, Nat.reduceDiv, Nat.reducePow, Nat.testBit_eq_decide_div_mod_eq, ↓reduceIte, Nat.reduceEqDiff, Nat.reduceAdd, Nat.reduceSub, Nat.reduceMul, Nat.reduceLT, Nat.reduceLeDiff, Int.reduceEq, Int.reduceLT, Int.reduceLE, Int.reduceAdd, Int.reduceSub, Int.reduceMul, Int.reduceNeg, Int.reduceToNat, reduceCtorEq, eq_self]
      refine app_ents (n0 := h.n) (y := shutE i) (es := []) (.inl ⟨rfl, rfl⟩) (by simp) (by simp only [H.push_n]; omega) (fun v2 h2 hv2 hk2 hn2 => ?_)
      have hnt2 := hv2.r.nt
      simp only [hnt2, Slot.sh, Slot.nt, Key.sh, Key.nt, Ring.sh, Ring.nt, Pool.sh, Pool.nt, Entry.sh, Entry.nt, ↓stepR, normR, Int.cast_ofNat_Int, Int.natCast_nonneg, Int.toNat_natCast, Nat.reduceMod, Nat.reduceDiv, Nat.reducePow, Nat.testBit_eq_decide_div_mod_eq, ↓reduceIte, Nat.reduceEqDiff, Nat.reduceAdd, Nat.reduceSub, Nat.reduceMul, Nat.reduceLT, Nat.reduceLeDiff, Int.reduceEq, Int.reduceLT, Int.reduceLE, Int.reduceAdd, Int.reduceSub, Int.reduceMul, Int.reduceNeg, Int.reduceToNat, reduceCtorEq, eq_self]
      refine call_clip41 v2 _ h2 hv2 _ (fun v3 h3 hv3 hG3 => ?_)
      have hnt3 := hv3.r.nt
      simp only [hnt3, Slot.sh, Slot.nt, Key.sh, Key.nt, Ring.sh, Ring.nt, Pool.sh, Pool.nt, Entry.sh, Entry.nt, ↓stepR, normR, Int.cast_ofNat_Int, Int.natCast_nonneg, Int.toNat_natCast, Nat.reduceMod, Nat.reduceDiv, Nat.reducePow, Nat.testBit_eq_decide_div_mod_eq, ↓reduceIte, Nat.reduceEqDiff, Nat.reduceAdd, Nat.reduceSub, Nat.reduceMul, Nat.reduceLT, Nat.reduceLeDiff, Int.reduceEq, Int.reduceLT, Int.reduceLE, Int.reduceAdd, Int.reduceSub, Int.reduceMul, Int.reduceNeg, Int.reduceToNat, reduceCtorEq, eq_self]
      rw [ea]
      exact ⟨⟨_, rfl, hv3⟩, (hk2 h (Nat.le_refl _) (((Grow.refl h).push _).push _)).trans hG3⟩

/-! ### same -/
theorem run_same8 (v w : V) (es fs : List Entry) (h : H) (hv : EntsR h v es) (hw : EntsR h w fs) (hle : es.length < 1000000) : Runs CL 8 [v, w] h fun u h' => u = .b (decide (es = fs)) ∧ Grow h h' := by
  refine run (fn := F8) rfl rfl ?_
  unfold F8
  have n1 := hv.nt
  have n2 := hw.nt
  have l1 := hv.len
  have l2 := hw.len
  by_cases c : es.length = fs.length
  · have c' : (es.length : Int) = (fs.length : Int) := by omega
    simp only [n1, n2, l1, l2, c', ↓stepR, normR, Int.cast_ofNat_Int, Int.natCast_nonneg, Int.toNat_natCast, Nat.reduceMod, Nat.reduceDiv, Nat.reducePow, Nat.testBit_eq_decide_div_mod_eq, ↓reduceIte, Nat.reduceEqDiff, Nat.reduceAdd, Nat.reduceSub, Nat.reduceMul, Nat.reduceLT, Nat.reduceLeDiff, Int.reduceEq, Int.reduceLT, Int.reduceLE, Int.reduceAdd, Int.reduceSub, Int.reduceMul, Int.reduceNeg, Int.reduceToNat, reduceCtorEq, eq_self]
    refine W_up fs.length (fun i e hh => e = [(0, v), (1, w), (5, .i .i64 i)] ∧ hh = h ∧ es.take i = fs.take i) ?_ 0 (by omega) _ _ ⟨rfl, rfl, rfl⟩
    rintro i e hh hi ⟨rfl, rfl, ht⟩
    by_cases c1 : i < fs.length
    · have c1' : (i : Int) < (fs.length : Int) := by omega
      have c2 : i < es.length := by omega
      obtain ⟨id, st, q, hi1, hb, hs⟩ := hv.obj (by omega)
      obtain ⟨jd, st', q', hj1, hb', hs'⟩ := hw.obj (by omega)
      have hi1' : ∀ k : V → Prop, iaLK 16 v (i : Int) k = k (.ptr id st [i] 16) := fun k => hi1 i k c2
      have hj1' : ∀ k : V → Prop, iaLK 16 w (i : Int) k = k (.ptr jd st' [i] 16) := fun k => hj1 i k c1
      have hwr := @wrap_up i (by omega)
      by_cases c3 : es[i] = fs[i]
      · simp only [n1, n2, l1, l2, c1', c', hi1', hj1', objK_of hb, objK_of hb', hs, hs', nthK_map _ _ _ _ c1, nthK_map _ _ _ _ c2, Entry.veq, c3, hwr, Slot.sh, Slot.nt, Key.sh, Key.nt, Ring.sh, Ring.nt, Pool.sh, Pool.nt, Entry.sh, Entry.nt, ↓stepR, normR, Int.cast_ofNat_Int, Int.natCast_nonneg, Int.toNat_natCast, Nat.reduceMod, Nat.reduceDiv, Nat.reducePow, Nat.testBit_eq_decide_div_mod_eq, ↓reduceIte, Nat.reduceEqDiff, Nat.reduceAdd, Nat.reduceSub, Nat.reduceMul, Nat.reduceLT, Nat.reduceLeDiff, Int.reduceEq, Int.reduceLT, Int.reduceLE, Int.reduceAdd, Int.reduceSub, Int.reduceMul, Int.reduceNeg, Int.reduceToNat, reduceCtorEq, eq_self]
        exact ⟨c1, by rw [List.take_add_one, List.take_add_one, ht, List.getElem?_eq_getElem c1, List.getElem?_eq_getElem c2, c3]⟩
      · simp only [n1, n2, l1, l2, c1', c', hi1', hj1', objK_of hb, objK_of hb', hs, hs', nthK_map _ _ _ _ c1, nthK_map _ _ _ _ c2, Entry.veq, c3, hwr, Slot.sh, Slot.nt, Key.sh, Key.nt, Ring.sh, Ring.nt, Pool.sh, Pool.nt, Entry.sh, Entry.nt, ↓stepR, normR, Int.cast_ofNat_Int, Int.natCast_nonneg, Int.toNat_natCast, Nat.reduceMod, Nat.reduceDiv, Nat.reducePow, Nat.testBit_eq_decide_div_mod_eq, ↓reduceIte, Nat.reduceEqDiff, Nat.reduceAdd, Nat.reduceSub, Nat.reduceMul, Nat.reduceLT, Nat.reduceLeDiff, Int.reduceEq, Int.reduceLT, Int.reduceLE, Int.reduceAdd, Int.reduceSub, Int.reduceMul, Int.reduceNeg, Int.reduceToNat, reduceCtorEq, eq_self]
        have ne : ¬ es = fs := fun e => c3 (by subst e; rfl)
        exact ⟨by rw [decide_eq_false ne], Grow.refl _⟩
    · have c1' : ¬ (i : Int) < (fs.length : Int) := by omega
      have : i = fs.length := by omega
      subst this
      simp only [n1, n2, l1, c1', c', ↓stepR, normR, Int.cast_ofNat_Int, Int.natCast_nonneg, Int.toNat_natCast, Nat.reduceMod, Nat.reduceDiv, Nat.reducePow, Nat.testBit_eq_decide_div_mod_eq, ↓reduceIte, Nat.reduceEqDiff, Nat.reduceAdd, Nat.reduceSub, Nat.reduceMul, Nat.reduceLT, Nat.reduceLeDiff, Int.reduceEq, Int.reduceLT, Int.reduceLE, Int.reduceAdd, Int.reduceSub, Int.reduceMul, Int.reduceNeg, Int.reduceToNat, reduceCtorEq, eq_self]
      have e : es = fs := by rw [List.take_of_length_le (by omega), List.take_of_length_le (Nat.le_refl _)] at ht; exact ht
      exact ⟨by rw [decide_eq_true e], Grow.refl _⟩
  · have c' : ¬ (es.length : Int) = (fs.length : Int) := by omega
    simp only [n1, n2, l1, l2, c', ↓stepR, normR, Int.cast_ofNat_Int, Int.natCast_nonneg, Int.toNat_natCast, Nat.reduceMod, Nat.reduceDiv, Nat.reducePow, Nat.testBit_eq_decide_div_mod_eq, ↓reduceIte, Nat.reduceEqDiff, Nat.reduceAdd, Nat.reduceSub, Nat.reduceMul, Nat.reduceLT, Nat.reduceLeDiff, Int.reduceEq, Int.reduceLT, Int.reduceLE, Int.reduceAdd, Int.reduceSub, Int.reduceMul, Int.reduceNeg, Int.reduceToNat, reduceCtorEq, eq_self]
    have ne : ¬ es = fs := fun e => c (by rw [e])
    exact ⟨by rw [decide_eq_false ne], Grow.refl _⟩
end Go.Rae.Order
