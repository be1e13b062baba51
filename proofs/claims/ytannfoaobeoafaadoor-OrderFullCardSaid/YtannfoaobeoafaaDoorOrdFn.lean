/- The reference's keys anew; find; add; remove. -/
import Derived.Test.YtannfoaobeoafaaDoorOrdAll
set_option linter.unusedVariables false
set_option linter.unusedSimpArgs false
namespace Go.Rae.Order
set_option maxRecDepth 100000

theorem run_rotate11 (p : Pool) (hp : p.slots.length = 64) (kk : Key) (h : H) : Runs CL 11 [p.v, kk.v] h fun w h' => EntsF h.n h' w (rotateS p kk) ∧ Grow h h' := by
  refine run (fn := F11) rfl rfl ?_
  unfold F11
  simp only [Slot.sh, Slot.nt, Key.sh, Key.nt, Ring.sh, Ring.nt, Pool.sh, Pool.nt, Entry.sh, Entry.nt, Pool.v, Ring.v, ↓stepR, normR, Int.cast_ofNat_Int, Int.natCast_nonneg, Int.toNat_natCast, Nat.reduceMod, Nat.reduceDiv, Nat.reducePow, Nat.testBit_eq_decide_div_mod_eq, ↓reduceIte, Nat.reduceEqDiff, Nat.reduceAdd, Nat.reduceSub, Nat.reduceMul, Nat.reduceLT, Nat.reduceLeDiff, Int.reduceEq, Int.reduceLT, Int.reduceLE, Int.reduceAdd, Int.reduceSub, Int.reduceMul, Int.reduceNeg, Int.reduceToNat, reduceCtorEq, eq_self]
  refine W_up 64 (fun i e hh => ∃ v, e = [(2, .ptr h.n 0 [] 15), (5, v), (6, .i .i64 i)] ∧ hh.get h.n = some (.cells p.v false false) ∧ EntsN (h.n + 2) hh v (⟨6, 0, 0, 0, 0, kk⟩ :: freesS p i) ∧ Grow h hh ∧ h.n + 2 ≤ hh.n) ?_ 0 (by omega) _ _ ?_
  · rintro i e hh hi ⟨v, rfl, hg, hv, hG, hn⟩
    have hnt := hv.r.nt
    simp only [Pool.v, Ring.v] at hg
    by_cases c1 : (i : Int) < 64
    · have hi' : i < p.slots.length := by omega
      have hi2 : i < 64 := by omega
      have n1 : ¬ h.n = hh.n := by omega
      have hw := @wrap_up i (by omega)
      have hat : (p.slots[i]) = p.at i := by simp [Pool.at, List.getD, hi']
      have fl := freesS_len p i
      cases hs : goneS p (p.at i) with
      | true =>
        have hd := hs
        simp only [goneS, decide_eq_true_eq] at hd
        obtain ⟨d1, d2⟩ := hd
        simp only [c1, nthK_map _ _ _ _ hi', Slot.v, hat, d1, d2, hnt, n1, objK_of hg, ↓stepR, normR, Int.cast_ofNat_Int, Int.natCast_nonneg, Int.toNat_natCast, Nat.reduceMod, Nat.reduceDiv, Nat.reducePow, Nat.testBit_eq_decide_div_mod_eq, ↓reduceIte, Nat.reduceEqDiff, Nat.reduceAdd, Nat.reduceSub, Nat.reduceMul, Nat.reduceLT, Nat.reduceLeDiff, Int.reduceEq, Int.reduceLT, Int.reduceLE, Int.reduceAdd, Int.reduceSub, Int.reduceMul, Int.reduceNeg, Int.reduceToNat, reduceCtorEq, eq_self]
        refine app_ents (y := ⟨5, i, 0, 0, 0, key0⟩) (hv.grow ((Grow.refl hh).push _)) (by simp; omega) (by simp only [H.push_n]; omega) (fun v' h' hv' hk' hn' => ?_)
        have hnt' := hv'.r.nt
        have hG' : Grow h h' := hk' h (by omega) (hG.push _)
        have hg' : h'.get h.n = some (.cells p.v false false) := by
          have hG2 : Grow (h.push (.cells p.v false false)) hh := ⟨by rw [H.push_n]; omega, fun id o ho => by
            rw [H.get_push'] at ho
            split at ho
            · rename_i e; subst e; rw [← Option.some.inj ho]; simp only [Pool.v, Ring.v]; exact hg
            · exact hG.2 _ _ ho⟩
          exact (hk' (h.push (.cells p.v false false)) (by rw [H.push_n]; omega) (hG2.push _)).2 _ _ (by rw [H.get_push', if_pos rfl])
        simp only [hnt', hw, ↓stepR, normR, Int.cast_ofNat_Int, Int.natCast_nonneg, Int.toNat_natCast, Nat.reduceMod, Nat.reduceDiv, Nat.reducePow, Nat.testBit_eq_decide_div_mod_eq, ↓reduceIte, Nat.reduceEqDiff, Nat.reduceAdd, Nat.reduceSub, Nat.reduceMul, Nat.reduceLT, Nat.reduceLeDiff, Int.reduceEq, Int.reduceLT, Int.reduceLE, Int.reduceAdd, Int.reduceSub, Int.reduceMul, Int.reduceNeg, Int.reduceToNat, reduceCtorEq, eq_self]
        exact ⟨hi2, v', rfl, hg', by simpa [freesS, hs] using hv', hG', by omega⟩
      | false =>
        have hd : ¬ ((p.at i).state = 4 ∧ IntKind.i64.wrap ((p.at i).since + 3) ≤ IntKind.i64.wrap (p.ring.epoch + 1)) := by simpa [goneS] using hs
        by_cases d1 : (p.at i).state = 4
        · have d2 : ¬ IntKind.i64.wrap ((p.at i).since + 3) ≤ IntKind.i64.wrap (p.ring.epoch + 1) := fun d2 => hd ⟨d1, d2⟩
          simp only [c1, nthK_map _ _ _ _ hi', Slot.v, hat, d1, d2, hnt, n1, objK_of hg, hw, ↓stepR, normR, Int.cast_ofNat_Int, Int.natCast_nonneg, Int.toNat_natCast, Nat.reduceMod, Nat.reduceDiv, Nat.reducePow, Nat.testBit_eq_decide_div_mod_eq, ↓reduceIte, Nat.reduceEqDiff, Nat.reduceAdd, Nat.reduceSub, Nat.reduceMul, Nat.reduceLT, Nat.reduceLeDiff, Int.reduceEq, Int.reduceLT, Int.reduceLE, Int.reduceAdd, Int.reduceSub, Int.reduceMul, Int.reduceNeg, Int.reduceToNat, reduceCtorEq, eq_self]
          exact ⟨hi2, v, rfl, by simp only [Pool.v, Ring.v]; exact hg, by rw [freesS, hs, if_neg (by decide), List.append_nil]; exact hv, hG, by omega⟩
        · simp only [c1, nthK_map _ _ _ _ hi', Slot.v, hat, d1, hnt, n1, objK_of hg, hw, ↓stepR, normR, Int.cast_ofNat_Int, Int.natCast_nonneg, Int.toNat_natCast, Nat.reduceMod, Nat.reduceDiv, Nat.reducePow, Nat.testBit_eq_decide_div_mod_eq, ↓reduceIte, Nat.reduceEqDiff, Nat.reduceAdd, Nat.reduceSub, Nat.reduceMul, Nat.reduceLT, Nat.reduceLeDiff, Int.reduceEq, Int.reduceLT, Int.reduceLE, Int.reduceAdd, Int.reduceSub, Int.reduceMul, Int.reduceNeg, Int.reduceToNat, reduceCtorEq, eq_self]
          exact ⟨hi2, v, rfl, by simp only [Pool.v, Ring.v]; exact hg, by rw [freesS, hs, if_neg (by decide), List.append_nil]; exact hv, hG, by omega⟩
    · simp only [c1, hnt, ↓stepR, normR, Int.cast_ofNat_Int, Int.natCast_nonneg, Int.toNat_natCast, Nat.reduceMod, Nat.reduceDiv, Nat.reducePow, Nat.testBit_eq_decide_div_mod_eq, ↓reduceIte, Nat.reduceEqDiff, Nat.reduceAdd, Nat.reduceSub, Nat.reduceMul, Nat.reduceLT, Nat.reduceLeDiff, Int.reduceEq, Int.reduceLT, Int.reduceLE, Int.reduceAdd, Int.reduceSub, Int.reduceMul, Int.reduceNeg, Int.reduceToNat, reduceCtorEq, eq_self]
      have : i = 64 := by omega
      subst this
      exact ⟨hv.f.mono (by omega), hG⟩
  · refine ⟨.sl (h.n + 2) 0 [] 16 0 1 (some 1), rfl, by simp only [↓stepR, normR, Int.cast_ofNat_Int, Int.natCast_nonneg, Int.toNat_natCast, Nat.reduceMod, Nat.reduceDiv, Nat.reducePow, Nat.testBit_eq_decide_div_mod_eq, ↓reduceIte, Nat.reduceEqDiff, Nat.reduceAdd, Nat.reduceSub, Nat.reduceMul, Nat.reduceLT, Nat.reduceLeDiff, Int.reduceEq, Int.reduceLT, Int.reduceLE, Int.reduceAdd, Int.reduceSub, Int.reduceMul, Int.reduceNeg, Int.reduceToNat, reduceCtorEq, eq_self]; rfl, .inr (.inl ⟨h.n + 2, Nat.le_refl _, rfl, by simp only [↓stepR, normR, Int.cast_ofNat_Int, Int.natCast_nonneg, Int.toNat_natCast, Nat.reduceMod, Nat.reduceDiv, Nat.reducePow, Nat.testBit_eq_decide_div_mod_eq, ↓reduceIte, Nat.reduceEqDiff, Nat.reduceAdd, Nat.reduceSub, Nat.reduceMul, Nat.reduceLT, Nat.reduceLeDiff, Int.reduceEq, Int.reduceLT, Int.reduceLE, Int.reduceAdd, Int.reduceSub, Int.reduceMul, Int.reduceNeg, Int.reduceToNat, reduceCtorEq, eq_self]; rfl⟩), (((Grow.refl h).push _).push _).push _, by simp only [H.push_n]; omega⟩

/-! ### find -/
theorem run_may61 (s : Slot) (id : Nat) (h : H) (hg : h.get id = some (.cells (.agg 23 [.i .i64 0, .i .i64 4]) false false)) : Runs CL 61 [s.v, .sl id 0 [] 6 0 2 (some 2)] h fun w h' => w = .b (decide (s.state = 0 ∨ s.state = 4)) ∧ Grow h h' := by
  refine run (fn := F61) rfl rfl ?_
  unfold F61
  have hG : Grow h (h.push (.cells s.v false false)) := (Grow.refl h).push _
  have hg2 := hG.2 _ _ hg
  have hg1 : (h.push (.cells s.v false false)).get h.n = some (.cells s.v false false) := by rw [H.get_push', if_pos rfl]
  simp only [Slot.sh, Slot.nt, ↓stepR, normR, Int.cast_ofNat_Int, Int.natCast_nonneg, Int.toNat_natCast, Nat.reduceMod, Nat.reduceDiv, Nat.reducePow, Nat.testBit_eq_decide_div_mod_eq, ↓reduceIte, Nat.reduceEqDiff, Nat.reduceAdd, Nat.reduceSub, Nat.reduceMul, Nat.reduceLT, Nat.reduceLeDiff, Int.reduceEq, Int.reduceLT, Int.reduceLE, Int.reduceAdd, Int.reduceSub, Int.reduceMul, Int.reduceNeg, Int.reduceToNat, reduceCtorEq, eq_self]
  refine W_up 2 (fun i e hh => e = [(2, .ptr h.n 0 [] 11), (7, .sl id 0 [] 6 0 2 (some 2)), (8, .i .i64 2), (9, .i .i64 i)] ∧ hh = h.push (.cells s.v false false) ∧ (1 ≤ i → s.state ≠ 0) ∧ (2 ≤ i → s.state ≠ 4)) ?_ 0 (by omega) _ _ ⟨rfl, rfl, fun h => by omega, fun h => by omega⟩
  rintro i e hh hi ⟨rfl, hhe, h1, h2⟩
  generalize h.push (.cells s.v false false) = hp at *
  subst hhe
  simp only [Slot.v] at hg1
  rcases (by omega : i = 0 ∨ i = 1 ∨ i = 2) with rfl | rfl | rfl
  · by_cases c : s.state = 0
    · simp only [objK_of hg2, objK_of hg1, c, ↓stepR, normR, Int.cast_ofNat_Int, Int.natCast_nonneg, Int.toNat_natCast, Nat.reduceMod, Nat.reduceDiv, Nat.reducePow, Nat.testBit_eq_decide_div_mod_eq, ↓reduceIte, Nat.reduceEqDiff, Nat.reduceAdd, Nat.reduceSub, Nat.reduceMul, Nat.reduceLT, Nat.reduceLeDiff, Int.reduceEq, Int.reduceLT, Int.reduceLE, Int.reduceAdd, Int.reduceSub, Int.reduceMul, Int.reduceNeg, Int.reduceToNat, reduceCtorEq, eq_self]
      exact hG
    · simp only [objK_of hg2, objK_of hg1, c, ↓stepR, normR, Int.cast_ofNat_Int, Int.natCast_nonneg, Int.toNat_natCast, Nat.reduceMod, Nat.reduceDiv, Nat.reducePow, Nat.testBit_eq_decide_div_mod_eq, ↓reduceIte, Nat.reduceEqDiff, Nat.reduceAdd, Nat.reduceSub, Nat.reduceMul, Nat.reduceLT, Nat.reduceLeDiff, Int.reduceEq, Int.reduceLT, Int.reduceLE, Int.reduceAdd, Int.reduceSub, Int.reduceMul, Int.reduceNeg, Int.reduceToNat, reduceCtorEq, eq_self]
      exact ⟨rfl, fun _ => trivial, fun h => h.elim⟩
  · have c0 := h1 (by omega)
    by_cases c : s.state = 4
    · simp only [objK_of hg2, objK_of hg1, c, ↓stepR, normR, Int.cast_ofNat_Int, Int.natCast_nonneg, Int.toNat_natCast, Nat.reduceMod, Nat.reduceDiv, Nat.reducePow, Nat.testBit_eq_decide_div_mod_eq, ↓reduceIte, Nat.reduceEqDiff, Nat.reduceAdd, Nat.reduceSub, Nat.reduceMul, Nat.reduceLT, Nat.reduceLeDiff, Int.reduceEq, Int.reduceLT, Int.reduceLE, Int.reduceAdd, Int.reduceSub, Int.reduceMul, Int.reduceNeg, Int.reduceToNat, reduceCtorEq, eq_self]
      exact hG
    · simp only [objK_of hg2, objK_of hg1, c, ↓stepR, normR, Int.cast_ofNat_Int, Int.natCast_nonneg, Int.toNat_natCast, Nat.reduceMod, Nat.reduceDiv, Nat.reducePow, Nat.testBit_eq_decide_div_mod_eq, ↓reduceIte, Nat.reduceEqDiff, Nat.reduceAdd, Nat.reduceSub, Nat.reduceMul, Nat.reduceLT, Nat.reduceLeDiff, Int.reduceEq, Int.reduceLT, Int.reduceLE, Int.reduceAdd, Int.reduceSub, Int.reduceMul, Int.reduceNeg, Int.reduceToNat, reduceCtorEq, eq_self]
      exact ⟨rfl, fun _ => c0, fun _ => trivial⟩
  · have c0 := h1 (by omega)
    have c4 := h2 (by omega)
    simp only [↓stepR, normR, Int.cast_ofNat_Int, Int.natCast_nonneg, Int.toNat_natCast, Nat.reduceMod, Nat.reduceDiv, Nat.reducePow, Nat.testBit_eq_decide_div_mod_eq, ↓reduceIte, Nat.reduceEqDiff, Nat.reduceAdd, Nat.reduceSub, Nat.reduceMul, Nat.reduceLT, Nat.reduceLeDiff, Int.reduceEq, Int.reduceLT, Int.reduceLE, Int.reduceAdd, Int.reduceSub, Int.reduceMul, Int.reduceNeg, Int.reduceToNat, reduceCtorEq, eq_self]
    exact ⟨by simp [c0, c4], hG⟩

/-- States that may be. -/
def Pool.St (p : Pool) : Prop := ∀ s ∈ p.slots, 0 ≤ s.state ∧ s.state ≤ 4

theorem callK_may61 (s : Slot) (id : Nat) (h : H) (hg : h.get id = some (.cells (.agg 23 [.i .i64 0, .i .i64 4]) false false)) (k : V → H → Prop) (hk : ∀ h', Grow h h' → k (.b (decide (s.state = 0 ∨ s.state = 4))) h') : callK pu CL 61 [s.v, .sl id 0 [] 6 0 2 (some 2)] h k := by
  have hr : noRefs pu [s.v, .sl id 0 [] 6 0 2 (some 2)] = false := rfl
  rw [callK_refs hr]
  exact (run_may61 s id h hg).mono fun w h' ⟨a, b⟩ => by subst a; exact hk h' b

theorem ans_find40 (p : Pool) (hp : p.slots.length = 64) (hst : p.St) (a b : Int) : Ans 40 [p.v, .i .i64 a, .i .i64 b] (findV (p.slots.findIdx? (stands a b))) := by
  refine ⟨run (fn := F40) rfl rfl ?_, rfl, (by cases p.slots.findIdx? (stands a b) <;> rfl)⟩
  unfold F40
  simp only [Pool.sh, Pool.nt, Pool.v, ↓stepR, normR, Int.cast_ofNat_Int, Int.natCast_nonneg, Int.toNat_natCast, Nat.reduceMod, Nat.reduceDiv, Nat.reducePow, Nat.testBit_eq_decide_div_mod_eq, ↓reduceIte, Nat.reduceEqDiff, Nat.reduceAdd, Nat.reduceSub, Nat.reduceMul, Nat.reduceLT, Nat.reduceLeDiff, Int.reduceEq, Int.reduceLT, Int.reduceLE, Int.reduceAdd, Int.reduceSub, Int.reduceMul, Int.reduceNeg, Int.reduceToNat, reduceCtorEq, eq_self]
  refine W_up 64 (fun i e h => e = [(1, .i .i64 a), (2, .i .i64 b), (11, .agg 12 (p.slots.map Slot.v)), (12, .i .i64 i)] ∧ ∀ j (hj : j < p.slots.length), j < i → stands a b p.slots[j] = false) ?_ 0 (by omega) _ _ ?_
  · rintro i e h hi ⟨rfl, hn⟩
    by_cases c1 : (i : Int) < 64
    · have hi' : i < p.slots.length := by omega
      have hi2 : i < 64 := by omega
      have hs04 := hst _ (List.getElem_mem hi')
      have n1 : ¬ h.n = h.n + 1 := by omega
      have n2 : ¬ h.n + 1 = h.n := by omega
      have hw := @wrap_up i (by omega)
      simp only [c1, nthK_map _ _ _ _ hi', Slot.sh, Slot.nt, n1, n2, ↓stepR, normR, Int.cast_ofNat_Int, Int.natCast_nonneg, Int.toNat_natCast, Nat.reduceMod, Nat.reduceDiv, Nat.reducePow, Nat.testBit_eq_decide_div_mod_eq, ↓reduceIte, Nat.reduceEqDiff, Nat.reduceAdd, Nat.reduceSub, Nat.reduceMul, Nat.reduceLT, Nat.reduceLeDiff, Int.reduceEq, Int.reduceLT, Int.reduceLE, Int.reduceAdd, Int.reduceSub, Int.reduceMul, Int.reduceNeg, Int.reduceToNat, reduceCtorEq, eq_self]
      refine callK_may61 _ _ _ (by simp only [↓stepR, normR, Int.cast_ofNat_Int, Int.natCast_nonneg, Int.toNat_natCast, Nat.reduceMod, Nat.reduceDiv, Nat.reducePow, Nat.testBit_eq_decide_div_mod_eq, ↓reduceIte, Nat.reduceEqDiff, Nat.reduceAdd, Nat.reduceSub, Nat.reduceMul, Nat.reduceLT, Nat.reduceLeDiff, Int.reduceEq, Int.reduceLT, Int.reduceLE, Int.reduceAdd, Int.reduceSub, Int.reduceMul, Int.reduceNeg, Int.reduceToNat, reduceCtorEq, eq_self]; try rfl) _ (fun h' hG => ?_)
      have hg := hG.2 h.n (.cells p.slots[i].v false false) (by simp only [n1, ↓stepR, normR, Int.cast_ofNat_Int, Int.natCast_nonneg, Int.toNat_natCast, Nat.reduceMod, Nat.reduceDiv, Nat.reducePow, Nat.testBit_eq_decide_div_mod_eq, ↓reduceIte, Nat.reduceEqDiff, Nat.reduceAdd, Nat.reduceSub, Nat.reduceMul, Nat.reduceLT, Nat.reduceLeDiff, Int.reduceEq, Int.reduceLT, Int.reduceLE, Int.reduceAdd, Int.reduceSub, Int.reduceMul, Int.reduceNeg, Int.reduceToNat, reduceCtorEq, eq_self]; try rfl)
      simp only [Slot.v] at hg
      cases hs : stands a b p.slots[i] with
      | true =>
        have hd := hs
        simp only [stands, decide_eq_true_eq] at hd
        obtain ⟨d1, d2, d3⟩ := hd
        have e1 : ¬ p.slots[i].state = 0 := by omega
        have e2 : ¬ p.slots[i].state = 4 := by omega
        simp only [objK_of hg, e1, e2, or_self, d2, d3, veq_agg, veqs_cons, veqs_nil, veq_i, Bool.and_self, ↓stepR, normR, Int.cast_ofNat_Int, Int.natCast_nonneg, Int.toNat_natCast, Nat.reduceMod, Nat.reduceDiv, Nat.reducePow, Nat.testBit_eq_decide_div_mod_eq, ↓reduceIte, Nat.reduceEqDiff, Nat.reduceAdd, Nat.reduceSub, Nat.reduceMul, Nat.reduceLT, Nat.reduceLeDiff, Int.reduceEq, Int.reduceLT, Int.reduceLE, Int.reduceAdd, Int.reduceSub, Int.reduceMul, Int.reduceNeg, Int.reduceToNat, reduceCtorEq, eq_self]
        rw [findIdx_at hi' hs hn]; rfl
      | false =>
        have hd : ¬ ((p.slots[i].state = 1 ∨ p.slots[i].state = 2 ∨ p.slots[i].state = 3) ∧ p.slots[i].addr = a ∧ p.slots[i].port = b) := by simpa [stands] using hs
        have fin : ∀ j (hj : j < p.slots.length), j < i + 1 → stands a b p.slots[j] = false := fun j hj hlt => by
          by_cases e : j = i
          · subst e; exact hs
          · exact hn j hj (by omega)
        by_cases d0 : p.slots[i].state = 0 ∨ p.slots[i].state = 4
        · simp only [objK_of hg, d0, hw, hi2, ↓stepR, normR, Int.cast_ofNat_Int, Int.natCast_nonneg, Int.toNat_natCast, Nat.reduceMod, Nat.reduceDiv, Nat.reducePow, Nat.testBit_eq_decide_div_mod_eq, ↓reduceIte, Nat.reduceEqDiff, Nat.reduceAdd, Nat.reduceSub, Nat.reduceMul, Nat.reduceLT, Nat.reduceLeDiff, Int.reduceEq, Int.reduceLT, Int.reduceLE, Int.reduceAdd, Int.reduceSub, Int.reduceMul, Int.reduceNeg, Int.reduceToNat, reduceCtorEq, eq_self]
          exact fin
        · have d1 : p.slots[i].state = 1 ∨ p.slots[i].state = 2 ∨ p.slots[i].state = 3 := by omega
          by_cases d2 : p.slots[i].addr = a
          · have d3 : ¬ p.slots[i].port = b := fun d3 => hd ⟨d1, d2, d3⟩
            simp only [objK_of hg, d0, d2, d3, hw, hi2, veq_agg, veqs_cons, veqs_nil, veq_i, Bool.and_false, Bool.and_true, Bool.and_self, Bool.false_and, Bool.true_and, ↓stepR, normR, Int.cast_ofNat_Int, Int.natCast_nonneg, Int.toNat_natCast, Nat.reduceMod, Nat.reduceDiv, Nat.reducePow, Nat.testBit_eq_decide_div_mod_eq, ↓reduceIte, Nat.reduceEqDiff, Nat.reduceAdd, Nat.reduceSub, Nat.reduceMul, Nat.reduceLT, Nat.reduceLeDiff, Int.reduceEq, Int.reduceLT, Int.reduceLE, Int.reduceAdd, Int.reduceSub, Int.reduceMul, Int.reduceNeg, Int.reduceToNat, reduceCtorEq, eq_self]
            exact fin
          · simp only [objK_of hg, d0, d2, hw, hi2, veq_agg, veqs_cons, veqs_nil, veq_i, Bool.and_false, Bool.and_true, Bool.false_and, Bool.true_and, ↓stepR, normR, Int.cast_ofNat_Int, Int.natCast_nonneg, Int.toNat_natCast, Nat.reduceMod, Nat.reduceDiv, Nat.reducePow, Nat.testBit_eq_decide_div_mod_eq, ↓reduceIte, Nat.reduceEqDiff, Nat.reduceAdd, Nat.reduceSub, Nat.reduceMul, Nat.reduceLT, Nat.reduceLeDiff, Int.reduceEq, Int.reduceLT, Int.reduceLE, Int.reduceAdd, Int.reduceSub, Int.reduceMul, Int.reduceNeg, Int.reduceToNat, reduceCtorEq, eq_self]
            exact fin
    · simp only [c1, ↓stepR, normR, Int.cast_ofNat_Int, Int.natCast_nonneg, Int.toNat_natCast, Nat.reduceMod, Nat.reduceDiv, Nat.reducePow, Nat.testBit_eq_decide_div_mod_eq, ↓reduceIte, Nat.reduceEqDiff, Nat.reduceAdd, Nat.reduceSub, Nat.reduceMul, Nat.reduceLT, Nat.reduceLeDiff, Int.reduceEq, Int.reduceLT, Int.reduceLE, Int.reduceAdd, Int.reduceSub, Int.reduceMul, Int.reduceNeg, Int.reduceToNat, reduceCtorEq, eq_self]
      rw [findIdx_no fun j hj => hn j hj (by omega)]; rfl
  · exact ⟨rfl, fun j hj h => absurd h (by omega)⟩
theorem call_find40 (p : Pool) (hp : p.slots.length = 64) (hst : p.St) (a b : Int) (h : H) (k : V → H → Prop) : callK pu CL 40 [p.v, .i .i64 a, .i .i64 b] h k = k (findV (p.slots.findIdx? (stands a b))) h := (ans_find40 p hp hst a b).k h k
theorem dcall_find40 (p : Pool) (hp : p.slots.length = 64) (hst : p.St) (a b : Int) (h : H) (k : V → H → Cls → Prop) : callD pu CL false 40 [p.v, .i .i64 a, .i .i64 b] h k = k (findV (p.slots.findIdx? (stands a b))) h .pu := (ans_find40 p hp hst a b).d h k

/-! ### the first slot that .. -/
def idxI (o : Option Nat) : Int := match o with | some i => i | none => -1

theorem run_index37 (p : Pool) (hp : p.slots.length = 64) (id : Nat) (h : H) (hg : h.get id = some (.cells p.v false false)) (f : Nat) (caps : List V) (P : Slot → Bool)
    (hcall : ∀ (s : Slot) (hh : H) (k : V → H → Prop), Grow h hh → (∀ h', Grow hh h' → k (.b (P s)) h') → callK pu CL f (s.v :: caps) hh k) :
    Runs CL 37 [.sl id 0 [3] 11 0 64 (some 64), .fn f caps] h fun w h' => w = .i .i64 (idxI (p.slots.findIdx? P)) ∧ Grow h h' := by
  refine run (fn := F37) rfl rfl ?_
  unfold F37
  simp only [↓stepR, normR, Int.cast_ofNat_Int, Int.natCast_nonneg, Int.toNat_natCast, Nat.reduceMod, Nat.reduceDiv, Nat.reducePow, Nat.testBit_eq_decide_div_mod_eq, ↓reduceIte, Nat.reduceEqDiff, Nat.reduceAdd, Nat.reduceSub, Nat.reduceMul, Nat.reduceLT, Nat.reduceLeDiff, Int.reduceEq, Int.reduceLT, Int.reduceLE, Int.reduceAdd, Int.reduceSub, Int.reduceMul, Int.reduceNeg, Int.reduceToNat, reduceCtorEq, eq_self]
  refine W_up 64 (fun i e hh => e = [(0, .sl id 0 [3] 11 0 64 (some 64)), (1, .fn f caps), (7, .i .i64 64), (8, .i .i64 i)] ∧ Grow h hh ∧ ∀ j (hj : j < p.slots.length), j < i → P p.slots[j] = false) ?_ 0 (by omega) _ _ ?_
  · rintro i e hh hi ⟨rfl, hG, hn⟩
    have hg' := hG.2 _ _ hg
    simp only [Pool.v] at hg'
    by_cases c1 : (i : Int) < 64
    · have hi' : i < p.slots.length := by omega
      have hi2 : i < 64 := by omega
      have hw := @wrap_up i (by omega)
      simp only [c1, nthK_map _ _ _ _ hi', objK_of hg', Slot.sh, Slot.nt, ↓stepR, normR, Int.cast_ofNat_Int, Int.natCast_nonneg, Int.toNat_natCast, Nat.reduceMod, Nat.reduceDiv, Nat.reducePow, Nat.testBit_eq_decide_div_mod_eq, ↓reduceIte, Nat.reduceEqDiff, Nat.reduceAdd, Nat.reduceSub, Nat.reduceMul, Nat.reduceLT, Nat.reduceLeDiff, Int.reduceEq, Int.reduceLT, Int.reduceLE, Int.reduceAdd, Int.reduceSub, Int.reduceMul, Int.reduceNeg, Int.reduceToNat, reduceCtorEq, eq_self]
      refine hcall _ _ _ hG (fun h' g' => ?_)
      cases hs : P p.slots[i] with
      | true =>
        simp only [↓stepR, normR, Int.cast_ofNat_Int, Int.natCast_nonneg, Int.toNat_natCast, Nat.reduceMod, Nat.reduceDiv, Nat.reducePow, Nat.testBit_eq_decide_div_mod_eq, ↓reduceIte, Nat.reduceEqDiff, Nat.reduceAdd, Nat.reduceSub, Nat.reduceMul, Nat.reduceLT, Nat.reduceLeDiff, Int.reduceEq, Int.reduceLT, Int.reduceLE, Int.reduceAdd, Int.reduceSub, Int.reduceMul, Int.reduceNeg, Int.reduceToNat, reduceCtorEq, eq_self]
        rw [findIdx_at hi' hs hn]
        exact ⟨rfl, hG.trans g'⟩
      | false =>
        have fin : ∀ j (hj : j < p.slots.length), j < i + 1 → P p.slots[j] = false := fun j hj hlt => by
          by_cases e : j = i
          · subst e; exact hs
          · exact hn j hj (by omega)
        simp only [hw, ↓stepR, normR, Int.cast_ofNat_Int, Int.natCast_nonneg, Int.toNat_natCast, Nat.reduceMod, Nat.reduceDiv, Nat.reducePow, Nat.testBit_eq_decide_div_mod_eq, ↓reduceIte, Nat.reduceEqDiff, Nat.reduceAdd, Nat.reduceSub, Nat.reduceMul, Nat.reduceLT, Nat.reduceLeDiff, Int.reduceEq, Int.reduceLT, Int.reduceLE, Int.reduceAdd, Int.reduceSub, Int.reduceMul, Int.reduceNeg, Int.reduceToNat, reduceCtorEq, eq_self]
        exact ⟨hi2, hG.trans g', fin⟩
    · simp only [c1, ↓stepR, normR, Int.cast_ofNat_Int, Int.natCast_nonneg, Int.toNat_natCast, Nat.reduceMod, Nat.reduceDiv, Nat.reducePow, Nat.testBit_eq_decide_div_mod_eq, ↓reduceIte, Nat.reduceEqDiff, Nat.reduceAdd, Nat.reduceSub, Nat.reduceMul, Nat.reduceLT, Nat.reduceLeDiff, Int.reduceEq, Int.reduceLT, Int.reduceLE, Int.reduceAdd, Int.reduceSub, Int.reduceMul, Int.reduceNeg, Int.reduceToNat, reduceCtorEq, eq_self]
      rw [findIdx_no fun j hj => hn j hj (by omega)]
      exact ⟨rfl, hG⟩
  · exact ⟨rfl, Grow.refl h, fun j hj h => absurd h (by omega)⟩

theorem ans_add38 (s : Slot) : Ans 38 [s.v] (.b (decide (s.state = 0))) := by
  refine ⟨run (fn := F38) rfl rfl ?_, rfl, rfl⟩
  unfold F38
  by_cases c : s.state = 0
  · simp only [Slot.v, c, ↓stepR, normR, Int.cast_ofNat_Int, Int.natCast_nonneg, Int.toNat_natCast, Nat.reduceMod, Nat.reduceDiv, Nat.reducePow, Nat.testBit_eq_decide_div_mod_eq, ↓reduceIte, Nat.reduceEqDiff, Nat.reduceAdd, Nat.reduceSub, Nat.reduceMul, Nat.reduceLT, Nat.reduceLeDiff, Int.reduceEq, Int.reduceLT, Int.reduceLE, Int.reduceAdd, Int.reduceSub, Int.reduceMul, Int.reduceNeg, Int.reduceToNat, reduceCtorEq, eq_self]
  · simp only [Slot.v, c, ↓stepR, normR, Int.cast_ofNat_Int, Int.natCast_nonneg, Int.toNat_natCast, Nat.reduceMod, Nat.reduceDiv, Nat.reducePow, Nat.testBit_eq_decide_div_mod_eq, ↓reduceIte, Nat.reduceEqDiff, Nat.reduceAdd, Nat.reduceSub, Nat.reduceMul, Nat.reduceLT, Nat.reduceLeDiff, Int.reduceEq, Int.reduceLT, Int.reduceLE, Int.reduceAdd, Int.reduceSub, Int.reduceMul, Int.reduceNeg, Int.reduceToNat, reduceCtorEq, eq_self]
theorem call_add38 (s : Slot) (h : H) (k : V → H → Prop) : callK pu CL 38 [s.v] h k = k (.b (decide (s.state = 0))) h := (ans_add38 s).k h k
theorem dcall_add38 (s : Slot) (h : H) (k : V → H → Cls → Prop) : callD pu CL false 38 [s.v] h k = k (.b (decide (s.state = 0))) h .pu := (ans_add38 s).d h k

theorem run_add35 (s : Slot) (a b : Int) (i j : Nat) (h : H) (hi : h.get i = some (.cells (.i .i64 a) false false)) (hj : h.get j = some (.cells (.i .i64 b) false false)) :
    Runs CL 35 [s.v, .ptr i 0 [] 6, .ptr j 0 [] 6] h fun w h' => w = .b (taken a b s) ∧ Grow h h' := by
  refine run (fn := F35) rfl rfl ?_
  unfold F35
  have hG : Grow h (h.push (.cells s.v false false)) := (Grow.refl h).push _
  have hi' := hG.2 _ _ hi
  have hj' := hG.2 _ _ hj
  have n1 : ¬ i = h.n := by have := H.lt_of hi; omega
  have n2 : ¬ j = h.n := by have := H.lt_of hj; omega
  have e : taken a b s = decide (¬ s.state = 0 ∧ s.addr = a ∧ s.port = b) := rfl
  rw [e]
  by_cases c : s.state = 0
  · simp only [Slot.v, c, ↓stepR, normR, Int.cast_ofNat_Int, Int.natCast_nonneg, Int.toNat_natCast, Nat.reduceMod, Nat.reduceDiv, Nat.reducePow, Nat.testBit_eq_decide_div_mod_eq, ↓reduceIte, Nat.reduceEqDiff, Nat.reduceAdd, Nat.reduceSub, Nat.reduceMul, Nat.reduceLT, Nat.reduceLeDiff, Int.reduceEq, Int.reduceLT, Int.reduceLE, Int.reduceAdd, Int.reduceSub, Int.reduceMul, Int.reduceNeg, Int.reduceToNat, reduceCtorEq, eq_self]
    first | exact (Grow.refl h).push _ | exact ⟨by simp, (Grow.refl h).push _⟩
  · by_cases c2 : s.addr = a
    · by_cases c3 : s.port = b
      · simp only [Slot.v, c, c2, c3, objK_of hi, objK_of hj, n1, n2, ↓stepR, normR, Int.cast_ofNat_Int, Int.natCast_nonneg, Int.toNat_natCast, Nat.reduceMod, Nat.reduceDiv, Nat.reducePow, Nat.testBit_eq_decide_div_mod_eq, ↓reduceIte, Nat.reduceEqDiff, Nat.reduceAdd, Nat.reduceSub, Nat.reduceMul, Nat.reduceLT, Nat.reduceLeDiff, Int.reduceEq, Int.reduceLT, Int.reduceLE, Int.reduceAdd, Int.reduceSub, Int.reduceMul, Int.reduceNeg, Int.reduceToNat, reduceCtorEq, eq_self]
        first | exact (Grow.refl h).push _ | exact ⟨by simp, (Grow.refl h).push _⟩
      · simp only [Slot.v, c, c2, c3, objK_of hi, objK_of hj, n1, n2, ↓stepR, normR, Int.cast_ofNat_Int, Int.natCast_nonneg, Int.toNat_natCast, Nat.reduceMod, Nat.reduceDiv, Nat.reducePow, Nat.testBit_eq_decide_div_mod_eq, ↓reduceIte, Nat.reduceEqDiff, Nat.reduceAdd, Nat.reduceSub, Nat.reduceMul, Nat.reduceLT, Nat.reduceLeDiff, Int.reduceEq, Int.reduceLT, Int.reduceLE, Int.reduceAdd, Int.reduceSub, Int.reduceMul, Int.reduceNeg, Int.reduceToNat, reduceCtorEq, eq_self]
        first | exact (Grow.refl h).push _ | exact ⟨by simp, (Grow.refl h).push _⟩
    · simp only [Slot.v, c, c2, objK_of hi, objK_of hj, n1, n2, ↓stepR, normR, Int.cast_ofNat_Int, Int.natCast_nonneg, Int.toNat_natCast, Nat.reduceMod, Nat.reduceDiv, Nat.reducePow, Nat.testBit_eq_decide_div_mod_eq, ↓reduceIte, Nat.reduceEqDiff, Nat.reduceAdd, Nat.reduceSub, Nat.reduceMul, Nat.reduceLT, Nat.reduceLeDiff, Int.reduceEq, Int.reduceLT, Int.reduceLE, Int.reduceAdd, Int.reduceSub, Int.reduceMul, Int.reduceNeg, Int.reduceToNat, reduceCtorEq, eq_self]
      first | exact (Grow.refl h).push _ | exact ⟨by simp, (Grow.refl h).push _⟩

theorem any_find {α : Type} (P : α → Bool) (l : List α) : l.any P = (l.findIdx? P).isSome := by
  induction l with
  | nil => rfl
  | cons x l ih =>
    rw [List.any_cons, List.findIdx?_cons]
    cases hx : P x with
    | true => simp
    | false => simp only [Bool.false_or, ih, Bool.false_eq_true, if_false, Option.isSome_map]

theorem callK_index37 (p : Pool) (hp : p.slots.length = 64) (id : Nat) (h : H) (hg : h.get id = some (.cells p.v false false)) (f : Nat) (caps : List V) (P : Slot → Bool)
    (hcall : ∀ (s : Slot) (hh : H) (k : V → H → Prop), Grow h hh → (∀ h', Grow hh h' → k (.b (P s)) h') → callK pu CL f (s.v :: caps) hh k) (k : V → H → Prop)
    (hk : ∀ h', Grow h h' → k (.i .i64 (idxI (p.slots.findIdx? P))) h') : callK pu CL 37 [.sl id 0 [3] 11 0 64 (some 64), .fn f caps] h k := by
  have hr : noRefs pu [.sl id 0 [3] 11 0 64 (some 64), .fn f caps] = false := rfl
  rw [callK_refs hr]
  exact (run_index37 p hp id h hg f caps P hcall).mono fun w h' ⟨a, b⟩ => by subst a; exact hk h' b

theorem callK_contains36 (p : Pool) (hp : p.slots.length = 64) (id : Nat) (h : H) (hg : h.get id = some (.cells p.v false false)) (f : Nat) (caps : List V) (P : Slot → Bool)
    (hcall : ∀ (s : Slot) (hh : H) (k : V → H → Prop), Grow h hh → (∀ h', Grow hh h' → k (.b (P s)) h') → callK pu CL f (s.v :: caps) hh k) (k : V → H → Prop)
    (hk : ∀ h', Grow h h' → k (.b (p.slots.any P)) h') : callK pu CL 36 [.sl id 0 [3] 11 0 64 (some 64), .fn f caps] h k := by
  have hr : noRefs pu [.sl id 0 [3] 11 0 64 (some 64), .fn f caps] = false := rfl
  rw [callK_refs hr]
  refine run (fn := F36) rfl rfl ?_
  unfold F36
  simp only [↓stepR, normR, Int.cast_ofNat_Int, Int.natCast_nonneg, Int.toNat_natCast, Nat.reduceMod, Nat.reduceDiv, Nat.reducePow, Nat.testBit_eq_decide_div_mod_eq, ↓reduceIte, Nat.reduceEqDiff, Nat.reduceAdd, Nat.reduceSub, Nat.reduceMul, Nat.reduceLT, Nat.reduceLeDiff, Int.reduceEq, Int.reduceLT, Int.reduceLE, Int.reduceAdd, Int.reduceSub, Int.reduceMul, Int.reduceNeg, Int.reduceToNat, reduceCtorEq, eq_self]
  refine callK_index37 p hp id h hg f caps P hcall _ (fun h' g => ?_)
  have := hk h' g
  rw [any_find] at this
  cases hf : p.slots.findIdx? P with
  | none =>
    rw [hf] at this
    have e : ¬ (0 ≤ idxI none) := by simp [idxI]
    simp only [e, ↓stepR, normR, Int.cast_ofNat_Int, Int.natCast_nonneg, Int.toNat_natCast, Nat.reduceMod, Nat.reduceDiv, Nat.reducePow, Nat.testBit_eq_decide_div_mod_eq, ↓reduceIte, Nat.reduceEqDiff, Nat.reduceAdd, Nat.reduceSub, Nat.reduceMul, Nat.reduceLT, Nat.reduceLeDiff, Int.reduceEq, Int.reduceLT, Int.reduceLE, Int.reduceAdd, Int.reduceSub, Int.reduceMul, Int.reduceNeg, Int.reduceToNat, reduceCtorEq, eq_self]
    exact this
  | some i =>
    rw [hf] at this
    have e : 0 ≤ idxI (some i) := by simp [idxI]
    simp only [e, ↓stepR, normR, Int.cast_ofNat_Int, Int.natCast_nonneg, Int.toNat_natCast, Nat.reduceMod, Nat.reduceDiv, Nat.reducePow, Nat.testBit_eq_decide_div_mod_eq, ↓reduceIte, Nat.reduceEqDiff, Nat.reduceAdd, Nat.reduceSub, Nat.reduceMul, Nat.reduceLT, Nat.reduceLeDiff, Int.reduceEq, Int.reduceLT, Int.reduceLE, Int.reduceAdd, Int.reduceSub, Int.reduceMul, Int.reduceNeg, Int.reduceToNat, reduceCtorEq, eq_self]
    exact this
end Go.Rae.Order
