/- All: entries done one by one. -/
import Derived.Test.YtannfoaobeoafaaDoorOrdFrees
set_option linter.unusedVariables false
set_option linter.unusedSimpArgs false
namespace Go.Rae.Order
set_option maxRecDepth 100000

def allS : Pool → List Entry → Nat → Pool × Nat × Int
  | p, [], i => (p, i, 0)
  | p, e :: es, i => if applyE p e = 0 then allS (applyS p e) es (i + 1) else (p, i, applyE p e)

theorem run_all15 (p : Pool) (hp : p.slots.length = 64) (v : V) (es : List Entry) (hes : es.length < 1000000) (h : H) (hu : EntsR h v es) :
    Runs CL 15 [p.v, v] h fun w h' => w = .tup [(allS p es 0).1.v, .i .i64 (allS p es 0).2.1, .i .i64 (allS p es 0).2.2] ∧ Grow h h' := by
  refine run (fn := F15) rfl rfl ?_
  unfold F15
  have hnt := hu.nt
  simp only [Slot.sh, Slot.nt, Key.sh, Key.nt, Ring.sh, Ring.nt, Pool.sh, Pool.nt, Entry.sh, Entry.nt, hnt, ↓stepR, normR, Int.cast_ofNat_Int, Int.natCast_nonneg, Int.toNat_natCast, Nat.reduceMod, Nat.reduceDiv, Nat.reducePow, Nat.testBit_eq_decide_div_mod_eq, ↓reduceIte, Nat.reduceEqDiff, Nat.reduceAdd, Nat.reduceSub, Nat.reduceMul, Nat.reduceLT, Nat.reduceLeDiff, Int.reduceEq, Int.reduceLT, Int.reduceLE, Int.reduceAdd, Int.reduceSub, Int.reduceMul, Int.reduceNeg, Int.reduceToNat, reduceCtorEq, eq_self]
  refine W_up es.length (fun i e hh => ∃ q : Pool, e = [(1, v), (2, .ptr h.n 0 [] 15), (4, .ptr (h.n + 1) 0 [] 15), (7, .i .i64 i)] ∧ q.slots.length = 64 ∧ allS q (es.drop i) i = allS p es 0 ∧
    hh.get h.n = some (.cells q.v false false) ∧ hh.get (h.n + 1) = some (.cells pool0.v false false) ∧ Grow h hh ∧ h.n + 2 ≤ hh.n) ?_ 0 (by omega) _ _ ?_
  · rintro i e hh hi ⟨q, rfl, hq, hal, hg, hg0, hG, hn⟩
    have hlu := (hu.grow hG).len
    have a0 := H.has_of hg
    have a1 := H.has_of hg0
    by_cases c1 : i < es.length
    · have c1' : (i : Int) < (es.length : Int) := by omega
      obtain ⟨id, st, g, hi1, hb, hs⟩ := (hu.grow hG).obj (by omega)
      have hi1' : ∀ k : V → Prop, iaLK 16 v (i : Int) k = k (.ptr id st [i] 16) := fun k => hi1 i k c1
      have hap := dcall_apply27 q hq es[i]
      have hw := @wrap_up i (by omega)
      rw [List.drop_eq_getElem_cons c1] at hal
      have n1 : ¬ h.n = hh.n := by omega
      have n2 : ¬ h.n + 1 = hh.n := by omega
      have n3 : ¬ h.n = h.n + 1 := by omega
      have n4 : ¬ h.n + 1 = h.n := by omega
      by_cases c3 : applyE q es[i] = 0
      · rw [allS, if_pos c3] at hal
        simp only [c1', hnt, hlu, hi1', objK_of hg, objK_of hg0, objK_of hb, hs, nthK_map _ _ _ _ c1, hap, c3, hw, n1, n2, n3, n4, a0, a1, or_true, zpool1, zpool2, Bool.and_true, Slot.sh, Slot.nt, Key.sh, Key.nt, Ring.sh, Ring.nt, Pool.sh, Pool.nt, Entry.sh, Entry.nt, ↓stepR, normR, Int.cast_ofNat_Int, Int.natCast_nonneg, Int.toNat_natCast, Nat.reduceMod, Nat.reduceDiv, Nat.reducePow, Nat.testBit_eq_decide_div_mod_eq, ↓reduceIte, Nat.reduceEqDiff, Nat.reduceAdd, Nat.reduceSub, Nat.reduceMul, Nat.reduceLT, Nat.reduceLeDiff, Int.reduceEq, Int.reduceLT, Int.reduceLE, Int.reduceAdd, Int.reduceSub, Int.reduceMul, Int.reduceNeg, Int.reduceToNat, reduceCtorEq, eq_self]
        refine ⟨c1, applyS q es[i], applyS_len q _ hq, hal, ?_⟩
        exact ⟨rfl, hg0, ((hG.push _).set (by omega) (by rw [H.has_push]; exact .inl rfl) _).set (Nat.le_refl _) (by rw [H.has_set, H.has_push]; exact .inr a0) _, by omega⟩
      · rw [allS, if_neg c3] at hal
        simp only [c1', hnt, hlu, hi1', objK_of hg, objK_of hg0, objK_of hb, hs, nthK_map _ _ _ _ c1, hap, c3, hw, n1, n2, n3, n4, a0, a1, or_true, zpool1, zpool2, Bool.and_true, Slot.sh, Slot.nt, Key.sh, Key.nt, Ring.sh, Ring.nt, Pool.sh, Pool.nt, Entry.sh, Entry.nt, ↓stepR, normR, Int.cast_ofNat_Int, Int.natCast_nonneg, Int.toNat_natCast, Nat.reduceMod, Nat.reduceDiv, Nat.reducePow, Nat.testBit_eq_decide_div_mod_eq, ↓reduceIte, Nat.reduceEqDiff, Nat.reduceAdd, Nat.reduceSub, Nat.reduceMul, Nat.reduceLT, Nat.reduceLeDiff, Int.reduceEq, Int.reduceLT, Int.reduceLE, Int.reduceAdd, Int.reduceSub, Int.reduceMul, Int.reduceNeg, Int.reduceToNat, reduceCtorEq, eq_self]
        rw [← hal]
        exact ⟨rfl, ((hG.push _).set (by omega) (by rw [H.has_push]; exact .inl rfl) _).set (by omega) (by rw [H.has_set, H.has_push]; exact .inr a1) _⟩
    · have c1' : ¬ (i : Int) < (es.length : Int) := by omega
      have : i = es.length := by omega
      subst this
      rw [List.drop_length, allS] at hal
      have n3 : ¬ h.n = h.n + 1 := by omega
      have n4 : ¬ h.n + 1 = h.n := by omega
      simp only [c1', hnt, hlu, objK_of hg, objK_of hg0, n3, n4, a0, a1, Slot.sh, Slot.nt, Key.sh, Key.nt, Ring.sh, Ring.nt, Pool.sh, Pool.nt, Entry.sh, Entry.nt, ↓stepR, normR, Int.cast_ofNat_Int, Int.natCast_nonneg, Int.toNat_natCast, Nat.reduceMod, Nat.reduceDiv, Nat.reducePow, Nat.testBit_eq_decide_div_mod_eq, ↓reduceIte, Nat.reduceEqDiff, Nat.reduceAdd, Nat.reduceSub, Nat.reduceMul, Nat.reduceLT, Nat.reduceLeDiff, Int.reduceEq, Int.reduceLT, Int.reduceLE, Int.reduceAdd, Int.reduceSub, Int.reduceMul, Int.reduceNeg, Int.reduceToNat, reduceCtorEq, eq_self]
      rw [← hal]
      exact ⟨rfl, hG.set (by omega) a1 _⟩
  · refine ⟨p, rfl, hp, rfl, by first | (simp only [↓stepR, normR, Int.cast_ofNat_Int, Int.natCast_nonneg, Int.toNat_natCast, Nat.reduceMod, Nat.reduceDiv, Nat.reducePow, Nat.testBit_eq_decide_div_mod_eq, ↓reduceIte, Nat.reduceEqDiff, Nat.reduceAdd, Nat.reduceSub, Nat.reduceMul, Nat.reduceLT, Nat.reduceLeDiff, Int.reduceEq, Int.reduceLT, Int.reduceLE, Int.reduceAdd, Int.reduceSub, Int.reduceMul, Int.reduceNeg, Int.reduceToNat, reduceCtorEq, eq_self]; done) | (simp only [↓stepR, normR, Int.cast_ofNat_Int, Int.natCast_nonneg, Int.toNat_natCast, Nat.reduceMod, Nat.reduceDiv, Nat.reducePow, Nat.testBit_eq_decide_div_mod_eq, ↓reduceIte, Nat.reduceEqDiff, Nat.reduceAdd, Nat.reduceSub, Nat.reduceMul, Nat.reduceLT, Nat.reduceLeDiff, Int.reduceEq, Int.reduceLT, Int.reduceLE, Int.reduceAdd, Int.reduceSub, Int.reduceMul, Int.reduceNeg, Int.reduceToNat, reduceCtorEq, eq_self]; rfl), by first | (simp only [↓stepR, normR, Int.cast_ofNat_Int, Int.natCast_nonneg, Int.toNat_natCast, Nat.reduceMod, Nat.reduceDiv, Nat.reducePow, Nat.testBit_eq_decide_div_mod_eq, ↓reduceIte, Nat.reduceEqDiff, Nat.reduceAdd, Nat.reduceSub, Nat.reduceMul, Nat.reduceLT, Nat.reduceLeDiff, Int.reduceEq, Int.reduceLT, Int.reduceLE, Int.reduceAdd, Int.reduceSub, Int.reduceMul, Int.reduceNeg, Int.reduceToNat, reduceCtorEq, eq_self]; done) | (simp only [↓stepR, normR, Int.cast_ofNat_Int, Int.natCast_nonneg, Int.toNat_natCast, Nat.reduceMod, Nat.reduceDiv, Nat.reducePow, Nat.testBit_eq_decide_div_mod_eq, ↓reduceIte, Nat.reduceEqDiff, Nat.reduceAdd, Nat.reduceSub, Nat.reduceMul, Nat.reduceLT, Nat.reduceLeDiff, Int.reduceEq, Int.reduceLT, Int.reduceLE, Int.reduceAdd, Int.reduceSub, Int.reduceMul, Int.reduceNeg, Int.reduceToNat, reduceCtorEq, eq_self]; rfl), ((Grow.refl h).push _).push _, by simp only [H.push_n]; omega⟩
end Go.Rae.Order
