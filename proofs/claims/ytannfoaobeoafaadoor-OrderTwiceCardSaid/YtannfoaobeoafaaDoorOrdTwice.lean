/- OrderTwice: who is there is not added twice; who was removed is not removed again. -/
import Derived.Test.YtannfoaobeoafaaDoorOrdDone
set_option linter.unusedVariables false
set_option linter.unusedSimpArgs false
namespace Go.Rae.Order
set_option maxRecDepth 100000
set_option maxHeartbeats 4000000

theorem allS_st : ∀ (es : List Entry) (p : Pool) (i : Nat), p.St → (allS p es i).1.St := by
  intro es
  induction es with
  | nil => intro p i h; exact h
  | cons e es ih =>
    intro p i h
    rw [allS]; split
    · exact ih _ _ (applyS_st h e)
    · exact h

def busy (p : Pool) : Nat := p.slots.countP fun s => !freeS s
theorem busy_apply {p : Pool} {e : Entry} (h : applyE p e = 0) : busy (applyS p e) ≤ busy p + 1 := by
  unfold busy
  simp only [applyS, if_pos h, doS]
  by_cases c : e.slot.toNat < p.slots.length
  · rw [List.countP_set c]
    split <;> split <;> omega
  · rw [List.set_eq_of_length_le (by omega)]; omega
theorem busy_fold : ∀ (ns : List Int) (p : Pool), busy (foldS p ns) ≤ busy p + ns.length := by
  intro ns
  induction ns with
  | nil => intro p; exact Nat.le_refl _
  | cons n ns ih =>
    intro p
    rw [foldS]
    refine Nat.le_trans (ih _) ?_
    rw [List.length_cons]
    split
    · rename_i h; have := busy_apply h; omega
    · omega
theorem busy_make (ns : List Int) (most : Nat) : busy (makeS ns most) ≤ most := by
  refine Nat.le_trans (busy_fold _ _) ?_
  have : busy pool1 = 0 := by decide +kernel
  rw [this, List.length_take]; omega
theorem free_of {p : Pool} (hp : p.slots.length = 64) (hb : busy p < 64) : p.slots.findIdx? freeS ≠ none := by
  intro hn
  rw [List.findIdx?_eq_none_iff] at hn
  have : busy p = p.slots.length := by
    unfold busy; rw [List.countP_eq_length]
    intro s hs; simp [hn s hs]
  omega

theorem held_of {p : Pool} (hp : p.slots.length = 64) {i : Nat} (hi : i < 64) {x y : Int} (h : taken x y (p.at i) = true) : heldS p x y = true := by
  unfold heldS
  rw [Bool.or_eq_true]; left
  rw [List.any_eq_true]
  exact ⟨_, List.getElem_mem (show i < p.slots.length by omega), by rw [← at_some]; exact h⟩
theorem add_held {p : Pool} {x y c : Int} (hc : checkS (addE 0 x y c) = 0) (h : heldS p x y = true) : addS p x y c = ([], 12) := by
  unfold addS; rw [if_neg (by simp [hc]), if_pos h]
theorem check_xy {x y c : Int} (h1 : 0 ≤ x) (h2 : x < 6) (h3 : 0 ≤ y) (h4 : y < 4) (h5 : 1 ≤ c) (h6 : c ≤ 8) : checkS (addE 0 x y c) = 0 := by
  unfold checkS addE; simp only
  rw [if_neg (by omega), if_neg (by omega), if_pos trivial, if_neg (by simp; omega)]

theorem twice {p : Pool} (hp : p.slots.length = 64) {x y : Int} (hc : checkS (addE 0 x y 1) = 0) (h : (addS p x y 1).2 = 0) : ∃ q r : Pool, allS p (addS p x y 1).1 0 = (q, 2, 0) ∧ q.slots.length = 64 ∧ (addS q x y 1).2 = 12 ∧ (removeS q x y).2 = 0 ∧ (removeS q x y).1.length = 2 ∧
    allS q (removeS q x y).1 0 = (r, 2, 0) ∧ r.slots.length = 64 ∧ (removeS r x y).2 = 9 ∧ (addS r x y 1).2 = 12 := by
  obtain ⟨i, q, hi, hia, _, hheld, hal, hql, hqi, hqo, hqf, _, _, _⟩ := add_done hp h
  have tq : taken x y (q.at i) = true := by rw [hqi]; simp [taken]
  have hr0 : (removeS q x y).2 = 0 := by unfold removeS; rw [hqf]
  obtain ⟨j, r, hj, hjf, hjr, hja, hrl, hrj, hro, _, _, _⟩ := remove_done hql hr0
  obtain rfl : j = i := Option.some.inj (hjf.symm.trans hqf)
  have hl2 : (removeS q x y).1.length = 2 := by rw [hjr, if_pos (by rw [hqi])]; rfl
  refine ⟨q, r, hal, hql, by rw [add_held hc (held_of hql hi tq)], hr0, hl2, by rw [hja, hl2], hrl, ?_, by rw [add_held hc (held_of hrl hi (by rw [hrj, hqi]; simp [taken]))]⟩
  have : r.slots.findIdx? (stands x y) = none := by
    refine findIdx_no fun k hk => ?_
    rw [← at_some hk]
    by_cases c : k = j
    · subst c; rw [hrj]; simp [stands]
    · rw [hro k (by omega) c, hqo k (by omega) c]
      have hnt : taken x y (p.at k) = false := by
        have := (Bool.or_eq_false_iff.1 hheld).1
        rw [List.any_eq_false] at this
        rw [at_some (by omega)]
        simpa using this _ (List.getElem_mem (show k < p.slots.length by omega))
      simp only [taken, decide_eq_false_iff_not] at hnt
      simp only [stands, decide_eq_false_iff_not]
      exact fun h => hnt ⟨by omega, h.2⟩
  unfold removeS; rw [this]

theorem law_twice (v : V) (ns : List Int) (addr port : Int) (h : H) (hv : IntsAt h v ns) : Runs CL 28 [v, .i .i64 addr, .i .i64 port] h fun u _ => u = .b true := by
  have hlen := makeS_slots ns 40
  have hst := makeS_st ns 40
  have hbusy := busy_make ns 40
  refine run (fn := F28) rfl rfl ?_
  unfold F28
  have hnt : v.isTup = false := by rcases hv with ⟨rfl, _⟩ | ⟨_, rfl, _⟩ <;> rfl
  simp only [call_known, hnt, ↓stepR, normR, Int.cast_ofNat_Int, Int.natCast_nonneg, Int.toNat_natCast, Nat.reduceMod, Nat.reduceDiv, Nat.reducePow, Nat.testBit_eq_decide_div_mod_eq, ↓reduceIte, Nat.reduceEqDiff, Nat.reduceAdd, Nat.reduceSub, Nat.reduceMul, Nat.reduceLT, Nat.reduceLeDiff, Int.reduceEq, Int.reduceLT, Int.reduceLE, Int.reduceAdd, Int.reduceSub, Int.reduceMul, Int.reduceNeg, Int.reduceToNat, reduceCtorEq, eq_self]
  refine call_make v ns 40 (by omega) h hv _ (fun h1 g1 => ?_)
  generalize hp : makeS ns 40 = p at *
  have w6 := call_within3 addr 6 (by decide) (by decide)
  have w4 := call_within3 port 4 (by decide) (by decide)
  have hc : checkS (addE 0 (addr % 6) (port % 4) 1) = 0 := check_xy (by omega) (by omega) (by omega) (by omega) (by omega) (by omega)
  have hpo := H.get_pushset h1 (.cells (V.agg 15 [.i .i64 0, .i .i64 0, .i .i64 0, .agg 12 (List.replicate 64 (.agg 11 [.i .i64 0, .i .i64 0, .i .i64 0, .i .i64 0, .i .i64 0])), .agg 14 [.i .i64 0, .agg 13 [.i .u64 0, .i .u64 0], .agg 13 [.i .u64 0, .i .u64 0], .agg 13 [.i .u64 0, .i .u64 0]]]) false false) (.cells p.v false false)
  simp only [Slot.sh, Slot.nt, Key.sh, Key.nt, Ring.sh, Ring.nt, Pool.sh, Pool.nt, Entry.sh, Entry.nt, w6, w4, ↓stepR, normR, Int.cast_ofNat_Int, Int.natCast_nonneg, Int.toNat_natCast, Nat.reduceMod, Nat.reduceDiv, Nat.reducePow, Nat.testBit_eq_decide_div_mod_eq, ↓reduceIte, Nat.reduceEqDiff, Nat.reduceAdd, Nat.reduceSub, Nat.reduceMul, Nat.reduceLT, Nat.reduceLeDiff, Int.reduceEq, Int.reduceLT, Int.reduceLE, Int.reduceAdd, Int.reduceSub, Int.reduceMul, Int.reduceNeg, Int.reduceToNat, reduceCtorEq, eq_self]
  generalize addr % 6 = x at *
  generalize port % 4 = y at *
  generalize H.set _ h1.n _ = g at *
  refine callK_add4 p hlen _ _ _ _ _ (fun u1 h2 e1 g2 => ?_)
  have hp2 := g2.2 _ _ hpo
  have n1 := e1.r.nt
  by_cases hA : (addS p x y 1).2 = 0
  · obtain ⟨q, r, ha1, hql, hq12, hq0, hq2, ha2, hrl, hr9, hr12⟩ := twice hlen hc hA
    have hqst : q.St := by have := allS_st (addS p x y 1).1 p 0 hst; rw [ha1] at this; exact this
    have hrst : r.St := by have := allS_st (removeS q x y).1 q 0 hqst; rw [ha2] at this; exact this
    simp only [hA, n1, objK_of hp2, Slot.sh, Slot.nt, Key.sh, Key.nt, Ring.sh, Ring.nt, Pool.sh, Pool.nt, Entry.sh, Entry.nt, ↓stepR, normR, Int.cast_ofNat_Int, Int.natCast_nonneg, Int.toNat_natCast, Nat.reduceMod, Nat.reduceDiv, Nat.reducePow, Nat.testBit_eq_decide_div_mod_eq, ↓reduceIte, Nat.reduceEqDiff, Nat.reduceAdd, Nat.reduceSub, Nat.reduceMul, Nat.reduceLT, Nat.reduceLeDiff, Int.reduceEq, Int.reduceLT, Int.reduceLE, Int.reduceAdd, Int.reduceSub, Int.reduceMul, Int.reduceNeg, Int.reduceToNat, reduceCtorEq, eq_self]
    refine callK_all15 p hlen u1 _ (addS_len ..) _ e1.r _ (fun h3 g3 => ?_)
    rw [ha1]
    have hq3 := fun o => H.get_pushset h3 o (.cells q.v false false)
    simp only [n1, Slot.sh, Slot.nt, Key.sh, Key.nt, Ring.sh, Ring.nt, Pool.sh, Pool.nt, Entry.sh, Entry.nt, ↓stepR, normR, Int.cast_ofNat_Int, Int.natCast_nonneg, Int.toNat_natCast, Nat.reduceMod, Nat.reduceDiv, Nat.reducePow, Nat.testBit_eq_decide_div_mod_eq, ↓reduceIte, Nat.reduceEqDiff, Nat.reduceAdd, Nat.reduceSub, Nat.reduceMul, Nat.reduceLT, Nat.reduceLeDiff, Int.reduceEq, Int.reduceLT, Int.reduceLE, Int.reduceAdd, Int.reduceSub, Int.reduceMul, Int.reduceNeg, Int.reduceToNat, reduceCtorEq, eq_self]
    refine callK_add4 q hql _ _ _ _ _ (fun u2 h4 e2 g4 => ?_)
    have hq4 := g4.2 _ _ (hq3 _)
    have n2 := e2.r.nt
    simp only [n2, objK_of hq4, hq12, Slot.sh, Slot.nt, Key.sh, Key.nt, Ring.sh, Ring.nt, Pool.sh, Pool.nt, Entry.sh, Entry.nt, ↓stepR, normR, Int.cast_ofNat_Int, Int.natCast_nonneg, Int.toNat_natCast, Nat.reduceMod, Nat.reduceDiv, Nat.reducePow, Nat.testBit_eq_decide_div_mod_eq, ↓reduceIte, Nat.reduceEqDiff, Nat.reduceAdd, Nat.reduceSub, Nat.reduceMul, Nat.reduceLT, Nat.reduceLeDiff, Int.reduceEq, Int.reduceLT, Int.reduceLE, Int.reduceAdd, Int.reduceSub, Int.reduceMul, Int.reduceNeg, Int.reduceToNat, reduceCtorEq, eq_self]
    refine callK_remove6 q hql _ _ _ _ hqst (fun u3 h5 e3 g5 => ?_)
    have hq5 := g5.2 _ _ hq4
    have n3 := e3.r.nt
    simp only [n3, objK_of hq5, hq0, Slot.sh, Slot.nt, Key.sh, Key.nt, Ring.sh, Ring.nt, Pool.sh, Pool.nt, Entry.sh, Entry.nt, ↓stepR, normR, Int.cast_ofNat_Int, Int.natCast_nonneg, Int.toNat_natCast, Nat.reduceMod, Nat.reduceDiv, Nat.reducePow, Nat.testBit_eq_decide_div_mod_eq, ↓reduceIte, Nat.reduceEqDiff, Nat.reduceAdd, Nat.reduceSub, Nat.reduceMul, Nat.reduceLT, Nat.reduceLeDiff, Int.reduceEq, Int.reduceLT, Int.reduceLE, Int.reduceAdd, Int.reduceSub, Int.reduceMul, Int.reduceNeg, Int.reduceToNat, reduceCtorEq, eq_self]
    refine callK_all15 q hql u3 _ (removeS_len ..) _ e3.r _ (fun h6 g6 => ?_)
    rw [ha2]
    have hlu := (e3.r.grow g6).len
    have hr3 := fun o => H.get_pushset h6 o (.cells r.v false false)
    simp only [n3, Slot.sh, Slot.nt, Key.sh, Key.nt, Ring.sh, Ring.nt, Pool.sh, Pool.nt, Entry.sh, Entry.nt, ↓stepR, normR, Int.cast_ofNat_Int, Int.natCast_nonneg, Int.toNat_natCast, Nat.reduceMod, Nat.reduceDiv, Nat.reducePow, Nat.testBit_eq_decide_div_mod_eq, ↓reduceIte, Nat.reduceEqDiff, Nat.reduceAdd, Nat.reduceSub, Nat.reduceMul, Nat.reduceLT, Nat.reduceLeDiff, Int.reduceEq, Int.reduceLT, Int.reduceLE, Int.reduceAdd, Int.reduceSub, Int.reduceMul, Int.reduceNeg, Int.reduceToNat, reduceCtorEq, eq_self]
    refine callK_remove6 r hrl _ _ _ _ hrst (fun u4 h7 e4 g7 => ?_)
    have hr7 := g7.2 _ _ (hr3 _)
    have n4 := e4.r.nt
    simp only [n4, objK_of hr7, hr9, Slot.sh, Slot.nt, Key.sh, Key.nt, Ring.sh, Ring.nt, Pool.sh, Pool.nt, Entry.sh, Entry.nt, ↓stepR, normR, Int.cast_ofNat_Int, Int.natCast_nonneg, Int.toNat_natCast, Nat.reduceMod, Nat.reduceDiv, Nat.reducePow, Nat.testBit_eq_decide_div_mod_eq, ↓reduceIte, Nat.reduceEqDiff, Nat.reduceAdd, Nat.reduceSub, Nat.reduceMul, Nat.reduceLT, Nat.reduceLeDiff, Int.reduceEq, Int.reduceLT, Int.reduceLE, Int.reduceAdd, Int.reduceSub, Int.reduceMul, Int.reduceNeg, Int.reduceToNat, reduceCtorEq, eq_self]
    refine callK_add4 r hrl _ _ _ _ _ (fun u5 h8 e5 g8 => ?_)
    have n5 := e5.r.nt
    simp only [n3, n4, n5, hr12, hr9, hq12, hq0, hlu, hq2, Slot.sh, Slot.nt, Key.sh, Key.nt, Ring.sh, Ring.nt, Pool.sh, Pool.nt, Entry.sh, Entry.nt, ↓stepR, normR, Int.cast_ofNat_Int, Int.natCast_nonneg, Int.toNat_natCast, Nat.reduceMod, Nat.reduceDiv, Nat.reducePow, Nat.testBit_eq_decide_div_mod_eq, ↓reduceIte, Nat.reduceEqDiff, Nat.reduceAdd, Nat.reduceSub, Nat.reduceMul, Nat.reduceLT, Nat.reduceLeDiff, Int.reduceEq, Int.reduceLT, Int.reduceLE, Int.reduceAdd, Int.reduceSub, Int.reduceMul, Int.reduceNeg, Int.reduceToNat, reduceCtorEq, eq_self]
  · have h12 : (addS p x y 1).2 = 12 := by
      unfold addS at hA ⊢
      rw [if_neg (by simp [hc])] at hA ⊢
      cases hh : heldS p x y with
      | true => rw [if_pos rfl]
      | false =>
        rw [hh, if_neg (by decide)] at hA
        cases hf : p.slots.findIdx? freeS with
        | none => exact absurd hf (free_of hlen (by omega))
        | some i => rw [hf] at hA; exact absurd rfl hA
    simp only [h12, n1, Slot.sh, Slot.nt, Key.sh, Key.nt, Ring.sh, Ring.nt, Pool.sh, Pool.nt, Entry.sh, Entry.nt, ↓stepR, normR, Int.cast_ofNat_Int, Int.natCast_nonneg, Int.toNat_natCast, Nat.reduceMod, Nat.reduceDiv, Nat.reducePow, Nat.testBit_eq_decide_div_mod_eq, ↓reduceIte, Nat.reduceEqDiff, Nat.reduceAdd, Nat.reduceSub, Nat.reduceMul, Nat.reduceLT, Nat.reduceLeDiff, Int.reduceEq, Int.reduceLT, Int.reduceLE, Int.reduceAdd, Int.reduceSub, Int.reduceMul, Int.reduceNeg, Int.reduceToNat, reduceCtorEq, eq_self]
end Go.Rae.Order
