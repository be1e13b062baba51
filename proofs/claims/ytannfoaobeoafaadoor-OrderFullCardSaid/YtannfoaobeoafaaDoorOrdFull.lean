/- OrderFull: where no slot is free none is added; the least free one is. -/
import Derived.Test.YtannfoaobeoafaaDoorOrdDone
set_option linter.unusedVariables false
set_option linter.unusedSimpArgs false
namespace Go.Rae.Order
set_option maxRecDepth 100000
set_option maxHeartbeats 4000000

def bindE (i : Nat) : Entry := ⟨1, i, 100 + i, 1, 1, key0⟩
def fullP (g : Nat) : Nat → Pool
  | 0 => pool1
  | k + 1 => if k = g then fullP g k else applyS (fullP g k) (bindE k)

theorem full_ok (g : Nat) : ∀ k : Nat, k ≤ 64 → (fullP g k).slots.length = 64 ∧ (fullP g k).addr = 10 ∧ (fullP g k).port = 80 ∧ (∀ j : Nat, j < 64 → (fullP g k).at j = if j < k ∧ j ≠ g then ⟨1, 100 + j, 1, 1, 0⟩ else slot0) ∧ (k < 64 → applyE (fullP g k) (bindE k) = 0) := by
  have ok : ∀ (k : Nat) (p : Pool), k < 64 → p.slots.length = 64 → p.addr = 10 → (∀ j : Nat, j < 64 → p.at j = if j < k ∧ j ≠ g then ⟨1, 100 + j, 1, 1, 0⟩ else slot0) → applyE p (bindE k) = 0 := by
    intro k p hk hl ha hat
    refine apply_ok ?_ ?_ (fun h => absurd h.1 (show ¬ (1 : Int) = 5 by decide))
    · unfold checkS bindE; simp only
      rw [if_neg (by omega), if_neg (by omega), if_pos trivial, if_neg (by simp; omega)]
    · have h0 : p.at (k : Int) = slot0 := by rw [hat k hk, if_neg (by omega)]
      have hh : heldS p (100 + k) 1 = false := by
        unfold heldS
        rw [Bool.or_eq_false_iff]
        refine ⟨?_, by simp; omega⟩
        rw [List.any_eq_false]
        intro s hs
        obtain ⟨j, hj, rfl⟩ := List.getElem_of_mem hs
        rw [← at_some hj, hat j (by omega)]
        split
        · simp [taken]; omega
        · simp [taken, slot0]
      simp [badS, bindE, h0, hh, slot0]
  intro k
  induction k with
  | zero =>
    intro _
    have hat : ∀ j : Nat, j < 64 → (fullP g 0).at j = if j < 0 ∧ j ≠ g then ⟨1, 100 + j, 1, 1, 0⟩ else slot0 := fun j hj => by
      rw [if_neg (by omega), at_some (show j < (fullP g 0).slots.length from hj)]
      exact List.getElem_replicate _
    exact ⟨rfl, rfl, rfl, hat, fun h => ok 0 _ h rfl rfl hat⟩
  | succ k ih =>
    intro hk
    obtain ⟨h1, h2, h3, h4, h5⟩ := ih (by omega)
    by_cases c : k = g
    · have e : fullP g (k + 1) = fullP g k := by rw [fullP, if_pos c]
      rw [e]
      have hat : ∀ j : Nat, j < 64 → (fullP g k).at j = if j < k + 1 ∧ j ≠ g then ⟨1, 100 + j, 1, 1, 0⟩ else slot0 := fun j hj => by
        rw [h4 j hj]
        by_cases d : j < k ∧ j ≠ g
        · rw [if_pos d, if_pos ⟨by omega, d.2⟩]
        · rw [if_neg d, if_neg (by omega)]
      exact ⟨h1, h2, h3, hat, fun h => ok (k + 1) _ h h1 h2 hat⟩
    · have e : fullP g (k + 1) = applyS (fullP g k) (bindE k) := by rw [fullP, if_neg c]
      have h0 := h5 (by omega)
      rw [e]
      have hat : ∀ j : Nat, j < 64 → (applyS (fullP g k) (bindE k)).at j = if j < k + 1 ∧ j ≠ g then ⟨1, 100 + j, 1, 1, 0⟩ else slot0 := fun j hj => by
        rw [applyS_at h1 h0 (by simp [bindE]) (by simp [bindE]; omega) j hj]
        by_cases d : j = k
        · subst d; rw [if_pos (show (j : Int) = (bindE j).slot from rfl), if_pos ⟨by omega, c⟩]; rfl
        · rw [if_neg (by simp only [bindE]; omega), h4 j hj]
          by_cases d : j < k ∧ j ≠ g
          · rw [if_pos d, if_pos ⟨by omega, d.2⟩]
          · rw [if_neg d, if_neg (by omega)]
      have l := applyS_len _ (bindE k) h1
      have ad : (applyS (fullP g k) (bindE k)).addr = 10 := by rw [applyS_addr h0, h2]
      exact ⟨l, ad, by rw [applyS_port h0, h3], hat, fun h => ok (k + 1) _ h l ad hat⟩

theorem full_add (g k : Nat) (hk : k ≤ 64) (a : Int) (h0 : 0 ≤ a) (h1 : a < 90) : addS (fullP g k) a 9 2 = if (if g < k then g else k) < 64 then ([addE (if g < k then g else k) a 9 2, openE (if g < k then g else k)], 0) else ([], 9) := by
  obtain ⟨l, ha, hp, hat, _⟩ := full_ok g k hk
  have hc : checkS (addE 0 a 9 2) = 0 := by
    unfold checkS addE; simp only
    rw [if_neg (by omega), if_neg (by omega), if_pos trivial, if_neg (by simp; omega)]
  have hh : heldS (fullP g k) a 9 = false := by
    unfold heldS
    rw [Bool.or_eq_false_iff]
    refine ⟨?_, by simp [hp]⟩
    rw [List.any_eq_false]
    intro s hs
    obtain ⟨j, hj, rfl⟩ := List.getElem_of_mem hs
    rw [← at_some hj, hat j (by omega)]
    split <;> simp [taken, slot0]
  unfold addS
  rw [if_neg (by simp [hc]), if_neg (by simp [hh])]
  by_cases c : (if g < k then g else k) < 64
  · have hf : (fullP g k).slots.findIdx? freeS = some (if g < k then g else k) := by
      refine findIdx_at (by omega) ?_ fun j hj hlt => ?_
      · rw [← at_some (by omega), hat _ c, if_neg (by split <;> omega)]; rfl
      · rw [← at_some hj, hat j (by omega), if_pos (by split at hlt <;> omega)]; rfl
    rw [hf, if_pos c]
  · have hf : (fullP g k).slots.findIdx? freeS = none := by
      refine findIdx_no fun j hj => ?_
      rw [← at_some hj, hat j (by omega), if_pos (by split at c <;> omega)]; rfl
    rw [hf, if_neg c]

theorem callD_add4 (p : Pool) (hp : p.slots.length = 64) (a b c : Int) (h : H) (k : V → H → Cls → Prop) (hk : ∀ u h', EntsF h.n h' u (addS p a b c).1 → Grow h h' → k (.tup [u, .i .i64 (addS p a b c).2]) h' (.ge h h')) : callD pu CL false 4 [p.v, .i .i64 a, .i .i64 b, .i .i64 c] h k :=
  callD_mkF (P := fun h w h' => ∃ u, w = .tup [u, .i .i64 (addS p a b c).2] ∧ EntsF h.n h' u (addS p a b c).1) (fun h => run_add4 p hp a b c h) (fun _ _ _ ⟨_, e, f⟩ => by subst e; exact f.r.nrt _) fun _ h' ⟨u, e, f⟩ g => by subst e; exact hk u h' f g

theorem law_full (n gap addr : Int) (h : H) : Runs CL 26 [.i .i64 n, .i .i64 gap, .i .i64 addr] h fun u _ => u = .b true := by
  refine run (fn := F26) rfl rfl ?_
  unfold F26
  simp only [call_known, ↓stepR, normR, Int.cast_ofNat_Int, Int.natCast_nonneg, Int.toNat_natCast, Nat.reduceMod, Nat.reduceDiv, Nat.reducePow, Nat.testBit_eq_decide_div_mod_eq, ↓reduceIte, Nat.reduceEqDiff, Nat.reduceAdd, Nat.reduceSub, Nat.reduceMul, Nat.reduceLT, Nat.reduceLeDiff, Int.reduceEq, Int.reduceLT, Int.reduceLE, Int.reduceAdd, Int.reduceSub, Int.reduceMul, Int.reduceNeg, Int.reduceToNat, reduceCtorEq, eq_self]
  refine call_make .nilsl [] 0 (by omega) h (.inl ⟨rfl, rfl⟩) _ (fun h1 g1 => ?_)
  have e0 : makeS [] 0 = fullP (gap % 70).toNat 0 := rfl
  rw [e0]
  have w5 := call_within3 n 5 (by decide) (by decide)
  have w70 := call_within3 gap 70 (by decide) (by decide)
  have w90 := dcall_within3 addr 90 (by decide) (by decide)
  obtain ⟨m, hm, hm5⟩ : ∃ m : Nat, n % 5 = m ∧ m < 5 := ⟨(n % 5).toNat, by omega, by omega⟩
  obtain ⟨q, hq, hq70⟩ : ∃ q : Nat, gap % 70 = q ∧ q < 70 := ⟨(gap % 70).toNat, by omega, by omega⟩
  have a0 : 0 ≤ addr % 90 := by omega
  have a1 : addr % 90 < 90 := by omega
  rw [hm] at w5
  rw [hq] at w70
  have hk : IntKind.i64.wrap (60 + (m : Int)) = ((60 + m : Nat) : Int) := by rw [w64 (by unfold r64; omega)]; rfl
  rw [hq, Int.toNat_natCast]
  generalize addr % 90 = a at *
  have hpo := H.get_pushset h1 (.cells (V.agg 15 [.i .i64 0, .i .i64 0, .i .i64 0, .agg 12 (List.replicate 64 (.agg 11 [.i .i64 0, .i .i64 0, .i .i64 0, .i .i64 0, .i .i64 0])), .agg 14 [.i .i64 0, .agg 13 [.i .u64 0, .i .u64 0], .agg 13 [.i .u64 0, .i .u64 0], .agg 13 [.i .u64 0, .i .u64 0]]]) false false) (.cells (fullP q 0).v false false)
  simp only [Slot.sh, Slot.nt, Key.sh, Key.nt, Ring.sh, Ring.nt, Pool.sh, Pool.nt, Entry.sh, Entry.nt, w5, w70, hk, ↓stepR, normR, Int.cast_ofNat_Int, Int.natCast_nonneg, Int.toNat_natCast, Nat.reduceMod, Nat.reduceDiv, Nat.reducePow, Nat.testBit_eq_decide_div_mod_eq, ↓reduceIte, Nat.reduceEqDiff, Nat.reduceAdd, Nat.reduceSub, Nat.reduceMul, Nat.reduceLT, Nat.reduceLeDiff, Int.reduceEq, Int.reduceLT, Int.reduceLE, Int.reduceAdd, Int.reduceSub, Int.reduceMul, Int.reduceNeg, Int.reduceToNat, reduceCtorEq, eq_self]
  generalize H.set _ h1.n _ = g at *
  refine W_up (60 + m) (fun i e hh => e = [(2, .i .i64 addr), (7, .ptr h1.n 0 [] 15), (8, .i .i64 (60 + m : Nat)), (9, .i .i64 q), (10, .i .i64 i)] ∧ hh.get h1.n = some (.cells (fullP q i).v false false)) ?_ 0 (by omega) _ _ ⟨rfl, hpo⟩
  rintro i e hh hi ⟨rfl, hg⟩
  have hh1 := H.has_of hg
  obtain ⟨f1, f2, f3, f4, f5⟩ := full_ok q i (by omega)
  by_cases c1 : i < 60 + m
  · have c1' : (i : Int) < ((60 + m : Nat) : Int) := by omega
    have hw := @wrap_up i (by omega)
    by_cases c2 : i = q
    · subst c2
      simp only [c1', hw, ↓stepR, normR, Int.cast_ofNat_Int, Int.natCast_nonneg, Int.toNat_natCast, Nat.reduceMod, Nat.reduceDiv, Nat.reducePow, Nat.testBit_eq_decide_div_mod_eq, ↓reduceIte, Nat.reduceEqDiff, Nat.reduceAdd, Nat.reduceSub, Nat.reduceMul, Nat.reduceLT, Nat.reduceLeDiff, Int.reduceEq, Int.reduceLT, Int.reduceLE, Int.reduceAdd, Int.reduceSub, Int.reduceMul, Int.reduceNeg, Int.reduceToNat, reduceCtorEq, eq_self]
      refine ⟨c1, ?_⟩
      first | exact ⟨rfl, by rw [fullP, if_pos rfl]; exact hg⟩ | (rw [fullP, if_pos rfl]; exact hg)
    · have c2' : ¬ (i : Int) = (q : Int) := by omega
      have hb : IntKind.i64.wrap (100 + (i : Int)) = 100 + (i : Int) := w64 (by unfold r64; omega)
      have hap := call_apply27 (fullP q i) f1 (bindE i)
      rw [f5 (by omega)] at hap
      simp only [bindE, Entry.v, Key.v, key0] at hap
      simp only [c1', c2', hw, hb, objK_of hg, hap, hh1, Slot.sh, Slot.nt, Key.sh, Key.nt, Ring.sh, Ring.nt, Pool.sh, Pool.nt, Entry.sh, Entry.nt, ↓stepR, normR, Int.cast_ofNat_Int, Int.natCast_nonneg, Int.toNat_natCast, Nat.reduceMod, Nat.reduceDiv, Nat.reducePow, Nat.testBit_eq_decide_div_mod_eq, ↓reduceIte, Nat.reduceEqDiff, Nat.reduceAdd, Nat.reduceSub, Nat.reduceMul, Nat.reduceLT, Nat.reduceLeDiff, Int.reduceEq, Int.reduceLT, Int.reduceLE, Int.reduceAdd, Int.reduceSub, Int.reduceMul, Int.reduceNeg, Int.reduceToNat, reduceCtorEq, eq_self]
      exact ⟨c1, by rw [fullP, if_neg c2]; rfl⟩
  · have c1' : ¬ (i : Int) < ((60 + m : Nat) : Int) := by omega
    obtain rfl : i = 60 + m := by omega
    by_cases c3 : q < 60 + m
    · have c3' : (q : Int) < ((60 + m : Nat) : Int) := by omega
      simp only [c1', c3', objK_of hg, w90, Slot.sh, Slot.nt, Key.sh, Key.nt, Ring.sh, Ring.nt, Pool.sh, Pool.nt, Entry.sh, Entry.nt, ↓stepR, normR, Int.cast_ofNat_Int, Int.natCast_nonneg, Int.toNat_natCast, Nat.reduceMod, Nat.reduceDiv, Nat.reducePow, Nat.testBit_eq_decide_div_mod_eq, ↓reduceIte, Nat.reduceEqDiff, Nat.reduceAdd, Nat.reduceSub, Nat.reduceMul, Nat.reduceLT, Nat.reduceLeDiff, Int.reduceEq, Int.reduceLT, Int.reduceLE, Int.reduceAdd, Int.reduceSub, Int.reduceMul, Int.reduceNeg, Int.reduceToNat, reduceCtorEq, eq_self]
      refine callD_add4 _ f1 _ _ _ _ _ (fun u h3 e3 g3 => ?_)
      rw [full_add q (60 + m) (by omega) a a0 a1, if_pos c3] at e3 ⊢
      have n3 := e3.r.nt
      have hp3 := g3.2 _ _ hg
      by_cases c4 : q < 64
      · rw [if_pos c4] at e3 ⊢
        obtain ⟨id, st, z, hi1, hb, hs⟩ := e3.r.obj (by simp)
        have i0 : ∀ k : V → Prop, iaLK 16 u 0 k = k (.ptr id st [0] 16) := fun k => hi1 0 k (by simp)
        have i1 : ∀ k : V → Prop, iaLK 16 u 1 k = k (.ptr id st [1] 16) := fun k => hi1 1 k (by simp)
        have c5 : ¬ (64 : Int) ≤ (q : Int) := by omega
        have l3' : ∀ k : V → Prop, lenLK u k = k (.i .i64 2) := fun k => e3.r.len k
        simp only [List.map_cons, List.map_nil, addE, openE, Entry.v] at hb hs
        simp only [n3, hp3, osame_self, true_or, Slot.sh, Slot.nt, Key.sh, Key.nt, Ring.sh, Ring.nt, Pool.sh, Pool.nt, Entry.sh, Entry.nt, c5, l3', i0, i1, objK_of hb, hs, ↓stepR, normR, Int.cast_ofNat_Int, Int.natCast_nonneg, Int.toNat_natCast, Nat.reduceMod, Nat.reduceDiv, Nat.reducePow, Nat.testBit_eq_decide_div_mod_eq, ↓reduceIte, Nat.reduceEqDiff, Nat.reduceAdd, Nat.reduceSub, Nat.reduceMul, Nat.reduceLT, Nat.reduceLeDiff, Int.reduceEq, Int.reduceLT, Int.reduceLE, Int.reduceAdd, Int.reduceSub, Int.reduceMul, Int.reduceNeg, Int.reduceToNat, reduceCtorEq, eq_self]
        done
      · rw [if_neg c4] at e3 ⊢
        have c5 : (64 : Int) ≤ (q : Int) := by omega
        have l3' : ∀ k : V → Prop, lenLK u k = k (.i .i64 0) := fun k => e3.r.len k
        simp only [n3, hp3, osame_self, true_or, Slot.sh, Slot.nt, Key.sh, Key.nt, Ring.sh, Ring.nt, Pool.sh, Pool.nt, Entry.sh, Entry.nt, c5, l3', ↓stepR, normR, Int.cast_ofNat_Int, Int.natCast_nonneg, Int.toNat_natCast, Nat.reduceMod, Nat.reduceDiv, Nat.reducePow, Nat.testBit_eq_decide_div_mod_eq, ↓reduceIte, Nat.reduceEqDiff, Nat.reduceAdd, Nat.reduceSub, Nat.reduceMul, Nat.reduceLT, Nat.reduceLeDiff, Int.reduceEq, Int.reduceLT, Int.reduceLE, Int.reduceAdd, Int.reduceSub, Int.reduceMul, Int.reduceNeg, Int.reduceToNat, reduceCtorEq, eq_self]
        done
    · have c3' : ¬ (q : Int) < ((60 + m : Nat) : Int) := by omega
      simp only [c1', c3', objK_of hg, w90, Slot.sh, Slot.nt, Key.sh, Key.nt, Ring.sh, Ring.nt, Pool.sh, Pool.nt, Entry.sh, Entry.nt, ↓stepR, normR, Int.cast_ofNat_Int, Int.natCast_nonneg, Int.toNat_natCast, Nat.reduceMod, Nat.reduceDiv, Nat.reducePow, Nat.testBit_eq_decide_div_mod_eq, ↓reduceIte, Nat.reduceEqDiff, Nat.reduceAdd, Nat.reduceSub, Nat.reduceMul, Nat.reduceLT, Nat.reduceLeDiff, Int.reduceEq, Int.reduceLT, Int.reduceLE, Int.reduceAdd, Int.reduceSub, Int.reduceMul, Int.reduceNeg, Int.reduceToNat, reduceCtorEq, eq_self]
      refine callD_add4 _ f1 _ _ _ _ _ (fun u h3 e3 g3 => ?_)
      rw [full_add q (60 + m) (by omega) a a0 a1, if_neg c3] at e3 ⊢
      have n3 := e3.r.nt
      have hp3 := g3.2 _ _ hg
      by_cases c4 : 60 + m < 64
      · rw [if_pos c4] at e3 ⊢
        obtain ⟨id, st, z, hi1, hb, hs⟩ := e3.r.obj (by simp)
        have i0 : ∀ k : V → Prop, iaLK 16 u 0 k = k (.ptr id st [0] 16) := fun k => hi1 0 k (by simp)
        have i1 : ∀ k : V → Prop, iaLK 16 u 1 k = k (.ptr id st [1] 16) := fun k => hi1 1 k (by simp)
        have c5 : ¬ (64 : Int) ≤ ((60 + m : Nat) : Int) := by omega
        have l3' : ∀ k : V → Prop, lenLK u k = k (.i .i64 2) := fun k => e3.r.len k
        simp only [List.map_cons, List.map_nil, addE, openE, Entry.v] at hb hs
        simp only [n3, hp3, osame_self, true_or, Slot.sh, Slot.nt, Key.sh, Key.nt, Ring.sh, Ring.nt, Pool.sh, Pool.nt, Entry.sh, Entry.nt, c5, l3', i0, i1, objK_of hb, hs, ↓stepR, normR, Int.cast_ofNat_Int, Int.natCast_nonneg, Int.toNat_natCast, Nat.reduceMod, Nat.reduceDiv, Nat.reducePow, Nat.testBit_eq_decide_div_mod_eq, ↓reduceIte, Nat.reduceEqDiff, Nat.reduceAdd, Nat.reduceSub, Nat.reduceMul, Nat.reduceLT, Nat.reduceLeDiff, Int.reduceEq, Int.reduceLT, Int.reduceLE, Int.reduceAdd, Int.reduceSub, Int.reduceMul, Int.reduceNeg, Int.reduceToNat, reduceCtorEq, eq_self]
        done
      · rw [if_neg c4] at e3 ⊢
        have c5 : (64 : Int) ≤ ((60 + m : Nat) : Int) := by omega
        have l3' : ∀ k : V → Prop, lenLK u k = k (.i .i64 0) := fun k => e3.r.len k
        simp only [n3, hp3, osame_self, true_or, Slot.sh, Slot.nt, Key.sh, Key.nt, Ring.sh, Ring.nt, Pool.sh, Pool.nt, Entry.sh, Entry.nt, c5, l3', ↓stepR, normR, Int.cast_ofNat_Int, Int.natCast_nonneg, Int.toNat_natCast, Nat.reduceMod, Nat.reduceDiv, Nat.reducePow, Nat.testBit_eq_decide_div_mod_eq, ↓reduceIte, Nat.reduceEqDiff, Nat.reduceAdd, Nat.reduceSub, Nat.reduceMul, Nat.reduceLT, Nat.reduceLeDiff, Int.reduceEq, Int.reduceLT, Int.reduceLE, Int.reduceAdd, Int.reduceSub, Int.reduceMul, Int.reduceNeg, Int.reduceToNat, reduceCtorEq, eq_self]
        done
end Go.Rae.Order
