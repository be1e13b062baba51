/- OrderNone: of what is no slot, no verdict, nothing becomes. -/
import Derived.Test.YtannfoaobeoafaaDoorOrdKnown
import Derived.Test.YtannfoaobeoafaaDoorOrdRot
set_option linter.unusedVariables false
set_option linter.unusedSimpArgs false
namespace Go.Rae.Order
set_option maxRecDepth 100000

theorem makeS_slots (ns : List Int) (most : Nat) : (makeS ns most).slots.length = 64 := makeS_len ns most

theorem call_mark12 (p : Pool) (hp : p.slots.length = 64) (slot v : Int) (h : H) (k : V → H → Prop) (hk : ∀ w h', EntsR h' w (markS p slot v) → Grow h h' → k w h') : callK pu CL 12 [p.v, .i .i64 slot, .i .i64 v] h k :=
  callK_mk (fun h => run_mark12 p hp slot v h) (fun _ _ a => a.nr) hk

theorem H.get_pushset (h : H) (a b : Obj) : ((h.push a).set h.n b).get h.n = some b := by rw [H.get_set2 _ _ _ _ (by rw [H.has_push]; exact .inl rfl), if_pos rfl]

theorem law_none (v : V) (ns : List Int) (slot w : Int) (h : H) (hv : IntsAt h v ns) (hs : IntKind.i64.wrap slot = slot) (hw : IntKind.i64.wrap w = w) : Runs CL 31 [v, .i .i64 slot, .i .i64 w] h fun u _ => u = .b true := by
  have hlen := makeS_slots ns 60
  refine run (fn := F31) rfl rfl ?_
  unfold F31
  have hnt : v.isTup = false := by rcases hv with ⟨rfl, _⟩ | ⟨_, rfl, _⟩ <;> rfl
  simp only [call_known, hnt, ↓stepR, normR, Int.cast_ofNat_Int, Int.natCast_nonneg, Int.toNat_natCast, Nat.reduceMod, Nat.reduceDiv, Nat.reducePow, Nat.testBit_eq_decide_div_mod_eq, ↓reduceIte, Nat.reduceEqDiff, Nat.reduceAdd, Nat.reduceSub, Nat.reduceMul, Nat.reduceLT, Nat.reduceLeDiff, Int.reduceEq, Int.reduceLT, Int.reduceLE, Int.reduceAdd, Int.reduceSub, Int.reduceMul, Int.reduceNeg, Int.reduceToNat, reduceCtorEq, eq_self]
  refine call_make v ns 60 (by omega) h hv _ (fun h1 g1 => ?_)
  have hpo : (h1.push (.cells (makeS ns 60).v false false)).get h1.n = some (.cells (makeS ns 60).v false false) := by rw [H.get_push', if_pos rfl]
  obtain ⟨s', x, A1, A2, ex, a1, a2, es, hs1⟩ : ∃ s' x A1 A2, slot = x ∧ (0 ≤ x) = A1 ∧ (x < 64) = A2 ∧ ((A1 = True ∧ A2 = True ∧ IntKind.i64.wrap (x + 64) = s') ∨ ((A1 = False ∨ (A1 = True ∧ A2 = False)) ∧ s' = x)) ∧ (s' < 0 ∨ 64 ≤ s') := by
    by_cases c : 0 ≤ slot
    · by_cases d : slot < 64
      · exact ⟨slot + 64, slot, _, _, rfl, rfl, rfl, .inl ⟨eq_true c, eq_true d, w64 (by unfold r64; omega)⟩, by omega⟩
      · exact ⟨slot, slot, _, _, rfl, rfl, rfl, .inr ⟨.inr ⟨eq_true c, eq_false d⟩, rfl⟩, by omega⟩
    · exact ⟨slot, slot, _, _, rfl, rfl, rfl, .inr ⟨.inl (eq_false c), rfl⟩, by omega⟩
  subst ex
  obtain ⟨w', y, B1, B2, ey, b1, b2, ew, hw1, hw2⟩ : ∃ w' y B1 B2, w = y ∧ (y = 1) = B1 ∧ (y = 2) = B2 ∧ (((B1 = True ∨ (B1 = False ∧ B2 = True)) ∧ IntKind.i64.wrap (y + 2) = w') ∨ (B1 = False ∧ B2 = False ∧ w' = y)) ∧ w' ≠ 1 ∧ w' ≠ 2 := by
    by_cases c : w = 1
    · exact ⟨w + 2, w, _, _, rfl, rfl, rfl, .inl ⟨.inl (eq_true c), w64 (by unfold r64; omega)⟩, by omega, by omega⟩
    · by_cases d : w = 2
      · exact ⟨w + 2, w, _, _, rfl, rfl, rfl, .inl ⟨.inr ⟨eq_false c, eq_true d⟩, w64 (by unfold r64; omega)⟩, by omega, by omega⟩
      · exact ⟨w, w, _, _, rfl, rfl, rfl, .inr ⟨eq_false c, eq_false d, rfl⟩, by omega, by omega⟩
  subst ey
  have mk1 : markS (makeS ns 60) s' 1 = [] := by unfold markS; rw [if_pos hs1]
  have mk2 : markS (makeS ns 60) s' 2 = [] := by unfold markS; rw [if_pos hs1]
  have mkw : ∀ i : Nat, markS (makeS ns 60) i w' = [] := fun i => by unfold markS; split; rfl; rw [if_neg (fun h => hw1 h.1), if_neg (fun h => hw2 h.1)]
  clear hs hw hpo
  have loop : ∀ (i : Nat) (hh : H), hh.get h1.n = some (.cells (makeS ns 60).v false false) → True := fun _ _ _ => trivial
  rcases es with ⟨rfl, rfl, es⟩ | ⟨rfl | ⟨rfl, rfl⟩, es'⟩
  all_goals rcases ew with ⟨rfl | ⟨rfl, rfl⟩, ew⟩ | ⟨rfl, rfl, ew'⟩
  all_goals first | (subst es'; have es := trivial) | skip
  all_goals first | (subst ew'; have ew := trivial) | skip
  all_goals simp only [a1, a2, b1, b2, es, ew, Slot.sh, Slot.nt, Key.sh, Key.nt, Ring.sh, Ring.nt, Pool.sh, Pool.nt, Entry.sh, Entry.nt, ↓stepR, normR, Int.cast_ofNat_Int, Int.natCast_nonneg, Int.toNat_natCast, Nat.reduceMod, Nat.reduceDiv, Nat.reducePow, Nat.testBit_eq_decide_div_mod_eq, ↓reduceIte, Nat.reduceEqDiff, Nat.reduceAdd, Nat.reduceSub, Nat.reduceMul, Nat.reduceLT, Nat.reduceLeDiff, Int.reduceEq, Int.reduceLT, Int.reduceLE, Int.reduceAdd, Int.reduceSub, Int.reduceMul, Int.reduceNeg, Int.reduceToNat, reduceCtorEq, eq_self]
  all_goals
    refine W_up 64 (fun i e hh => e = [(7, .ptr h1.n 0 [] 15), (8, .i .i64 s'), (9, .i .i64 w'), (10, .i .i64 i)] ∧ hh.get h1.n = some (.cells (makeS ns 60).v false false)) ?_ 0 (by omega) _ _ ?_
  all_goals first | exact ⟨rfl, H.get_pushset _ _ _⟩ | skip
  all_goals
    rintro i e hh hi ⟨rfl, hg⟩
    by_cases c1 : (i : Int) < 64
    · have hw := @wrap_up i (by omega)
      simp only [c1, objK_of hg, Slot.sh, Slot.nt, Key.sh, Key.nt, Ring.sh, Ring.nt, Pool.sh, Pool.nt, Entry.sh, Entry.nt, ↓stepR, normR, Int.cast_ofNat_Int, Int.natCast_nonneg, Int.toNat_natCast, Nat.reduceMod, Nat.reduceDiv, Nat.reducePow, Nat.testBit_eq_decide_div_mod_eq, ↓reduceIte, Nat.reduceEqDiff, Nat.reduceAdd, Nat.reduceSub, Nat.reduceMul, Nat.reduceLT, Nat.reduceLeDiff, Int.reduceEq, Int.reduceLT, Int.reduceLE, Int.reduceAdd, Int.reduceSub, Int.reduceMul, Int.reduceNeg, Int.reduceToNat, reduceCtorEq, eq_self]
      refine call_mark12 _ hlen _ _ _ _ (fun u h2 hu g2 => ?_)
      rw [mkw] at hu
      have hnt := hu.nt
      simp only [hnt, hu.len, hw, List.length_nil, ↓stepR, normR, Int.cast_ofNat_Int, Int.natCast_nonneg, Int.toNat_natCast, Nat.reduceMod, Nat.reduceDiv, Nat.reducePow, Nat.testBit_eq_decide_div_mod_eq, ↓reduceIte, Nat.reduceEqDiff, Nat.reduceAdd, Nat.reduceSub, Nat.reduceMul, Nat.reduceLT, Nat.reduceLeDiff, Int.reduceEq, Int.reduceLT, Int.reduceLE, Int.reduceAdd, Int.reduceSub, Int.reduceMul, Int.reduceNeg, Int.reduceToNat, reduceCtorEq, eq_self]
      refine ⟨by omega, ?_⟩
      first | exact ⟨rfl, g2.2 _ _ hg⟩ | exact g2.2 _ _ hg
    · simp only [c1, objK_of hg, Slot.sh, Slot.nt, Key.sh, Key.nt, Ring.sh, Ring.nt, Pool.sh, Pool.nt, Entry.sh, Entry.nt, ↓stepR, normR, Int.cast_ofNat_Int, Int.natCast_nonneg, Int.toNat_natCast, Nat.reduceMod, Nat.reduceDiv, Nat.reducePow, Nat.testBit_eq_decide_div_mod_eq, ↓reduceIte, Nat.reduceEqDiff, Nat.reduceAdd, Nat.reduceSub, Nat.reduceMul, Nat.reduceLT, Nat.reduceLeDiff, Int.reduceEq, Int.reduceLT, Int.reduceLE, Int.reduceAdd, Int.reduceSub, Int.reduceMul, Int.reduceNeg, Int.reduceToNat, reduceCtorEq, eq_self]
      refine call_mark12 _ hlen _ _ _ _ (fun u h2 hu g2 => ?_)
      rw [mk1] at hu
      have hnt := hu.nt
      have hg2 := g2.2 _ _ hg
      simp only [hnt, hu.len, objK_of hg2, Slot.sh, Slot.nt, Key.sh, Key.nt, Ring.sh, Ring.nt, Pool.sh, Pool.nt, Entry.sh, Entry.nt, List.length_nil, ↓stepR, normR, Int.cast_ofNat_Int, Int.natCast_nonneg, Int.toNat_natCast, Nat.reduceMod, Nat.reduceDiv, Nat.reducePow, Nat.testBit_eq_decide_div_mod_eq, ↓reduceIte, Nat.reduceEqDiff, Nat.reduceAdd, Nat.reduceSub, Nat.reduceMul, Nat.reduceLT, Nat.reduceLeDiff, Int.reduceEq, Int.reduceLT, Int.reduceLE, Int.reduceAdd, Int.reduceSub, Int.reduceMul, Int.reduceNeg, Int.reduceToNat, reduceCtorEq, eq_self]
      refine call_mark12 _ hlen _ _ _ _ (fun u h3 hu g3 => ?_)
      rw [mk2] at hu
      have hnt := hu.nt
      simp only [hnt, hu.len, List.length_nil, ↓stepR, normR, Int.cast_ofNat_Int, Int.natCast_nonneg, Int.toNat_natCast, Nat.reduceMod, Nat.reduceDiv, Nat.reducePow, Nat.testBit_eq_decide_div_mod_eq, ↓reduceIte, Nat.reduceEqDiff, Nat.reduceAdd, Nat.reduceSub, Nat.reduceMul, Nat.reduceLT, Nat.reduceLeDiff, Int.reduceEq, Int.reduceLT, Int.reduceLE, Int.reduceAdd, Int.reduceSub, Int.reduceMul, Int.reduceNeg, Int.reduceToNat, reduceCtorEq, eq_self]
end Go.Rae.Order
