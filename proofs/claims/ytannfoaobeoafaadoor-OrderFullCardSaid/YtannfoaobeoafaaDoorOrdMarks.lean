/- OrderMarks: what a verdict becomes may be done. -/
import Derived.Test.YtannfoaobeoafaaDoorOrdAll
set_option linter.unusedVariables false
set_option linter.unusedSimpArgs false
namespace Go.Rae.Order
set_option maxRecDepth 100000

theorem osame_self (v : V) (g r : Bool) : osame (some (.cells v g r)) (some (.cells v g r)) = true := by
  have := @osame_cells (H.empty.push (.cells v g r)) (H.empty.push (.cells v g r)) 0 v g r rfl rfl
  exact this

theorem EntsR.nr2 {h : H} {v : V} {es : List Entry} (a : EntsR h v es) (x : V) : noRefs pu [x, v] = false := by
  rcases a with ⟨rfl, _⟩ | ⟨id, st, cap, q, rfl, _⟩ <;> (unfold noRefs; rw [Bool.and_eq_false_iff]; exact .inr rfl)
theorem callD_all15 (p : Pool) (hp : p.slots.length = 64) (v : V) (es : List Entry) (hes : es.length < 1000000) (h : H) (hu : EntsR h v es) (k : V → H → Cls → Prop)
    (hk : ∀ h', Grow h h' → k (.tup [(allS p es 0).1.v, .i .i64 (allS p es 0).2.1, .i .i64 (allS p es 0).2.2]) h' (.ge h h')) : callD pu CL false 15 [p.v, v] h k := by
  rw [callD_refs h k (hu.nr2 _)]
  exact (run_all15 p hp v es hes h hu).mono fun w h' ⟨a, b⟩ => by subst a; exact hk h' b
theorem callD_mark12 (p : Pool) (hp : p.slots.length = 64) (slot v : Int) (h : H) (k : V → H → Cls → Prop) (hk : ∀ w h', EntsR h' w (markS p slot v) → Grow h h' → k w h' (.ge h h')) : callD pu CL false 12 [p.v, .i .i64 slot, .i .i64 v] h k :=
  callD_mk (fun h => run_mark12 p hp slot v h) (fun _ _ a => a.nr) hk

theorem markS_len (p : Pool) (s v : Int) : (markS p s v).length ≤ 1 := by
  unfold markS; split
  · simp
  · split
    · simp
    · split <;> simp

theorem all_mark (p : Pool) (hp : p.slots.length = 64) (s : Int) (h0 : 0 ≤ s) (h1 : s < 64) (v : Int) (hv : v = 1 ∨ v = 2) :
    (allS p (markS p s v) 0).2.2 = 0 ∧ (allS p (markS p s v) 0).2.1 < 2 ∧ (allS p (markS p s v) 0).1.slots.length = 64 ∧
    ((allS p (markS p s v) 0).1.at s).state = (if v = 1 then (if (p.at s).state = 1 ∨ (p.at s).state = 3 then 2 else (p.at s).state) else (if (p.at s).state = 2 then 3 else (p.at s).state)) := by
  have hin : s.toNat < p.slots.length := by omega
  have key : ∀ e : Entry, applyE p e = 0 → (allS p [e] 0).2.2 = 0 ∧ (allS p [e] 0).2.1 < 2 ∧ (allS p [e] 0).1 = applyS p e := by
    intro e he
    rw [allS, if_pos he, allS]; exact ⟨rfl, by simp, rfl⟩
  have go : ∀ e : Entry, e.slot = s → applyE p e = 0 → ((applyS p e).slots.length = 64) ∧ (applyS p e).at s = slotS p e := by
    intro e hs he
    refine ⟨applyS_len p _ hp, ?_⟩
    simp only [applyS, if_pos he, doS, Pool.at, hs, List.getD, List.getElem?_set_self hin, Option.getD_some]
  have nz : ¬ (s < 0 ∨ 64 ≤ s) := by omega
  rcases hv with rfl | rfl
  · by_cases c : (p.at s).state = 1 ∨ (p.at s).state = 3
    · have e0 : markS p s 1 = [⟨2, s, 0, 0, 0, key0⟩] := by unfold markS; rw [if_neg nz, if_pos ⟨rfl, c⟩]
      have he : applyE p ⟨2, s, 0, 0, 0, key0⟩ = 0 := by
        have e1 : checkS ⟨2, s, 0, 0, 0, key0⟩ = 0 := by
          unfold checkS; simp only; rw [if_neg (by omega), if_neg (by omega), if_neg (by omega), if_neg (by simp)]
        have e2 : badS p ⟨2, s, 0, 0, 0, key0⟩ = false := by
          simp [badS]; rcases c with c | c <;> simp [c]
        have e3 : ¬ soonS p ⟨2, s, 0, 0, 0, key0⟩ := fun h => absurd h.1 (by decide : ¬ ((2 : Int) = 5))
        unfold applyE; simp only [e1, e2, if_neg e3, ne_eq, not_true_eq_false, if_false, Bool.false_eq_true]
      obtain ⟨k1, k2, k3⟩ := key _ he
      obtain ⟨g1, g2⟩ := go _ rfl he
      rw [e0, k3]
      exact ⟨k1, k2, g1, by rw [g2]; simp [slotS, c]⟩
    · have e0 : markS p s 1 = [] := by unfold markS; rw [if_neg nz, if_neg (fun h => c h.2), if_neg (fun h => absurd h.1 (by decide))]
      rw [e0]; simp [allS, hp, c]
  · by_cases c : (p.at s).state = 2
    · have e0 : markS p s 2 = [⟨3, s, 0, 0, 0, key0⟩] := by unfold markS; rw [if_neg nz, if_neg (fun h => absurd h.1 (by decide)), if_pos ⟨rfl, c⟩]
      have he : applyE p ⟨3, s, 0, 0, 0, key0⟩ = 0 := by
        have e1 : checkS ⟨3, s, 0, 0, 0, key0⟩ = 0 := by
          unfold checkS; simp only; rw [if_neg (by omega), if_neg (by omega), if_neg (by omega), if_neg (by simp)]
        have e2 : badS p ⟨3, s, 0, 0, 0, key0⟩ = false := by
          simp [badS, c]
        have e3 : ¬ soonS p ⟨3, s, 0, 0, 0, key0⟩ := fun h => absurd h.1 (by decide : ¬ ((3 : Int) = 5))
        unfold applyE; simp only [e1, e2, if_neg e3, ne_eq, not_true_eq_false, if_false, Bool.false_eq_true]
      obtain ⟨k1, k2, k3⟩ := key _ he
      obtain ⟨g1, g2⟩ := go _ rfl he
      rw [e0, k3]
      exact ⟨k1, k2, g1, by rw [g2]; simp [slotS, c]⟩
    · have e0 : markS p s 2 = [] := by unfold markS; rw [if_neg nz, if_neg (fun h => absurd h.1 (by decide)), if_neg (fun h => c h.2)]
      rw [e0]; simp [allS, hp, c]

theorem law_marks (v : V) (ns : List Int) (slot : Int) (h : H) (hv : IntsAt h v ns) : Runs CL 17 [v, .i .i64 slot] h fun u _ => u = .b true := by
  have hlen := makeS_slots ns 60
  refine run (fn := F17) rfl rfl ?_
  unfold F17
  have hnt : v.isTup = false := by rcases hv with ⟨rfl, _⟩ | ⟨_, rfl, _⟩ <;> rfl
  simp only [call_known, hnt, ↓stepR, normR, Int.cast_ofNat_Int, Int.natCast_nonneg, Int.toNat_natCast, Nat.reduceMod, Nat.reduceDiv, Nat.reducePow, Nat.testBit_eq_decide_div_mod_eq, ↓reduceIte, Nat.reduceEqDiff, Nat.reduceAdd, Nat.reduceSub, Nat.reduceMul, Nat.reduceLT, Nat.reduceLeDiff, Int.reduceEq, Int.reduceLT, Int.reduceLE, Int.reduceAdd, Int.reduceSub, Int.reduceMul, Int.reduceNeg, Int.reduceToNat, reduceCtorEq, eq_self]
  refine call_make v ns 60 (by omega) h hv _ (fun h1 g1 => ?_)
  generalize hp : makeS ns 60 = p at *
  have hs0 : 0 ≤ slot % 6 := by omega
  have hs1 : slot % 6 < 64 := by omega
  simp only [Slot.sh, Slot.nt, Key.sh, Key.nt, Ring.sh, Ring.nt, Pool.sh, Pool.nt, Entry.sh, Entry.nt, call_within3 slot 6 (by decide) (by decide), ↓stepR, normR, Int.cast_ofNat_Int, Int.natCast_nonneg, Int.toNat_natCast, Nat.reduceMod, Nat.reduceDiv, Nat.reducePow, Nat.testBit_eq_decide_div_mod_eq, ↓reduceIte, Nat.reduceEqDiff, Nat.reduceAdd, Nat.reduceSub, Nat.reduceMul, Nat.reduceLT, Nat.reduceLeDiff, Int.reduceEq, Int.reduceLT, Int.reduceLE, Int.reduceAdd, Int.reduceSub, Int.reduceMul, Int.reduceNeg, Int.reduceToNat, reduceCtorEq, eq_self]
  generalize hs : slot % 6 = s at *
  refine callD_mark12 p hlen s 1 _ _ (fun w h2 hu g2 => ?_)
  have hp2 := g2.2 _ _ (H.get_pushset h1 _ _)
  have hut := hu.nt
  have l1 := markS_len p s 1
  simp only [hut, hp2, osame_self, true_or, Slot.sh, Slot.nt, Key.sh, Key.nt, Ring.sh, Ring.nt, Pool.sh, Pool.nt, Entry.sh, Entry.nt, ↓stepR, normR, Int.cast_ofNat_Int, Int.natCast_nonneg, Int.toNat_natCast, Nat.reduceMod, Nat.reduceDiv, Nat.reducePow, Nat.testBit_eq_decide_div_mod_eq, ↓reduceIte, Nat.reduceEqDiff, Nat.reduceAdd, Nat.reduceSub, Nat.reduceMul, Nat.reduceLT, Nat.reduceLeDiff, Int.reduceEq, Int.reduceLT, Int.reduceLE, Int.reduceAdd, Int.reduceSub, Int.reduceMul, Int.reduceNeg, Int.reduceToNat, reduceCtorEq, eq_self]
  obtain ⟨A1, A2, A3, A4⟩ := all_mark p hlen s hs0 hs1 1 (.inl rfl)
  refine callD_all15 p hlen w _ (by omega) _ hu _ (fun h3 g3 => ?_)
  generalize allS p (markS p s 1) 0 = qa at *
  obtain ⟨qa, na, ea⟩ := qa
  simp only at A1 A2 A3 A4
  have hp3 := g3.2 _ _ hp2
  have n3 := H.lt_of hp3
  have n31 : ¬ h1.n = h3.n := by omega
  simp only [hut, hp3, objK_of hp3, osame_self, true_or, n31, zpool1, zpool2, Bool.and_true, Slot.sh, Slot.nt, Key.sh, Key.nt, Ring.sh, Ring.nt, Pool.sh, Pool.nt, Entry.sh, Entry.nt, ↓stepR, normR, Int.cast_ofNat_Int, Int.natCast_nonneg, Int.toNat_natCast, Nat.reduceMod, Nat.reduceDiv, Nat.reducePow, Nat.testBit_eq_decide_div_mod_eq, ↓reduceIte, Nat.reduceEqDiff, Nat.reduceAdd, Nat.reduceSub, Nat.reduceMul, Nat.reduceLT, Nat.reduceLeDiff, Int.reduceEq, Int.reduceLT, Int.reduceLE, Int.reduceAdd, Int.reduceSub, Int.reduceMul, Int.reduceNeg, Int.reduceToNat, reduceCtorEq, eq_self]
  refine callD_mark12 p hlen s 2 _ _ (fun w h4 hu g4 => ?_)
  have hp4 := g4.2 h1.n _ (show _ = some (Obj.cells p.v false false) by simp only [n31, ↓stepR, normR, Int.cast_ofNat_Int, Int.natCast_nonneg, Int.toNat_natCast, Nat.reduceMod, Nat.reduceDiv, Nat.reducePow, Nat.testBit_eq_decide_div_mod_eq, ↓reduceIte, Nat.reduceEqDiff, Nat.reduceAdd, Nat.reduceSub, Nat.reduceMul, Nat.reduceLT, Nat.reduceLeDiff, Int.reduceEq, Int.reduceLT, Int.reduceLE, Int.reduceAdd, Int.reduceSub, Int.reduceMul, Int.reduceNeg, Int.reduceToNat, reduceCtorEq, eq_self]; exact hp3)
  have hq4 := g4.2 _ _ (H.get_pushset h3 _ _)
  have hut := hu.nt
  have l2 := markS_len p s 2
  simp only [hut, hp4, hp3, n31, osame_self, true_or, Slot.sh, Slot.nt, Key.sh, Key.nt, Ring.sh, Ring.nt, Pool.sh, Pool.nt, Entry.sh, Entry.nt, ↓stepR, normR, Int.cast_ofNat_Int, Int.natCast_nonneg, Int.toNat_natCast, Nat.reduceMod, Nat.reduceDiv, Nat.reducePow, Nat.testBit_eq_decide_div_mod_eq, ↓reduceIte, Nat.reduceEqDiff, Nat.reduceAdd, Nat.reduceSub, Nat.reduceMul, Nat.reduceLT, Nat.reduceLeDiff, Int.reduceEq, Int.reduceLT, Int.reduceLE, Int.reduceAdd, Int.reduceSub, Int.reduceMul, Int.reduceNeg, Int.reduceToNat, reduceCtorEq, eq_self]
  obtain ⟨B1, B2, B3, B4⟩ := all_mark p hlen s hs0 hs1 2 (.inr rfl)
  refine callD_all15 p hlen w _ (by omega) _ hu _ (fun h5 g5 => ?_)
  generalize allS p (markS p s 2) 0 = qb at *
  obtain ⟨qb, nb, eb⟩ := qb
  simp only at B1 B2 B3 B4
  have hp5 := g5.2 _ _ hp4
  have hq5 := g5.2 _ _ hq4
  have n5 := H.lt_of hq5
  have n51 : ¬ h3.n = h5.n := by omega
  have n52 : ¬ h1.n = h5.n := by omega
  simp only [hut, hp5, hq5, objK_of hp5, objK_of hq5, osame_self, true_or, n51, n52, zpool1, zpool2, Bool.and_true, Slot.sh, Slot.nt, Key.sh, Key.nt, Ring.sh, Ring.nt, Pool.sh, Pool.nt, Entry.sh, Entry.nt, ↓stepR, normR, Int.cast_ofNat_Int, Int.natCast_nonneg, Int.toNat_natCast, Nat.reduceMod, Nat.reduceDiv, Nat.reducePow, Nat.testBit_eq_decide_div_mod_eq, ↓reduceIte, Nat.reduceEqDiff, Nat.reduceAdd, Nat.reduceSub, Nat.reduceMul, Nat.reduceLT, Nat.reduceLeDiff, Int.reduceEq, Int.reduceLT, Int.reduceLE, Int.reduceAdd, Int.reduceSub, Int.reduceMul, Int.reduceNeg, Int.reduceToNat, reduceCtorEq, eq_self]
  have hatp := nthK_at hlen hs0 hs1
  have hata := nthK_at A3 hs0 hs1
  have hatb := nthK_at B3 hs0 hs1
  have mk0 : markS p s 0 = [] := by unfold markS; rw [if_neg (by omega), if_neg (fun h => absurd h.1 (by decide)), if_neg (fun h => absurd h.1 (by decide))]
  have na2 : (na : Int) < 2 := by omega
  have nb2 : (nb : Int) < 2 := by omega
  subst A1; subst B1
  have fin : ∀ (k : V → H → Prop) (hh : H), (∀ w h', w.isTup = false → (∀ k : V → Prop, lenLK w k = k (.i .i64 0)) → k w h') → callK pu CL 12 [p.v, .i .i64 s, .i .i64 0] hh k := fun k hh hk =>
    call_mark12 p hlen s 0 hh k fun w h' hu _ => by rw [mk0] at hu; exact hk w h' hu.nt hu.len
  by_cases c1 : (p.at s).state = 1
  · have A5 : (qa.at s).state = 2 := by simpa [c1] using A4
    have B5 : (qb.at s).state = 1 := by simpa [c1] using B4
    simp only [hs0, hs1, hp5, hq5, objK_of hp5, objK_of hq5, n51, n52, hatp, hata, hatb, Pool.v, Slot.v, c1, A5, B5, na2, nb2, Slot.sh, Slot.nt, Key.sh, Key.nt, Ring.sh, Ring.nt, Pool.sh, Pool.nt, Entry.sh, Entry.nt, ↓stepR, normR, Int.cast_ofNat_Int, Int.natCast_nonneg, Int.toNat_natCast, Nat.reduceMod, Nat.reduceDiv, Nat.reducePow, Nat.testBit_eq_decide_div_mod_eq, ↓reduceIte, Nat.reduceEqDiff, Nat.reduceAdd, Nat.reduceSub, Nat.reduceMul, Nat.reduceLT, Nat.reduceLeDiff, Int.reduceEq, Int.reduceLT, Int.reduceLE, Int.reduceAdd, Int.reduceSub, Int.reduceMul, Int.reduceNeg, Int.reduceToNat, reduceCtorEq, eq_self]
    refine fin _ _ (fun w h' ht hl => ?_)
    simp only [ht, hl, ↓stepR, normR, Int.cast_ofNat_Int, Int.natCast_nonneg, Int.toNat_natCast, Nat.reduceMod, Nat.reduceDiv, Nat.reducePow, Nat.testBit_eq_decide_div_mod_eq, ↓reduceIte, Nat.reduceEqDiff, Nat.reduceAdd, Nat.reduceSub, Nat.reduceMul, Nat.reduceLT, Nat.reduceLeDiff, Int.reduceEq, Int.reduceLT, Int.reduceLE, Int.reduceAdd, Int.reduceSub, Int.reduceMul, Int.reduceNeg, Int.reduceToNat, reduceCtorEq, eq_self]
  by_cases c3 : (p.at s).state = 3
  · have A5 : (qa.at s).state = 2 := by simpa [c3] using A4
    have B5 : (qb.at s).state = 3 := by simpa [c3] using B4
    simp only [hs0, hs1, hp5, hq5, objK_of hp5, objK_of hq5, n51, n52, hatp, hata, hatb, Pool.v, Slot.v, c3, A5, B5, na2, nb2, Slot.sh, Slot.nt, Key.sh, Key.nt, Ring.sh, Ring.nt, Pool.sh, Pool.nt, Entry.sh, Entry.nt, ↓stepR, normR, Int.cast_ofNat_Int, Int.natCast_nonneg, Int.toNat_natCast, Nat.reduceMod, Nat.reduceDiv, Nat.reducePow, Nat.testBit_eq_decide_div_mod_eq, ↓reduceIte, Nat.reduceEqDiff, Nat.reduceAdd, Nat.reduceSub, Nat.reduceMul, Nat.reduceLT, Nat.reduceLeDiff, Int.reduceEq, Int.reduceLT, Int.reduceLE, Int.reduceAdd, Int.reduceSub, Int.reduceMul, Int.reduceNeg, Int.reduceToNat, reduceCtorEq, eq_self]
    refine fin _ _ (fun w h' ht hl => ?_)
    simp only [ht, hl, ↓stepR, normR, Int.cast_ofNat_Int, Int.natCast_nonneg, Int.toNat_natCast, Nat.reduceMod, Nat.reduceDiv, Nat.reducePow, Nat.testBit_eq_decide_div_mod_eq, ↓reduceIte, Nat.reduceEqDiff, Nat.reduceAdd, Nat.reduceSub, Nat.reduceMul, Nat.reduceLT, Nat.reduceLeDiff, Int.reduceEq, Int.reduceLT, Int.reduceLE, Int.reduceAdd, Int.reduceSub, Int.reduceMul, Int.reduceNeg, Int.reduceToNat, reduceCtorEq, eq_self]
  by_cases c2 : (p.at s).state = 2
  · have A5 : (qa.at s).state = 2 := by simpa [c2] using A4
    have B5 : (qb.at s).state = 3 := by simpa [c2] using B4
    simp only [hs0, hs1, hp5, hq5, objK_of hp5, objK_of hq5, n51, n52, hatp, hata, hatb, Pool.v, Slot.v, c2, A5, B5, na2, nb2, Slot.sh, Slot.nt, Key.sh, Key.nt, Ring.sh, Ring.nt, Pool.sh, Pool.nt, Entry.sh, Entry.nt, ↓stepR, normR, Int.cast_ofNat_Int, Int.natCast_nonneg, Int.toNat_natCast, Nat.reduceMod, Nat.reduceDiv, Nat.reducePow, Nat.testBit_eq_decide_div_mod_eq, ↓reduceIte, Nat.reduceEqDiff, Nat.reduceAdd, Nat.reduceSub, Nat.reduceMul, Nat.reduceLT, Nat.reduceLeDiff, Int.reduceEq, Int.reduceLT, Int.reduceLE, Int.reduceAdd, Int.reduceSub, Int.reduceMul, Int.reduceNeg, Int.reduceToNat, reduceCtorEq, eq_self]
    refine fin _ _ (fun w h' ht hl => ?_)
    simp only [ht, hl, ↓stepR, normR, Int.cast_ofNat_Int, Int.natCast_nonneg, Int.toNat_natCast, Nat.reduceMod, Nat.reduceDiv, Nat.reducePow, Nat.testBit_eq_decide_div_mod_eq, ↓reduceIte, Nat.reduceEqDiff, Nat.reduceAdd, Nat.reduceSub, Nat.reduceMul, Nat.reduceLT, Nat.reduceLeDiff, Int.reduceEq, Int.reduceLT, Int.reduceLE, Int.reduceAdd, Int.reduceSub, Int.reduceMul, Int.reduceNeg, Int.reduceToNat, reduceCtorEq, eq_self]
  have A5 : (qa.at s).state = (p.at s).state := by simpa [c1, c3] using A4
  have B5 : (qb.at s).state = (p.at s).state := by simpa [c2] using B4
  simp only [hs0, hs1, hp5, hq5, objK_of hp5, objK_of hq5, n51, n52, hatp, hata, hatb, Pool.v, Slot.v, c1, c2, c3, A5, B5, na2, nb2, Slot.sh, Slot.nt, Key.sh, Key.nt, Ring.sh, Ring.nt, Pool.sh, Pool.nt, Entry.sh, Entry.nt, ↓stepR, normR, Int.cast_ofNat_Int, Int.natCast_nonneg, Int.toNat_natCast, Nat.reduceMod, Nat.reduceDiv, Nat.reducePow, Nat.testBit_eq_decide_div_mod_eq, ↓reduceIte, Nat.reduceEqDiff, Nat.reduceAdd, Nat.reduceSub, Nat.reduceMul, Nat.reduceLT, Nat.reduceLeDiff, Int.reduceEq, Int.reduceLT, Int.reduceLE, Int.reduceAdd, Int.reduceSub, Int.reduceMul, Int.reduceNeg, Int.reduceToNat, reduceCtorEq, eq_self]
  refine fin _ _ (fun w h' ht hl => ?_)
  simp only [ht, hl, ↓stepR, normR, Int.cast_ofNat_Int, Int.natCast_nonneg, Int.toNat_natCast, Nat.reduceMod, Nat.reduceDiv, Nat.reducePow, Nat.testBit_eq_decide_div_mod_eq, ↓reduceIte, Nat.reduceEqDiff, Nat.reduceAdd, Nat.reduceSub, Nat.reduceMul, Nat.reduceLT, Nat.reduceLeDiff, Int.reduceEq, Int.reduceLT, Int.reduceLE, Int.reduceAdd, Int.reduceSub, Int.reduceMul, Int.reduceNeg, Int.reduceToNat, reduceCtorEq, eq_self]
end Go.Rae.Order
