/- OrderDone: what is wished may be done. -/
import Derived.Test.YtannfoaobeoafaaDoorOrdPlain
set_option linter.unusedVariables false
set_option linter.unusedSimpArgs false
namespace Go.Rae.Order
set_option maxRecDepth 100000
set_option maxHeartbeats 4000000

theorem callK_all15 (p : Pool) (hp : p.slots.length = 64) (v : V) (es : List Entry) (hes : es.length < 1000000) (h : H) (hu : EntsR h v es) (k : V → H → Prop)
    (hk : ∀ h', Grow h h' → k (.tup [(allS p es 0).1.v, .i .i64 (allS p es 0).2.1, .i .i64 (allS p es 0).2.2]) h') : callK pu CL 15 [p.v, v] h k := by
  rw [callK_refs (hu.nr2 _)]
  exact (run_all15 p hp v es hes h hu).mono fun w h' ⟨a, b⟩ => by subst a; exact hk h' b

theorem law_done (v : V) (ns : List Int) (addr port kz : Int) (h : H) (hv : IntsAt h v ns) : Runs CL 14 [v, .i .i64 addr, .i .i64 port, .i .i64 kz] h fun u _ => u = .b true := by
  have hlen := makeS_slots ns 60
  have hst := makeS_st ns 60
  refine run (fn := F14) rfl rfl ?_
  unfold F14
  have hnt : v.isTup = false := by rcases hv with ⟨rfl, _⟩ | ⟨_, rfl, _⟩ <;> rfl
  simp only [call_known, hnt, ↓stepR, normR, Int.cast_ofNat_Int, Int.natCast_nonneg, Int.toNat_natCast, Nat.reduceMod, Nat.reduceDiv, Nat.reducePow, Nat.testBit_eq_decide_div_mod_eq, ↓reduceIte, Nat.reduceEqDiff, Nat.reduceAdd, Nat.reduceSub, Nat.reduceMul, Nat.reduceLT, Nat.reduceLeDiff, Int.reduceEq, Int.reduceLT, Int.reduceLE, Int.reduceAdd, Int.reduceSub, Int.reduceMul, Int.reduceNeg, Int.reduceToNat, reduceCtorEq, eq_self]
  refine call_make v ns 60 (by omega) h hv _ (fun h1 g1 => ?_)
  generalize hp : makeS ns 60 = p at *
  have w6 := call_within3 addr 6 (by decide) (by decide)
  have w4 := call_within3 port 4 (by decide) (by decide)
  have hpo := H.get_pushset h1 (.cells (V.agg 15 [.i .i64 0, .i .i64 0, .i .i64 0, .agg 12 (List.replicate 64 (.agg 11 [.i .i64 0, .i .i64 0, .i .i64 0, .i .i64 0, .i .i64 0])), .agg 14 [.i .i64 0, .agg 13 [.i .u64 0, .i .u64 0], .agg 13 [.i .u64 0, .i .u64 0], .agg 13 [.i .u64 0, .i .u64 0]]]) false false) (.cells p.v false false)
  simp only [Slot.sh, Slot.nt, Key.sh, Key.nt, Ring.sh, Ring.nt, Pool.sh, Pool.nt, Entry.sh, Entry.nt, w6, w4, ↓stepR, normR, Int.cast_ofNat_Int, Int.natCast_nonneg, Int.toNat_natCast, Nat.reduceMod, Nat.reduceDiv, Nat.reducePow, Nat.testBit_eq_decide_div_mod_eq, ↓reduceIte, Nat.reduceEqDiff, Nat.reduceAdd, Nat.reduceSub, Nat.reduceMul, Nat.reduceLT, Nat.reduceLeDiff, Int.reduceEq, Int.reduceLT, Int.reduceLE, Int.reduceAdd, Int.reduceSub, Int.reduceMul, Int.reduceNeg, Int.reduceToNat, reduceCtorEq, eq_self]
  generalize addr % 6 = x at *
  generalize port % 4 = y at *
  generalize H.set _ h1.n _ = g at *
  refine callK_add4 p hlen _ _ _ _ _ (fun u1 h2 e1 g2 => ?_)
  have hp2 := g2.2 _ _ hpo
  have n1 := e1.r.nt
  by_cases hA : (addS p x y 3).2 = 0
  · obtain ⟨i, q, hi, hia, _, _, hal, hql, hqi, _, hqf, _, _, _⟩ := add_done hlen hA
    have f16 := call_find16 q hql x y
    rw [hqf] at f16
    simp only [hA, n1, objK_of hp2, Slot.sh, Slot.nt, Key.sh, Key.nt, Ring.sh, Ring.nt, Pool.sh, Pool.nt, Entry.sh, Entry.nt, ↓stepR, normR, Int.cast_ofNat_Int, Int.natCast_nonneg, Int.toNat_natCast, Nat.reduceMod, Nat.reduceDiv, Nat.reducePow, Nat.testBit_eq_decide_div_mod_eq, ↓reduceIte, Nat.reduceEqDiff, Nat.reduceAdd, Nat.reduceSub, Nat.reduceMul, Nat.reduceLT, Nat.reduceLeDiff, Int.reduceEq, Int.reduceLT, Int.reduceLE, Int.reduceAdd, Int.reduceSub, Int.reduceMul, Int.reduceNeg, Int.reduceToNat, reduceCtorEq, eq_self]
    refine callK_all15 p hlen u1 _ (addS_len ..) _ e1.r _ (fun h3 g3 => ?_)
    rw [hal]
    have hp3 := g3.2 _ _ hp2
    have hl2 : (addS p x y 3).1.length = 2 := by rw [hia]; rfl
    have hlu1 := (e1.r.grow g3).len
    have n3 : ¬ h1.n = h3.n := by have := H.lt_of hp3; omega
    have hatq : q.slots[i]'(by omega) = q.at i := (at_some (by omega)).symm
    have hi' : i < q.slots.length := by omega
    have hi64 : (i : Int) < 64 := by omega
    have hz0 : ∀ (o1 o2 : Obj), ((h3.push o1).set h3.n o2).get h1.n = some (.cells p.v false false) := fun o1 o2 => by rw [H.get_set2 _ _ _ _ (by rw [H.has_push]; exact .inl rfl), if_neg n3, H.get_push', if_neg n3]; exact hp3
    simp only [n1, objK_of hp3, n3, f16, findV, Slot.sh, Slot.nt, Key.sh, Key.nt, Ring.sh, Ring.nt, Pool.sh, Pool.nt, Entry.sh, Entry.nt, ↓stepR, normR, Int.cast_ofNat_Int, Int.natCast_nonneg, Int.toNat_natCast, Nat.reduceMod, Nat.reduceDiv, Nat.reducePow, Nat.testBit_eq_decide_div_mod_eq, ↓reduceIte, Nat.reduceEqDiff, Nat.reduceAdd, Nat.reduceSub, Nat.reduceMul, Nat.reduceLT, Nat.reduceLeDiff, Int.reduceEq, Int.reduceLT, Int.reduceLE, Int.reduceAdd, Int.reduceSub, Int.reduceMul, Int.reduceNeg, Int.reduceToNat, reduceCtorEq, eq_self]
    simp only [Pool.v] at f16
    simp only [n1, objK_of hp3, n3, f16, findV, hlu1, hl2, nthK_map _ _ _ _ hi', hatq, hqi, Pool.v, Slot.v, hi64, Slot.sh, Slot.nt, Key.sh, Key.nt, Ring.sh, Ring.nt, Pool.sh, Pool.nt, Entry.sh, Entry.nt, ↓stepR, normR, Int.cast_ofNat_Int, Int.natCast_nonneg, Int.toNat_natCast, Nat.reduceMod, Nat.reduceDiv, Nat.reducePow, Nat.testBit_eq_decide_div_mod_eq, ↓reduceIte, Nat.reduceEqDiff, Nat.reduceAdd, Nat.reduceSub, Nat.reduceMul, Nat.reduceLT, Nat.reduceLeDiff, Int.reduceEq, Int.reduceLT, Int.reduceLE, Int.reduceAdd, Int.reduceSub, Int.reduceMul, Int.reduceNeg, Int.reduceToNat, reduceCtorEq, eq_self]
    refine callK_remove6 p hlen _ _ _ _ hst (fun u2 h5 e5 g5 => ?_)
    have hp5 := g5.2 h1.n _ (hz0 _ _)
    have n2 := e5.r.nt
    by_cases hR : (removeS p x y).2 = 0
    · obtain ⟨j, r, hj, hjf, hjr, hja, hrl, hrj, _, _, _, _⟩ := remove_done hlen hR
      have f16 := call_find16 p hlen x y
      rw [hjf] at f16
      have hlr : (removeS p x y).1.length < 1000000 := removeS_len ..
      simp only [hR, n2, objK_of hp5, f16, findV, Slot.sh, Slot.nt, Key.sh, Key.nt, Ring.sh, Ring.nt, Pool.sh, Pool.nt, Entry.sh, Entry.nt, ↓stepR, normR, Int.cast_ofNat_Int, Int.natCast_nonneg, Int.toNat_natCast, Nat.reduceMod, Nat.reduceDiv, Nat.reducePow, Nat.testBit_eq_decide_div_mod_eq, ↓reduceIte, Nat.reduceEqDiff, Nat.reduceAdd, Nat.reduceSub, Nat.reduceMul, Nat.reduceLT, Nat.reduceLeDiff, Int.reduceEq, Int.reduceLT, Int.reduceLE, Int.reduceAdd, Int.reduceSub, Int.reduceMul, Int.reduceNeg, Int.reduceToNat, reduceCtorEq, eq_self]
      refine callK_all15 p hlen u2 _ hlr _ e5.r _ (fun h6 g6 => ?_)
      rw [hja]
      have hp6 := g6.2 _ _ hp5
      have hlu2 := (e5.r.grow g6).len
      have hz1 : ∀ (o1 o2 : Obj), ((h6.push o1).set h6.n o2).get h1.n = some (.cells p.v false false) := fun o1 o2 => by rw [H.get_set2 _ _ _ _ (by rw [H.has_push]; exact .inl rfl), if_neg (by have := H.lt_of hp6; omega), H.get_push', if_neg (by have := H.lt_of hp6; omega)]; exact hp6
      have n6 : ¬ h1.n = h6.n := by have := H.lt_of hp6; omega
      have hatr : r.slots[j]'(by omega) = r.at j := (at_some (by omega)).symm
      have hj' : j < r.slots.length := by omega
      have hj64 : (j : Int) < 64 := by omega
      have hs4 : (r.at j).state = 4 := by rw [hrj]
      simp only [n2, objK_of hp6, n6, hlu2, nthK_map _ _ _ _ hj', hatr, Pool.v, Slot.v, hs4, hj64, dcall_key9, Slot.sh, Slot.nt, Key.sh, Key.nt, Ring.sh, Ring.nt, Pool.sh, Pool.nt, Entry.sh, Entry.nt, ↓stepR, normR, Int.cast_ofNat_Int, Int.natCast_nonneg, Int.toNat_natCast, Nat.reduceMod, Nat.reduceDiv, Nat.reducePow, Nat.testBit_eq_decide_div_mod_eq, ↓reduceIte, Nat.reduceEqDiff, Nat.reduceAdd, Nat.reduceSub, Nat.reduceMul, Nat.reduceLT, Nat.reduceLeDiff, Int.reduceEq, Int.reduceLT, Int.reduceLE, Int.reduceAdd, Int.reduceSub, Int.reduceMul, Int.reduceNeg, Int.reduceToNat, reduceCtorEq, eq_self]
      refine callD_rotate10F p hlen (keyS kz) _ _ (fun w k1 f1 q1 => ?_)
      have hk1 := q1.2 h1.n _ (hz1 _ _)
      have m1 := f1.r.nt
      simp only [m1, n6, hp6, hk1, osame_self, true_or, Slot.sh, Slot.nt, Key.sh, Key.nt, Ring.sh, Ring.nt, Pool.sh, Pool.nt, Entry.sh, Entry.nt, ↓stepR, normR, Int.cast_ofNat_Int, Int.natCast_nonneg, Int.toNat_natCast, Nat.reduceMod, Nat.reduceDiv, Nat.reducePow, Nat.testBit_eq_decide_div_mod_eq, ↓reduceIte, Nat.reduceEqDiff, Nat.reduceAdd, Nat.reduceSub, Nat.reduceMul, Nat.reduceLT, Nat.reduceLeDiff, Int.reduceEq, Int.reduceLT, Int.reduceLE, Int.reduceAdd, Int.reduceSub, Int.reduceMul, Int.reduceNeg, Int.reduceToNat, reduceCtorEq, eq_self]
      obtain ⟨Q, nn, ha, hn1, hQl, hQr, hQat⟩ := rotate_done hlen (keyS kz)
      refine callD_all15 p hlen w _ (rotateS_len ..) _ f1.r _ (fun k2 q2 => ?_)
      rw [ha]
      have hk2 := q2.2 _ _ hk1
      have nk : ¬ h1.n = k2.n := by have := H.lt_of hk2; omega
      have nn1 : ¬ (nn : Int) < 1 := by omega
      have hnext : Q.ring.next = keyS kz := by rw [hQr]; rfl
      have hep : Q.ring.epoch = IntKind.i64.wrap (p.ring.epoch + 1) := by rw [hQr]; rfl
      simp only [m1, n6, hp6, hk1, hk2, objK_of hk2, nk, nn1, osame_self, true_or, dcall_key9, zpool1, zpool2, Bool.and_true, Pool.v, Ring.v, hnext, hep, Key.veq, Slot.sh, Slot.nt, Key.sh, Key.nt, Ring.sh, Ring.nt, Pool.sh, Pool.nt, Entry.sh, Entry.nt, ↓stepR, normR, Int.cast_ofNat_Int, Int.natCast_nonneg, Int.toNat_natCast, Nat.reduceMod, Nat.reduceDiv, Nat.reducePow, Nat.testBit_eq_decide_div_mod_eq, ↓reduceIte, Nat.reduceEqDiff, Nat.reduceAdd, Nat.reduceSub, Nat.reduceMul, Nat.reduceLT, Nat.reduceLeDiff, Int.reduceEq, Int.reduceLT, Int.reduceLE, Int.reduceAdd, Int.reduceSub, Int.reduceMul, Int.reduceNeg, Int.reduceToNat, reduceCtorEq, eq_self]
      refine W_up 64 (fun i e hh => e = [(24, .ptr k2.n 0 [] 15), (27, .i .i64 i)] ∧ hh.get k2.n = some (.cells Q.v false false)) ?_ 0 (by omega) _ _ ⟨rfl, by first | exact H.get_pushset _ _ _ | exact H.get_pushset k2 _ (.cells Q.v false false) | (have := H.get_pushset k2 (.cells pool0.v false false) (.cells Q.v false false); simp only [Pool.v, Ring.v, hnext, hep] at this ⊢; exact this)⟩
      rintro i e hh hi ⟨rfl, hq⟩
      simp only [Pool.v, Ring.v] at hq
      by_cases c1 : (i : Int) < 64
      · have hi' : i < Q.slots.length := by omega
        have hi2 : i < 64 := by omega
        have hw := @wrap_up i (by omega)
        have hat : (Q.slots[i]) = Q.at i := (at_some (by omega)).symm
        have hQi := hQat i hi2
        by_cases d1 : (Q.at i).state = 4
        · have d2 : ¬ IntKind.i64.wrap ((Q.at i).since + 3) ≤ Q.ring.epoch := by
            intro d2
            rw [hep] at d2
            by_cases gn : goneS p (p.at i) = true
            · rw [if_pos gn] at hQi; rw [hQi] at d1; exact absurd d1 (by decide)
            · rw [if_neg gn] at hQi
              rw [hQi] at d1 d2
              exact gn (by simp only [goneS, decide_eq_true_eq]; exact ⟨d1, d2⟩)
          simp only [c1, nthK_map _ _ _ _ hi', Slot.v, hat, d1, d2, objK_of hq, hw, ↓stepR, normR, Int.cast_ofNat_Int, Int.natCast_nonneg, Int.toNat_natCast, Nat.reduceMod, Nat.reduceDiv, Nat.reducePow, Nat.testBit_eq_decide_div_mod_eq, ↓reduceIte, Nat.reduceEqDiff, Nat.reduceAdd, Nat.reduceSub, Nat.reduceMul, Nat.reduceLT, Nat.reduceLeDiff, Int.reduceEq, Int.reduceLT, Int.reduceLE, Int.reduceAdd, Int.reduceSub, Int.reduceMul, Int.reduceNeg, Int.reduceToNat, reduceCtorEq, eq_self]
          exact ⟨hi2, by simp only [Pool.v, Ring.v]; exact hq⟩
        · simp only [c1, nthK_map _ _ _ _ hi', Slot.v, hat, d1, objK_of hq, hw, ↓stepR, normR, Int.cast_ofNat_Int, Int.natCast_nonneg, Int.toNat_natCast, Nat.reduceMod, Nat.reduceDiv, Nat.reducePow, Nat.testBit_eq_decide_div_mod_eq, ↓reduceIte, Nat.reduceEqDiff, Nat.reduceAdd, Nat.reduceSub, Nat.reduceMul, Nat.reduceLT, Nat.reduceLeDiff, Int.reduceEq, Int.reduceLT, Int.reduceLE, Int.reduceAdd, Int.reduceSub, Int.reduceMul, Int.reduceNeg, Int.reduceToNat, reduceCtorEq, eq_self]
          exact ⟨hi2, by simp only [Pool.v, Ring.v]; exact hq⟩
      · simp only [c1, ↓stepR, normR, Int.cast_ofNat_Int, Int.natCast_nonneg, Int.toNat_natCast, Nat.reduceMod, Nat.reduceDiv, Nat.reducePow, Nat.testBit_eq_decide_div_mod_eq, ↓reduceIte, Nat.reduceEqDiff, Nat.reduceAdd, Nat.reduceSub, Nat.reduceMul, Nat.reduceLT, Nat.reduceLeDiff, Int.reduceEq, Int.reduceLT, Int.reduceLE, Int.reduceAdd, Int.reduceSub, Int.reduceMul, Int.reduceNeg, Int.reduceToNat, reduceCtorEq, eq_self]
    · simp only [hR, n2, objK_of hp5, dcall_key9, Slot.sh, Slot.nt, Key.sh, Key.nt, Ring.sh, Ring.nt, Pool.sh, Pool.nt, Entry.sh, Entry.nt, ↓stepR, normR, Int.cast_ofNat_Int, Int.natCast_nonneg, Int.toNat_natCast, Nat.reduceMod, Nat.reduceDiv, Nat.reducePow, Nat.testBit_eq_decide_div_mod_eq, ↓reduceIte, Nat.reduceEqDiff, Nat.reduceAdd, Nat.reduceSub, Nat.reduceMul, Nat.reduceLT, Nat.reduceLeDiff, Int.reduceEq, Int.reduceLT, Int.reduceLE, Int.reduceAdd, Int.reduceSub, Int.reduceMul, Int.reduceNeg, Int.reduceToNat, reduceCtorEq, eq_self]
      refine callD_rotate10F p hlen (keyS kz) _ _ (fun w k1 f1 q1 => ?_)
      have hk1 := q1.2 h1.n _ hp5
      have m1 := f1.r.nt
      simp only [m1, hp5, hk1, osame_self, true_or, Slot.sh, Slot.nt, Key.sh, Key.nt, Ring.sh, Ring.nt, Pool.sh, Pool.nt, Entry.sh, Entry.nt, ↓stepR, normR, Int.cast_ofNat_Int, Int.natCast_nonneg, Int.toNat_natCast, Nat.reduceMod, Nat.reduceDiv, Nat.reducePow, Nat.testBit_eq_decide_div_mod_eq, ↓reduceIte, Nat.reduceEqDiff, Nat.reduceAdd, Nat.reduceSub, Nat.reduceMul, Nat.reduceLT, Nat.reduceLeDiff, Int.reduceEq, Int.reduceLT, Int.reduceLE, Int.reduceAdd, Int.reduceSub, Int.reduceMul, Int.reduceNeg, Int.reduceToNat, reduceCtorEq, eq_self]
      obtain ⟨Q, nn, ha, hn1, hQl, hQr, hQat⟩ := rotate_done hlen (keyS kz)
      refine callD_all15 p hlen w _ (rotateS_len ..) _ f1.r _ (fun k2 q2 => ?_)
      rw [ha]
      have hk2 := q2.2 _ _ hk1
      have nk : ¬ h1.n = k2.n := by have := H.lt_of hk2; omega
      have nn1 : ¬ (nn : Int) < 1 := by omega
      have hnext : Q.ring.next = keyS kz := by rw [hQr]; rfl
      have hep : Q.ring.epoch = IntKind.i64.wrap (p.ring.epoch + 1) := by rw [hQr]; rfl
      simp only [m1, hp5, hk1, hk2, objK_of hk2, nk, nn1, osame_self, true_or, dcall_key9, zpool1, zpool2, Bool.and_true, Pool.v, Ring.v, hnext, hep, Key.veq, Slot.sh, Slot.nt, Key.sh, Key.nt, Ring.sh, Ring.nt, Pool.sh, Pool.nt, Entry.sh, Entry.nt, ↓stepR, normR, Int.cast_ofNat_Int, Int.natCast_nonneg, Int.toNat_natCast, Nat.reduceMod, Nat.reduceDiv, Nat.reducePow, Nat.testBit_eq_decide_div_mod_eq, ↓reduceIte, Nat.reduceEqDiff, Nat.reduceAdd, Nat.reduceSub, Nat.reduceMul, Nat.reduceLT, Nat.reduceLeDiff, Int.reduceEq, Int.reduceLT, Int.reduceLE, Int.reduceAdd, Int.reduceSub, Int.reduceMul, Int.reduceNeg, Int.reduceToNat, reduceCtorEq, eq_self]
      refine W_up 64 (fun i e hh => e = [(24, .ptr k2.n 0 [] 15), (27, .i .i64 i)] ∧ hh.get k2.n = some (.cells Q.v false false)) ?_ 0 (by omega) _ _ ⟨rfl, by first | exact H.get_pushset _ _ _ | exact H.get_pushset k2 _ (.cells Q.v false false) | (have := H.get_pushset k2 (.cells pool0.v false false) (.cells Q.v false false); simp only [Pool.v, Ring.v, hnext, hep] at this ⊢; exact this)⟩
      rintro i e hh hi ⟨rfl, hq⟩
      simp only [Pool.v, Ring.v] at hq
      by_cases c1 : (i : Int) < 64
      · have hi' : i < Q.slots.length := by omega
        have hi2 : i < 64 := by omega
        have hw := @wrap_up i (by omega)
        have hat : (Q.slots[i]) = Q.at i := (at_some (by omega)).symm
        have hQi := hQat i hi2
        by_cases d1 : (Q.at i).state = 4
        · have d2 : ¬ IntKind.i64.wrap ((Q.at i).since + 3) ≤ Q.ring.epoch := by
            intro d2
            rw [hep] at d2
            by_cases gn : goneS p (p.at i) = true
            · rw [if_pos gn] at hQi; rw [hQi] at d1; exact absurd d1 (by decide)
            · rw [if_neg gn] at hQi
              rw [hQi] at d1 d2
              exact gn (by simp only [goneS, decide_eq_true_eq]; exact ⟨d1, d2⟩)
          simp only [c1, nthK_map _ _ _ _ hi', Slot.v, hat, d1, d2, objK_of hq, hw, ↓stepR, normR, Int.cast_ofNat_Int, Int.natCast_nonneg, Int.toNat_natCast, Nat.reduceMod, Nat.reduceDiv, Nat.reducePow, Nat.testBit_eq_decide_div_mod_eq, ↓reduceIte, Nat.reduceEqDiff, Nat.reduceAdd, Nat.reduceSub, Nat.reduceMul, Nat.reduceLT, Nat.reduceLeDiff, Int.reduceEq, Int.reduceLT, Int.reduceLE, Int.reduceAdd, Int.reduceSub, Int.reduceMul, Int.reduceNeg, Int.reduceToNat, reduceCtorEq, eq_self]
          exact ⟨hi2, by simp only [Pool.v, Ring.v]; exact hq⟩
        · simp only [c1, nthK_map _ _ _ _ hi', Slot.v, hat, d1, objK_of hq, hw, ↓stepR, normR, Int.cast_ofNat_Int, Int.natCast_nonneg, Int.toNat_natCast, Nat.reduceMod, Nat.reduceDiv, Nat.reducePow, Nat.testBit_eq_decide_div_mod_eq, ↓reduceIte, Nat.reduceEqDiff, Nat.reduceAdd, Nat.reduceSub, Nat.reduceMul, Nat.reduceLT, Nat.reduceLeDiff, Int.reduceEq, Int.reduceLT, Int.reduceLE, Int.reduceAdd, Int.reduceSub, Int.reduceMul, Int.reduceNeg, Int.reduceToNat, reduceCtorEq, eq_self]
          exact ⟨hi2, by simp only [Pool.v, Ring.v]; exact hq⟩
      · simp only [c1, ↓stepR, normR, Int.cast_ofNat_Int, Int.natCast_nonneg, Int.toNat_natCast, Nat.reduceMod, Nat.reduceDiv, Nat.reducePow, Nat.testBit_eq_decide_div_mod_eq, ↓reduceIte, Nat.reduceEqDiff, Nat.reduceAdd, Nat.reduceSub, Nat.reduceMul, Nat.reduceLT, Nat.reduceLeDiff, Int.reduceEq, Int.reduceLT, Int.reduceLE, Int.reduceAdd, Int.reduceSub, Int.reduceMul, Int.reduceNeg, Int.reduceToNat, reduceCtorEq, eq_self]
  · simp only [hA, n1, objK_of hp2, Slot.sh, Slot.nt, Key.sh, Key.nt, Ring.sh, Ring.nt, Pool.sh, Pool.nt, Entry.sh, Entry.nt, ↓stepR, normR, Int.cast_ofNat_Int, Int.natCast_nonneg, Int.toNat_natCast, Nat.reduceMod, Nat.reduceDiv, Nat.reducePow, Nat.testBit_eq_decide_div_mod_eq, ↓reduceIte, Nat.reduceEqDiff, Nat.reduceAdd, Nat.reduceSub, Nat.reduceMul, Nat.reduceLT, Nat.reduceLeDiff, Int.reduceEq, Int.reduceLT, Int.reduceLE, Int.reduceAdd, Int.reduceSub, Int.reduceMul, Int.reduceNeg, Int.reduceToNat, reduceCtorEq, eq_self]
    refine callK_remove6 p hlen _ _ _ _ hst (fun u2 h5 e5 g5 => ?_)
    have hp5 := g5.2 h1.n _ hp2
    have n2 := e5.r.nt
    by_cases hR : (removeS p x y).2 = 0
    · obtain ⟨j, r, hj, hjf, hjr, hja, hrl, hrj, _, _, _, _⟩ := remove_done hlen hR
      have f16 := call_find16 p hlen x y
      rw [hjf] at f16
      have hlr : (removeS p x y).1.length < 1000000 := removeS_len ..
      simp only [hR, n2, objK_of hp5, f16, findV, Slot.sh, Slot.nt, Key.sh, Key.nt, Ring.sh, Ring.nt, Pool.sh, Pool.nt, Entry.sh, Entry.nt, ↓stepR, normR, Int.cast_ofNat_Int, Int.natCast_nonneg, Int.toNat_natCast, Nat.reduceMod, Nat.reduceDiv, Nat.reducePow, Nat.testBit_eq_decide_div_mod_eq, ↓reduceIte, Nat.reduceEqDiff, Nat.reduceAdd, Nat.reduceSub, Nat.reduceMul, Nat.reduceLT, Nat.reduceLeDiff, Int.reduceEq, Int.reduceLT, Int.reduceLE, Int.reduceAdd, Int.reduceSub, Int.reduceMul, Int.reduceNeg, Int.reduceToNat, reduceCtorEq, eq_self]
      refine callK_all15 p hlen u2 _ hlr _ e5.r _ (fun h6 g6 => ?_)
      rw [hja]
      have hp6 := g6.2 _ _ hp5
      have hlu2 := (e5.r.grow g6).len
      have hz1 : ∀ (o1 o2 : Obj), ((h6.push o1).set h6.n o2).get h1.n = some (.cells p.v false false) := fun o1 o2 => by rw [H.get_set2 _ _ _ _ (by rw [H.has_push]; exact .inl rfl), if_neg (by have := H.lt_of hp6; omega), H.get_push', if_neg (by have := H.lt_of hp6; omega)]; exact hp6
      have n6 : ¬ h1.n = h6.n := by have := H.lt_of hp6; omega
      have hatr : r.slots[j]'(by omega) = r.at j := (at_some (by omega)).symm
      have hj' : j < r.slots.length := by omega
      have hj64 : (j : Int) < 64 := by omega
      have hs4 : (r.at j).state = 4 := by rw [hrj]
      simp only [n2, objK_of hp6, n6, hlu2, nthK_map _ _ _ _ hj', hatr, Pool.v, Slot.v, hs4, hj64, dcall_key9, Slot.sh, Slot.nt, Key.sh, Key.nt, Ring.sh, Ring.nt, Pool.sh, Pool.nt, Entry.sh, Entry.nt, ↓stepR, normR, Int.cast_ofNat_Int, Int.natCast_nonneg, Int.toNat_natCast, Nat.reduceMod, Nat.reduceDiv, Nat.reducePow, Nat.testBit_eq_decide_div_mod_eq, ↓reduceIte, Nat.reduceEqDiff, Nat.reduceAdd, Nat.reduceSub, Nat.reduceMul, Nat.reduceLT, Nat.reduceLeDiff, Int.reduceEq, Int.reduceLT, Int.reduceLE, Int.reduceAdd, Int.reduceSub, Int.reduceMul, Int.reduceNeg, Int.reduceToNat, reduceCtorEq, eq_self]
      refine callD_rotate10F p hlen (keyS kz) _ _ (fun w k1 f1 q1 => ?_)
      have hk1 := q1.2 h1.n _ (hz1 _ _)
      have m1 := f1.r.nt
      simp only [m1, n6, hp6, hk1, osame_self, true_or, Slot.sh, Slot.nt, Key.sh, Key.nt, Ring.sh, Ring.nt, Pool.sh, Pool.nt, Entry.sh, Entry.nt, ↓stepR, normR, Int.cast_ofNat_Int, Int.natCast_nonneg, Int.toNat_natCast, Nat.reduceMod, Nat.reduceDiv, Nat.reducePow, Nat.testBit_eq_decide_div_mod_eq, ↓reduceIte, Nat.reduceEqDiff, Nat.reduceAdd, Nat.reduceSub, Nat.reduceMul, Nat.reduceLT, Nat.reduceLeDiff, Int.reduceEq, Int.reduceLT, Int.reduceLE, Int.reduceAdd, Int.reduceSub, Int.reduceMul, Int.reduceNeg, Int.reduceToNat, reduceCtorEq, eq_self]
      obtain ⟨Q, nn, ha, hn1, hQl, hQr, hQat⟩ := rotate_done hlen (keyS kz)
      refine callD_all15 p hlen w _ (rotateS_len ..) _ f1.r _ (fun k2 q2 => ?_)
      rw [ha]
      have hk2 := q2.2 _ _ hk1
      have nk : ¬ h1.n = k2.n := by have := H.lt_of hk2; omega
      have nn1 : ¬ (nn : Int) < 1 := by omega
      have hnext : Q.ring.next = keyS kz := by rw [hQr]; rfl
      have hep : Q.ring.epoch = IntKind.i64.wrap (p.ring.epoch + 1) := by rw [hQr]; rfl
      simp only [m1, n6, hp6, hk1, hk2, objK_of hk2, nk, nn1, osame_self, true_or, dcall_key9, zpool1, zpool2, Bool.and_true, Pool.v, Ring.v, hnext, hep, Key.veq, Slot.sh, Slot.nt, Key.sh, Key.nt, Ring.sh, Ring.nt, Pool.sh, Pool.nt, Entry.sh, Entry.nt, ↓stepR, normR, Int.cast_ofNat_Int, Int.natCast_nonneg, Int.toNat_natCast, Nat.reduceMod, Nat.reduceDiv, Nat.reducePow, Nat.testBit_eq_decide_div_mod_eq, ↓reduceIte, Nat.reduceEqDiff, Nat.reduceAdd, Nat.reduceSub, Nat.reduceMul, Nat.reduceLT, Nat.reduceLeDiff, Int.reduceEq, Int.reduceLT, Int.reduceLE, Int.reduceAdd, Int.reduceSub, Int.reduceMul, Int.reduceNeg, Int.reduceToNat, reduceCtorEq, eq_self]
      refine W_up 64 (fun i e hh => e = [(24, .ptr k2.n 0 [] 15), (27, .i .i64 i)] ∧ hh.get k2.n = some (.cells Q.v false false)) ?_ 0 (by omega) _ _ ⟨rfl, by first | exact H.get_pushset _ _ _ | exact H.get_pushset k2 _ (.cells Q.v false false) | (have := H.get_pushset k2 (.cells pool0.v false false) (.cells Q.v false false); simp only [Pool.v, Ring.v, hnext, hep] at this ⊢; exact this)⟩
      rintro i e hh hi ⟨rfl, hq⟩
      simp only [Pool.v, Ring.v] at hq
      by_cases c1 : (i : Int) < 64
      · have hi' : i < Q.slots.length := by omega
        have hi2 : i < 64 := by omega
        have hw := @wrap_up i (by omega)
        have hat : (Q.slots[i]) = Q.at i := (at_some (by omega)).symm
        have hQi := hQat i hi2
        by_cases d1 : (Q.at i).state = 4
        · have d2 : ¬ IntKind.i64.wrap ((Q.at i).since + 3) ≤ Q.ring.epoch := by
            intro d2
            rw [hep] at d2
            by_cases gn : goneS p (p.at i) = true
            · rw [if_pos gn] at hQi; rw [hQi] at d1; exact absurd d1 (by decide)
            · rw [if_neg gn] at hQi
              rw [hQi] at d1 d2
              exact gn (by simp only [goneS, decide_eq_true_eq]; exact ⟨d1, d2⟩)
          simp only [c1, nthK_map _ _ _ _ hi', Slot.v, hat, d1, d2, objK_of hq, hw, ↓stepR, normR, Int.cast_ofNat_Int, Int.natCast_nonneg, Int.toNat_natCast, Nat.reduceMod, Nat.reduceDiv, Nat.reducePow, Nat.testBit_eq_decide_div_mod_eq, ↓reduceIte, Nat.reduceEqDiff, Nat.reduceAdd, Nat.reduceSub, Nat.reduceMul, Nat.reduceLT, Nat.reduceLeDiff, Int.reduceEq, Int.reduceLT, Int.reduceLE, Int.reduceAdd, Int.reduceSub, Int.reduceMul, Int.reduceNeg, Int.reduceToNat, reduceCtorEq, eq_self]
          exact ⟨hi2, by simp only [Pool.v, Ring.v]; exact hq⟩
        · simp only [c1, nthK_map _ _ _ _ hi', Slot.v, hat, d1, objK_of hq, hw, ↓stepR, normR, Int.cast_ofNat_Int, Int.natCast_nonneg, Int.toNat_natCast, Nat.reduceMod, Nat.reduceDiv, Nat.reducePow, Nat.testBit_eq_decide_div_mod_eq, ↓reduceIte, Nat.reduceEqDiff, Nat.reduceAdd, Nat.reduceSub, Nat.reduceMul, Nat.reduceLT, Nat.reduceLeDiff, Int.reduceEq, Int.reduceLT, Int.reduceLE, Int.reduceAdd, Int.reduceSub, Int.reduceMul, Int.reduceNeg, Int.reduceToNat, reduceCtorEq, eq_self]
          exact ⟨hi2, by simp only [Pool.v, Ring.v]; exact hq⟩
      · simp only [c1, ↓stepR, normR, Int.cast_ofNat_Int, Int.natCast_nonneg, Int.toNat_natCast, Nat.reduceMod, Nat.reduceDiv, Nat.reducePow, Nat.testBit_eq_decide_div_mod_eq, ↓reduceIte, Nat.reduceEqDiff, Nat.reduceAdd, Nat.reduceSub, Nat.reduceMul, Nat.reduceLT, Nat.reduceLeDiff, Int.reduceEq, Int.reduceLT, Int.reduceLE, Int.reduceAdd, Int.reduceSub, Int.reduceMul, Int.reduceNeg, Int.reduceToNat, reduceCtorEq, eq_self]
    · simp only [hR, n2, objK_of hp5, dcall_key9, Slot.sh, Slot.nt, Key.sh, Key.nt, Ring.sh, Ring.nt, Pool.sh, Pool.nt, Entry.sh, Entry.nt, ↓stepR, normR, Int.cast_ofNat_Int, Int.natCast_nonneg, Int.toNat_natCast, Nat.reduceMod, Nat.reduceDiv, Nat.reducePow, Nat.testBit_eq_decide_div_mod_eq, ↓reduceIte, Nat.reduceEqDiff, Nat.reduceAdd, Nat.reduceSub, Nat.reduceMul, Nat.reduceLT, Nat.reduceLeDiff, Int.reduceEq, Int.reduceLT, Int.reduceLE, Int.reduceAdd, Int.reduceSub, Int.reduceMul, Int.reduceNeg, Int.reduceToNat, reduceCtorEq, eq_self]
      refine callD_rotate10F p hlen (keyS kz) _ _ (fun w k1 f1 q1 => ?_)
      have hk1 := q1.2 h1.n _ hp5
      have m1 := f1.r.nt
      simp only [m1, hp5, hk1, osame_self, true_or, Slot.sh, Slot.nt, Key.sh, Key.nt, Ring.sh, Ring.nt, Pool.sh, Pool.nt, Entry.sh, Entry.nt, ↓stepR, normR, Int.cast_ofNat_Int, Int.natCast_nonneg, Int.toNat_natCast, Nat.reduceMod, Nat.reduceDiv, Nat.reducePow, Nat.testBit_eq_decide_div_mod_eq, ↓reduceIte, Nat.reduceEqDiff, Nat.reduceAdd, Nat.reduceSub, Nat.reduceMul, Nat.reduceLT, Nat.reduceLeDiff, Int.reduceEq, Int.reduceLT, Int.reduceLE, Int.reduceAdd, Int.reduceSub, Int.reduceMul, Int.reduceNeg, Int.reduceToNat, reduceCtorEq, eq_self]
      obtain ⟨Q, nn, ha, hn1, hQl, hQr, hQat⟩ := rotate_done hlen (keyS kz)
      refine callD_all15 p hlen w _ (rotateS_len ..) _ f1.r _ (fun k2 q2 => ?_)
      rw [ha]
      have hk2 := q2.2 _ _ hk1
      have nk : ¬ h1.n = k2.n := by have := H.lt_of hk2; omega
      have nn1 : ¬ (nn : Int) < 1 := by omega
      have hnext : Q.ring.next = keyS kz := by rw [hQr]; rfl
      have hep : Q.ring.epoch = IntKind.i64.wrap (p.ring.epoch + 1) := by rw [hQr]; rfl
      simp only [m1, hp5, hk1, hk2, objK_of hk2, nk, nn1, osame_self, true_or, dcall_key9, zpool1, zpool2, Bool.and_true, Pool.v, Ring.v, hnext, hep, Key.veq, Slot.sh, Slot.nt, Key.sh, Key.nt, Ring.sh, Ring.nt, Pool.sh, Pool.nt, Entry.sh, Entry.nt, ↓stepR, normR, Int.cast_ofNat_Int, Int.natCast_nonneg, Int.toNat_natCast, Nat.reduceMod, Nat.reduceDiv, Nat.reducePow, Nat.testBit_eq_decide_div_mod_eq, ↓reduceIte, Nat.reduceEqDiff, Nat.reduceAdd, Nat.reduceSub, Nat.reduceMul, Nat.reduceLT, Nat.reduceLeDiff, Int.reduceEq, Int.reduceLT, Int.reduceLE, Int.reduceAdd, Int.reduceSub, Int.reduceMul, Int.reduceNeg, Int.reduceToNat, reduceCtorEq, eq_self]
      refine W_up 64 (fun i e hh => e = [(24, .ptr k2.n 0 [] 15), (27, .i .i64 i)] ∧ hh.get k2.n = some (.cells Q.v false false)) ?_ 0 (by omega) _ _ ⟨rfl, by first | exact H.get_pushset _ _ _ | exact H.get_pushset k2 _ (.cells Q.v false false) | (have := H.get_pushset k2 (.cells pool0.v false false) (.cells Q.v false false); simp only [Pool.v, Ring.v, hnext, hep] at this ⊢; exact this)⟩
      rintro i e hh hi ⟨rfl, hq⟩
      simp only [Pool.v, Ring.v] at hq
      by_cases c1 : (i : Int) < 64
      · have hi' : i < Q.slots.length := by omega
        have hi2 : i < 64 := by omega
        have hw := @wrap_up i (by omega)
        have hat : (Q.slots[i]) = Q.at i := (at_some (by omega)).symm
        have hQi := hQat i hi2
        by_cases d1 : (Q.at i).state = 4
        · have d2 : ¬ IntKind.i64.wrap ((Q.at i).since + 3) ≤ Q.ring.epoch := by
            intro d2
            rw [hep] at d2
            by_cases gn : goneS p (p.at i) = true
            · rw [if_pos gn] at hQi; rw [hQi] at d1; exact absurd d1 (by decide)
            · rw [if_neg gn] at hQi
              rw [hQi] at d1 d2
              exact gn (by simp only [goneS, decide_eq_true_eq]; exact ⟨d1, d2⟩)
          simp only [c1, nthK_map _ _ _ _ hi', Slot.v, hat, d1, d2, objK_of hq, hw, ↓stepR, normR, Int.cast_ofNat_Int, Int.natCast_nonneg, Int.toNat_natCast, Nat.reduceMod, Nat.reduceDiv, Nat.reducePow, Nat.testBit_eq_decide_div_mod_eq, ↓reduceIte, Nat.reduceEqDiff, Nat.reduceAdd, Nat.reduceSub, Nat.reduceMul, Nat.reduceLT, Nat.reduceLeDiff, Int.reduceEq, Int.reduceLT, Int.reduceLE, Int.reduceAdd, Int.reduceSub, Int.reduceMul, Int.reduceNeg, Int.reduceToNat, reduceCtorEq, eq_self]
          exact ⟨hi2, by simp only [Pool.v, Ring.v]; exact hq⟩
        · simp only [c1, nthK_map _ _ _ _ hi', Slot.v, hat, d1, objK_of hq, hw, ↓stepR, normR, Int.cast_ofNat_Int, Int.natCast_nonneg, Int.toNat_natCast, Nat.reduceMod, Nat.reduceDiv, Nat.reducePow, Nat.testBit_eq_decide_div_mod_eq, ↓reduceIte, Nat.reduceEqDiff, Nat.reduceAdd, Nat.reduceSub, Nat.reduceMul, Nat.reduceLT, Nat.reduceLeDiff, Int.reduceEq, Int.reduceLT, Int.reduceLE, Int.reduceAdd, Int.reduceSub, Int.reduceMul, Int.reduceNeg, Int.reduceToNat, reduceCtorEq, eq_self]
          exact ⟨hi2, by simp only [Pool.v, Ring.v]; exact hq⟩
      · simp only [c1, ↓stepR, normR, Int.cast_ofNat_Int, Int.natCast_nonneg, Int.toNat_natCast, Nat.reduceMod, Nat.reduceDiv, Nat.reducePow, Nat.testBit_eq_decide_div_mod_eq, ↓reduceIte, Nat.reduceEqDiff, Nat.reduceAdd, Nat.reduceSub, Nat.reduceMul, Nat.reduceLT, Nat.reduceLeDiff, Int.reduceEq, Int.reduceLT, Int.reduceLE, Int.reduceAdd, Int.reduceSub, Int.reduceMul, Int.reduceNeg, Int.reduceToNat, reduceCtorEq, eq_self]
end Go.Rae.Order
