/- OrderOwn: a pool is not changed; what was told may be. -/
import Derived.Test.YtannfoaobeoafaaDoorOrdDone
set_option linter.unusedVariables false
set_option linter.unusedSimpArgs false
namespace Go.Rae.Order
set_option maxRecDepth 100000
set_option maxHeartbeats 4000000

theorem boxesOwn (h : H) (a b c d : Obj) : ((((h.push a).push b).set h.n c).set (h.n + 1) d).get h.n = some c ∧ ((((h.push a).push b).set h.n c).set (h.n + 1) d).get (h.n + 1) = some d := by
  constructor
  · simp only [↓stepR, normR, Int.cast_ofNat_Int, Int.natCast_nonneg, Int.toNat_natCast, Nat.reduceMod, Nat.reduceDiv, Nat.reducePow, Nat.testBit_eq_decide_div_mod_eq, ↓reduceIte, Nat.reduceEqDiff, Nat.reduceAdd, Nat.reduceSub, Nat.reduceMul, Nat.reduceLT, Nat.reduceLeDiff, Int.reduceEq, Int.reduceLT, Int.reduceLE, Int.reduceAdd, Int.reduceSub, Int.reduceMul, Int.reduceNeg, Int.reduceToNat, reduceCtorEq, eq_self]
  · simp only [↓stepR, normR, Int.cast_ofNat_Int, Int.natCast_nonneg, Int.toNat_natCast, Nat.reduceMod, Nat.reduceDiv, Nat.reducePow, Nat.testBit_eq_decide_div_mod_eq, ↓reduceIte, Nat.reduceEqDiff, Nat.reduceAdd, Nat.reduceSub, Nat.reduceMul, Nat.reduceLT, Nat.reduceLeDiff, Int.reduceEq, Int.reduceLT, Int.reduceLE, Int.reduceAdd, Int.reduceSub, Int.reduceMul, Int.reduceNeg, Int.reduceToNat, reduceCtorEq, eq_self]

theorem law_own (v : V) (ns : List Int) (addr port kz : Int) (h : H) (hv : IntsAt h v ns) : Runs CL 32 [v, .i .i64 addr, .i .i64 port, .i .i64 kz] h fun u _ => u = .b true := by
  have hlen := makeS_slots ns 40
  have hst := makeS_st ns 40
  refine run (fn := F32) rfl rfl ?_
  unfold F32
  have hnt : v.isTup = false := by rcases hv with ⟨rfl, _⟩ | ⟨_, rfl, _⟩ <;> rfl
  simp only [call_known, hnt, ↓stepR, normR, Int.cast_ofNat_Int, Int.natCast_nonneg, Int.toNat_natCast, Nat.reduceMod, Nat.reduceDiv, Nat.reducePow, Nat.testBit_eq_decide_div_mod_eq, ↓reduceIte, Nat.reduceEqDiff, Nat.reduceAdd, Nat.reduceSub, Nat.reduceMul, Nat.reduceLT, Nat.reduceLeDiff, Int.reduceEq, Int.reduceLT, Int.reduceLE, Int.reduceAdd, Int.reduceSub, Int.reduceMul, Int.reduceNeg, Int.reduceToNat, reduceCtorEq, eq_self]
  refine call_make v ns 40 (by omega) h hv _ (fun h1 g1 => ?_)
  simp only [hnt, Slot.sh, Slot.nt, Key.sh, Key.nt, Ring.sh, Ring.nt, Pool.sh, Pool.nt, Entry.sh, Entry.nt, ↓stepR, normR, Int.cast_ofNat_Int, Int.natCast_nonneg, Int.toNat_natCast, Nat.reduceMod, Nat.reduceDiv, Nat.reducePow, Nat.testBit_eq_decide_div_mod_eq, ↓reduceIte, Nat.reduceEqDiff, Nat.reduceAdd, Nat.reduceSub, Nat.reduceMul, Nat.reduceLT, Nat.reduceLeDiff, Int.reduceEq, Int.reduceLT, Int.reduceLE, Int.reduceAdd, Int.reduceSub, Int.reduceMul, Int.reduceNeg, Int.reduceToNat, reduceCtorEq, eq_self]
  refine call_make v ns 40 (by omega) h1 (hv.grow g1) _ (fun h2 g2 => ?_)
  generalize hp : makeS ns 40 = p at *
  have w6 := call_within3 addr 6 (by decide) (by decide)
  have w4 := call_within3 port 4 (by decide) (by decide)
  simp only [Slot.sh, Slot.nt, Key.sh, Key.nt, Ring.sh, Ring.nt, Pool.sh, Pool.nt, Entry.sh, Entry.nt, w6, w4, ↓stepR, normR, Int.cast_ofNat_Int, Int.natCast_nonneg, Int.toNat_natCast, Nat.reduceMod, Nat.reduceDiv, Nat.reducePow, Nat.testBit_eq_decide_div_mod_eq, ↓reduceIte, Nat.reduceEqDiff, Nat.reduceAdd, Nat.reduceSub, Nat.reduceMul, Nat.reduceLT, Nat.reduceLeDiff, Int.reduceEq, Int.reduceLT, Int.reduceLE, Int.reduceAdd, Int.reduceSub, Int.reduceMul, Int.reduceNeg, Int.reduceToNat, reduceCtorEq, eq_self]
  obtain ⟨g0, g0'⟩ := boxesOwn h2 (.cells (V.agg 15 [.i .i64 0, .i .i64 0, .i .i64 0, .agg 12 (List.replicate 64 (.agg 11 [.i .i64 0, .i .i64 0, .i .i64 0, .i .i64 0, .i .i64 0])), .agg 14 [.i .i64 0, .agg 13 [.i .u64 0, .i .u64 0], .agg 13 [.i .u64 0, .i .u64 0], .agg 13 [.i .u64 0, .i .u64 0]]]) false false) (.cells (V.agg 15 [.i .i64 0, .i .i64 0, .i .i64 0, .agg 12 (List.replicate 64 (.agg 11 [.i .i64 0, .i .i64 0, .i .i64 0, .i .i64 0, .i .i64 0])), .agg 14 [.i .i64 0, .agg 13 [.i .u64 0, .i .u64 0], .agg 13 [.i .u64 0, .i .u64 0], .agg 13 [.i .u64 0, .i .u64 0]]]) false false) (.cells p.v false false) (.cells p.v false false)
  generalize addr % 6 = x at *
  generalize port % 4 = y at *
  generalize H.set _ (h2.n + 1) _ = g at *
  refine callK_add4 p hlen _ _ _ _ _ (fun u1 h3 e1 G3 => ?_)
  have n1 := e1.r.nt
  have l1 := e1.r.len
  have hes := addS_len p x y 1
  generalize (addS p x y 1).1 = es at e1 l1 hes
  simp only [n1, Slot.sh, Slot.nt, Key.sh, Key.nt, Ring.sh, Ring.nt, Pool.sh, Pool.nt, Entry.sh, Entry.nt, ↓stepR, normR, Int.cast_ofNat_Int, Int.natCast_nonneg, Int.toNat_natCast, Nat.reduceMod, Nat.reduceDiv, Nat.reducePow, Nat.testBit_eq_decide_div_mod_eq, ↓reduceIte, Nat.reduceEqDiff, Nat.reduceAdd, Nat.reduceSub, Nat.reduceMul, Nat.reduceLT, Nat.reduceLeDiff, Int.reduceEq, Int.reduceLT, Int.reduceLE, Int.reduceAdd, Int.reduceSub, Int.reduceMul, Int.reduceNeg, Int.reduceToNat, reduceCtorEq, eq_self]
  refine W_up es.length (fun i e hh => e = [(3, .i .i64 kz), (9, .ptr h2.n 0 [] 15), (10, .ptr (h2.n + 1) 0 [] 15), (11, .i .i64 x), (12, .i .i64 y), (13, u1), (15, .i .i64 i)] ∧ Grow g hh ∧ ∃ fs : List Entry, fs.length = es.length ∧ EntsF g.n hh u1 fs) ?_ 0 (by omega) _ _ ?_
  · rintro i e hh hi ⟨rfl, hG, fs, hfl, hf⟩
    have l1 := hf.r.len
    by_cases c1 : i < fs.length
    · have c1' : (i : Int) < (fs.length : Int) := by omega
      rcases hf with ⟨_, hf0⟩ | ⟨id, st, cap, q, hid, rfl, hb, hs⟩
      · subst hf0; simp at c1
      · have hw := @wrap_up i (by omega)
        have hst' : stampOf (.cells (.agg 17 (fs.map Entry.v)) q false) = st := by
          subst hs; cases q
          · exact stampOf_false _ _
          · rw [stampOf_true]; simp
        have he : (List.map Entry.v fs).set i (.agg 16 [.i .i64 fs[i].kind, .i .i64 99, .i .i64 fs[i].addr, .i .i64 fs[i].port, .i .i64 fs[i].weight, fs[i].key.v]) = (fs.set i { fs[i] with slot := 99 }).map Entry.v := by rw [List.map_set]; rfl
        simp only [n1, l1, c1', objK_of hb, nthK_map _ _ _ _ c1, hw, hst', Entry.v, he, ↓stepR, normR, Int.cast_ofNat_Int, Int.natCast_nonneg, Int.toNat_natCast, Nat.reduceMod, Nat.reduceDiv, Nat.reducePow, Nat.testBit_eq_decide_div_mod_eq, ↓reduceIte, Nat.reduceEqDiff, Nat.reduceAdd, Nat.reduceSub, Nat.reduceMul, Nat.reduceLT, Nat.reduceLeDiff, Int.reduceEq, Int.reduceLT, Int.reduceLE, Int.reduceAdd, Int.reduceSub, Int.reduceMul, Int.reduceNeg, Int.reduceToNat, reduceCtorEq, eq_self]
        refine ⟨by omega, hG.set hid (H.has_of hb) _, fs.set i { fs[i] with slot := 99 }, by rw [List.length_set, hfl], .inr ⟨id, st, cap, q, hid, by rw [List.length_set], ?_, by rw [List.length_set]; exact hs⟩⟩
        rw [H.get_set2 _ _ _ _ (H.has_of hb), if_pos rfl, ← he]
    · have c1' : ¬ (i : Int) < (fs.length : Int) := by omega
      have n1 := hf.r.nt
      have hp3 := hG.2 _ _ g0
      have hp3' := hG.2 _ _ g0'
      simp only [n1, l1, c1', objK_of hp3, objK_of hp3', dcall_key9, Slot.sh, Slot.nt, Key.sh, Key.nt, Ring.sh, Ring.nt, Pool.sh, Pool.nt, Entry.sh, Entry.nt, ↓stepR, normR, Int.cast_ofNat_Int, Int.natCast_nonneg, Int.toNat_natCast, Nat.reduceMod, Nat.reduceDiv, Nat.reducePow, Nat.testBit_eq_decide_div_mod_eq, ↓reduceIte, Nat.reduceEqDiff, Nat.reduceAdd, Nat.reduceSub, Nat.reduceMul, Nat.reduceLT, Nat.reduceLeDiff, Int.reduceEq, Int.reduceLT, Int.reduceLE, Int.reduceAdd, Int.reduceSub, Int.reduceMul, Int.reduceNeg, Int.reduceToNat, reduceCtorEq, eq_self]
      refine callD_rotate10F p hlen (keyS kz) _ _ (fun w k1 f1 q1 => ?_)
      have hk1 := q1.2 _ _ hp3
      have hk1' := q1.2 _ _ hp3'
      have m1 := f1.r.nt
      have lr := rotateS_len p (keyS kz)
      generalize rotateS p (keyS kz) = rs at f1 lr
      simp only [m1, hp3, hk1, osame_self, true_or, Slot.sh, Slot.nt, Key.sh, Key.nt, Ring.sh, Ring.nt, Pool.sh, Pool.nt, Entry.sh, Entry.nt, ↓stepR, normR, Int.cast_ofNat_Int, Int.natCast_nonneg, Int.toNat_natCast, Nat.reduceMod, Nat.reduceDiv, Nat.reducePow, Nat.testBit_eq_decide_div_mod_eq, ↓reduceIte, Nat.reduceEqDiff, Nat.reduceAdd, Nat.reduceSub, Nat.reduceMul, Nat.reduceLT, Nat.reduceLeDiff, Int.reduceEq, Int.reduceLT, Int.reduceLE, Int.reduceAdd, Int.reduceSub, Int.reduceMul, Int.reduceNeg, Int.reduceToNat, reduceCtorEq, eq_self]
      refine W_up rs.length (fun i e k => e = [(3, .i .i64 kz), (9, .ptr h2.n 0 [] 15), (10, .ptr (h2.n + 1) 0 [] 15), (11, .i .i64 x), (12, .i .i64 y), (16, w), (17, .i .i64 i)] ∧ Grow hh k ∧ ∃ fs : List Entry, fs.length = rs.length ∧ EntsF hh.n k w fs) ?_ 0 (by omega) _ _ ?_
      · rintro i e k hi ⟨rfl, hG', fs, hfl, hf⟩
        have l1 := hf.r.len
        by_cases c1 : i < fs.length
        · have c1' : (i : Int) < (fs.length : Int) := by omega
          rcases hf with ⟨_, hf0⟩ | ⟨id, st, cap, q, hid, rfl, hb, hs⟩
          · subst hf0; simp at c1
          · have hw := @wrap_up i (by omega)
            have hst' : stampOf (.cells (.agg 17 (fs.map Entry.v)) q false) = st := by
              subst hs; cases q
              · exact stampOf_false _ _
              · rw [stampOf_true]; simp
            have he : (List.map Entry.v fs).set i (.agg 16 [.i .i64 99, .i .i64 fs[i].slot, .i .i64 fs[i].addr, .i .i64 fs[i].port, .i .i64 fs[i].weight, fs[i].key.v]) = (fs.set i { fs[i] with kind := 99 }).map Entry.v := by rw [List.map_set]; rfl
            simp only [m1, l1, c1', objK_of hb, nthK_map _ _ _ _ c1, hw, hst', Entry.v, he, ↓stepR, normR, Int.cast_ofNat_Int, Int.natCast_nonneg, Int.toNat_natCast, Nat.reduceMod, Nat.reduceDiv, Nat.reducePow, Nat.testBit_eq_decide_div_mod_eq, ↓reduceIte, Nat.reduceEqDiff, Nat.reduceAdd, Nat.reduceSub, Nat.reduceMul, Nat.reduceLT, Nat.reduceLeDiff, Int.reduceEq, Int.reduceLT, Int.reduceLE, Int.reduceAdd, Int.reduceSub, Int.reduceMul, Int.reduceNeg, Int.reduceToNat, reduceCtorEq, eq_self]
            refine ⟨by omega, hG'.set hid (H.has_of hb) _, fs.set i { fs[i] with kind := 99 }, by rw [List.length_set, hfl], .inr ⟨id, st, cap, q, hid, by rw [List.length_set], ?_, by rw [List.length_set]; exact hs⟩⟩
            rw [H.get_set2 _ _ _ _ (H.has_of hb), if_pos rfl, ← he]
        · have c1' : ¬ (i : Int) < (fs.length : Int) := by omega
          have m1 := hf.r.nt
          have hp4 := hG'.2 _ _ hp3
          have hp4' := hG'.2 _ _ hp3'
          simp only [m1, l1, c1', objK_of hp4, objK_of hp4', Slot.sh, Slot.nt, Key.sh, Key.nt, Ring.sh, Ring.nt, Pool.sh, Pool.nt, Entry.sh, Entry.nt, ↓stepR, normR, Int.cast_ofNat_Int, Int.natCast_nonneg, Int.toNat_natCast, Nat.reduceMod, Nat.reduceDiv, Nat.reducePow, Nat.testBit_eq_decide_div_mod_eq, ↓reduceIte, Nat.reduceEqDiff, Nat.reduceAdd, Nat.reduceSub, Nat.reduceMul, Nat.reduceLT, Nat.reduceLeDiff, Int.reduceEq, Int.reduceLT, Int.reduceLE, Int.reduceAdd, Int.reduceSub, Int.reduceMul, Int.reduceNeg, Int.reduceToNat, reduceCtorEq, eq_self]
          refine callK_add4 p hlen _ _ _ _ _ (fun u2 k2 e2 q2 => ?_)
          have hp5 := q2.2 _ _ hp4
          have hp5' := q2.2 _ _ hp4'
          have n2 := e2.r.nt
          simp only [n2, objK_of hp5, objK_of hp5', Slot.sh, Slot.nt, Key.sh, Key.nt, Ring.sh, Ring.nt, Pool.sh, Pool.nt, Entry.sh, Entry.nt, ↓stepR, normR, Int.cast_ofNat_Int, Int.natCast_nonneg, Int.toNat_natCast, Nat.reduceMod, Nat.reduceDiv, Nat.reducePow, Nat.testBit_eq_decide_div_mod_eq, ↓reduceIte, Nat.reduceEqDiff, Nat.reduceAdd, Nat.reduceSub, Nat.reduceMul, Nat.reduceLT, Nat.reduceLeDiff, Int.reduceEq, Int.reduceLT, Int.reduceLE, Int.reduceAdd, Int.reduceSub, Int.reduceMul, Int.reduceNeg, Int.reduceToNat, reduceCtorEq, eq_self]
          refine callK_add5 p hlen _ _ _ _ _ (fun u3 k3 e3 q3 => ?_)
          have hp6 := q3.2 _ _ hp5
          have hp6' := q3.2 _ _ hp5'
          have n3 := e3.r.nt
          simp only [n2, n3, objK_of hp6, objK_of hp6', Pool.veq, hp6, hp6', dcall_key9, Slot.sh, Slot.nt, Key.sh, Key.nt, Ring.sh, Ring.nt, Pool.sh, Pool.nt, Entry.sh, Entry.nt, ↓stepR, normR, Int.cast_ofNat_Int, Int.natCast_nonneg, Int.toNat_natCast, Nat.reduceMod, Nat.reduceDiv, Nat.reducePow, Nat.testBit_eq_decide_div_mod_eq, ↓reduceIte, Nat.reduceEqDiff, Nat.reduceAdd, Nat.reduceSub, Nat.reduceMul, Nat.reduceLT, Nat.reduceLeDiff, Int.reduceEq, Int.reduceLT, Int.reduceLE, Int.reduceAdd, Int.reduceSub, Int.reduceMul, Int.reduceNeg, Int.reduceToNat, reduceCtorEq, eq_self]
          refine callD_same8 u2 u3 _ _ k3 (e2.r.grow q3) e3.r (addS_len ..) _ (fun k4 q4 => ?_)
          have hp7 := q4.2 _ _ hp6
          have hp7' := q4.2 _ _ hp6'
          simp only [n2, n3, objK_of hp7, objK_of hp7', hp6, hp6', hp7, hp7', osame_self, true_or, dcall_key9, Slot.sh, Slot.nt, Key.sh, Key.nt, Ring.sh, Ring.nt, Pool.sh, Pool.nt, Entry.sh, Entry.nt, ↓stepR, normR, Int.cast_ofNat_Int, Int.natCast_nonneg, Int.toNat_natCast, Nat.reduceMod, Nat.reduceDiv, Nat.reducePow, Nat.testBit_eq_decide_div_mod_eq, ↓reduceIte, Nat.reduceEqDiff, Nat.reduceAdd, Nat.reduceSub, Nat.reduceMul, Nat.reduceLT, Nat.reduceLeDiff, Int.reduceEq, Int.reduceLT, Int.reduceLE, Int.reduceAdd, Int.reduceSub, Int.reduceMul, Int.reduceNeg, Int.reduceToNat, reduceCtorEq, eq_self]
          refine callD_rotate10F p hlen (keyS kz) _ _ (fun r1 k5 f5 q5 => ?_)
          have hp8 := q5.2 _ _ hp7
          have hp8' := q5.2 _ _ hp7'
          have m5 := f5.r.nt
          simp only [n2, n3, m5, objK_of hp8, objK_of hp8', hp6, hp6', hp7, hp7', hp8, hp8', osame_self, true_or, dcall_key9, Slot.sh, Slot.nt, Key.sh, Key.nt, Ring.sh, Ring.nt, Pool.sh, Pool.nt, Entry.sh, Entry.nt, ↓stepR, normR, Int.cast_ofNat_Int, Int.natCast_nonneg, Int.toNat_natCast, Nat.reduceMod, Nat.reduceDiv, Nat.reducePow, Nat.testBit_eq_decide_div_mod_eq, ↓reduceIte, Nat.reduceEqDiff, Nat.reduceAdd, Nat.reduceSub, Nat.reduceMul, Nat.reduceLT, Nat.reduceLeDiff, Int.reduceEq, Int.reduceLT, Int.reduceLE, Int.reduceAdd, Int.reduceSub, Int.reduceMul, Int.reduceNeg, Int.reduceToNat, reduceCtorEq, eq_self]
          refine callD_rotate11 p hlen _ (keyS kz) _ (fun r2 k6 f6 q6 => ?_)
          have hp9 := q6.2 _ _ hp8
          have hp9' := q6.2 _ _ hp8'
          have m6 := f6.r.nt
          simp only [n2, n3, m5, m6, objK_of hp9, objK_of hp9', hp6, hp6', hp7, hp7', hp8, hp8', hp9, hp9', osame_self, true_or, dcall_key9, Slot.sh, Slot.nt, Key.sh, Key.nt, Ring.sh, Ring.nt, Pool.sh, Pool.nt, Entry.sh, Entry.nt, ↓stepR, normR, Int.cast_ofNat_Int, Int.natCast_nonneg, Int.toNat_natCast, Nat.reduceMod, Nat.reduceDiv, Nat.reducePow, Nat.testBit_eq_decide_div_mod_eq, ↓reduceIte, Nat.reduceEqDiff, Nat.reduceAdd, Nat.reduceSub, Nat.reduceMul, Nat.reduceLT, Nat.reduceLeDiff, Int.reduceEq, Int.reduceLT, Int.reduceLE, Int.reduceAdd, Int.reduceSub, Int.reduceMul, Int.reduceNeg, Int.reduceToNat, reduceCtorEq, eq_self]
          refine callD_same8 r1 r2 _ _ k6 (f5.r.grow q6) f6.r (rotateS_len ..) _ (fun k7 q7 => ?_)
          have hp10 := q7.2 _ _ hp9
          have hp10' := q7.2 _ _ hp9'
          simp only [n2, n3, m5, m6, hp6, hp6', hp7, hp7', hp8, hp8', hp9, hp9', hp10, hp10', osame_self, true_or, dcall_key9, Slot.sh, Slot.nt, Key.sh, Key.nt, Ring.sh, Ring.nt, Pool.sh, Pool.nt, Entry.sh, Entry.nt, ↓stepR, normR, Int.cast_ofNat_Int, Int.natCast_nonneg, Int.toNat_natCast, Nat.reduceMod, Nat.reduceDiv, Nat.reducePow, Nat.testBit_eq_decide_div_mod_eq, ↓reduceIte, Nat.reduceEqDiff, Nat.reduceAdd, Nat.reduceSub, Nat.reduceMul, Nat.reduceLT, Nat.reduceLeDiff, Int.reduceEq, Int.reduceLT, Int.reduceLE, Int.reduceAdd, Int.reduceSub, Int.reduceMul, Int.reduceNeg, Int.reduceToNat, reduceCtorEq, eq_self]
          done
      · exact ⟨rfl, q1, rs, rfl, f1⟩
  · exact ⟨rfl, G3, es, rfl, e1⟩
end Go.Rae.Order
