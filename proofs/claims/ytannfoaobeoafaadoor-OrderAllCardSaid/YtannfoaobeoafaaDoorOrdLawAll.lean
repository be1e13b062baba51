/- OrderAll: what is wished becomes the document's entries. -/
import Derived.Test.YtannfoaobeoafaaDoorOrdCalls
set_option linter.unusedVariables false
set_option linter.unusedSimpArgs false
namespace Go.Rae.Order
set_option maxRecDepth 100000
set_option maxHeartbeats 4000000

theorem law_all (v : V) (ns : List Int) (addr port weight a b c kz slot vd : Int) (h : H) (hv : IntsAt h v ns) (hsl : IntKind.i64.wrap slot = slot) : Runs CL 0 [v, .i .i64 addr, .i .i64 port, .i .i64 weight, .i .i64 a, .i .i64 b, .i .i64 c, .i .i64 kz, .i .i64 slot, .i .i64 vd] h fun u _ => u = .b true := by
  have hlen := makeS_slots ns 60
  have hst := makeS_st ns 60
  refine run (fn := F0) rfl rfl ?_
  unfold F0
  have hnt : v.isTup = false := by rcases hv with ⟨rfl, _⟩ | ⟨_, rfl, _⟩ <;> rfl
  simp only [call_known, hnt, ↓stepR, normR, Int.cast_ofNat_Int, Int.natCast_nonneg, Int.toNat_natCast, Nat.reduceMod, Nat.reduceDiv, Nat.reducePow, Nat.testBit_eq_decide_div_mod_eq, ↓reduceIte, Nat.reduceEqDiff, Nat.reduceAdd, Nat.reduceSub, Nat.reduceMul, Nat.reduceLT, Nat.reduceLeDiff, Int.reduceEq, Int.reduceLT, Int.reduceLE, Int.reduceAdd, Int.reduceSub, Int.reduceMul, Int.reduceNeg, Int.reduceToNat, reduceCtorEq, eq_self]
  refine call_make v ns 60 (by omega) h hv _ (fun h1 g1 => ?_)
  generalize hp : makeS ns 60 = p at *
  have w6 := call_within3 addr 6 (by decide) (by decide)
  have w4 := call_within3 port 4 (by decide) (by decide)
  have w8 := call_within3 weight 8 (by decide) (by decide)
  have w9 := call_within3 addr 9 (by decide) (by decide)
  have w66 := call_within3 slot 66 (by decide) (by decide)
  have w4v := dcall_within3 vd 4 (by decide) (by decide)
  have hpo := H.get_pushset h1 (.cells (V.agg 15 [.i .i64 0, .i .i64 0, .i .i64 0, .agg 12 (List.replicate 64 (.agg 11 [.i .i64 0, .i .i64 0, .i .i64 0, .i .i64 0, .i .i64 0])), .agg 14 [.i .i64 0, .agg 13 [.i .u64 0, .i .u64 0], .agg 13 [.i .u64 0, .i .u64 0], .agg 13 [.i .u64 0, .i .u64 0]]]) false false) (.cells p.v false false)
  by_cases c9 : addr % 9 = 0
  · simp only [Slot.sh, Slot.nt, Key.sh, Key.nt, Ring.sh, Ring.nt, Pool.sh, Pool.nt, Entry.sh, Entry.nt, w6, w4, w8, w9, c9, ↓stepR, normR, Int.cast_ofNat_Int, Int.natCast_nonneg, Int.toNat_natCast, Nat.reduceMod, Nat.reduceDiv, Nat.reducePow, Nat.testBit_eq_decide_div_mod_eq, ↓reduceIte, Nat.reduceEqDiff, Nat.reduceAdd, Nat.reduceSub, Nat.reduceMul, Nat.reduceLT, Nat.reduceLeDiff, Int.reduceEq, Int.reduceLT, Int.reduceLE, Int.reduceAdd, Int.reduceSub, Int.reduceMul, Int.reduceNeg, Int.reduceToNat, reduceCtorEq, eq_self]
    generalize H.set _ h1.n _ = g at *
    refine callK_add4 p hlen _ _ _ _ _ (fun u1 h2 e1 g2 => ?_)
    have hp2 := g2.2 _ _ hpo
    have n1 := e1.r.nt
    simp only [objK_of hp2, n1, Slot.sh, Slot.nt, Key.sh, Key.nt, Ring.sh, Ring.nt, Pool.sh, Pool.nt, Entry.sh, Entry.nt, ↓stepR, normR, Int.cast_ofNat_Int, Int.natCast_nonneg, Int.toNat_natCast, Nat.reduceMod, Nat.reduceDiv, Nat.reducePow, Nat.testBit_eq_decide_div_mod_eq, ↓reduceIte, Nat.reduceEqDiff, Nat.reduceAdd, Nat.reduceSub, Nat.reduceMul, Nat.reduceLT, Nat.reduceLeDiff, Int.reduceEq, Int.reduceLT, Int.reduceLE, Int.reduceAdd, Int.reduceSub, Int.reduceMul, Int.reduceNeg, Int.reduceToNat, reduceCtorEq, eq_self]
    refine callK_add5 p hlen _ _ _ _ _ (fun u2 h3 e2 g3 => ?_)
    have hp3 := g3.2 _ _ hp2
    have n2 := e2.r.nt
    simp only [objK_of hp3, n1, n2, Slot.sh, Slot.nt, Key.sh, Key.nt, Ring.sh, Ring.nt, Pool.sh, Pool.nt, Entry.sh, Entry.nt, ↓stepR, normR, Int.cast_ofNat_Int, Int.natCast_nonneg, Int.toNat_natCast, Nat.reduceMod, Nat.reduceDiv, Nat.reducePow, Nat.testBit_eq_decide_div_mod_eq, ↓reduceIte, Nat.reduceEqDiff, Nat.reduceAdd, Nat.reduceSub, Nat.reduceMul, Nat.reduceLT, Nat.reduceLeDiff, Int.reduceEq, Int.reduceLT, Int.reduceLE, Int.reduceAdd, Int.reduceSub, Int.reduceMul, Int.reduceNeg, Int.reduceToNat, reduceCtorEq, eq_self]
    refine callK_add4 p hlen _ _ _ _ _ (fun u3 h4 e3 g4 => ?_)
    have hp4 := g4.2 _ _ hp3
    have n3 := e3.r.nt
    simp only [objK_of hp4, n1, n2, n3, Slot.sh, Slot.nt, Key.sh, Key.nt, Ring.sh, Ring.nt, Pool.sh, Pool.nt, Entry.sh, Entry.nt, ↓stepR, normR, Int.cast_ofNat_Int, Int.natCast_nonneg, Int.toNat_natCast, Nat.reduceMod, Nat.reduceDiv, Nat.reducePow, Nat.testBit_eq_decide_div_mod_eq, ↓reduceIte, Nat.reduceEqDiff, Nat.reduceAdd, Nat.reduceSub, Nat.reduceMul, Nat.reduceLT, Nat.reduceLeDiff, Int.reduceEq, Int.reduceLT, Int.reduceLE, Int.reduceAdd, Int.reduceSub, Int.reduceMul, Int.reduceNeg, Int.reduceToNat, reduceCtorEq, eq_self]
    refine callK_add5 p hlen _ _ _ _ _ (fun u4 h5 e4 g5 => ?_)
    have hp5 := g5.2 _ _ hp4
    have n4 := e4.r.nt
    simp only [objK_of hp5, n1, n2, n3, n4, Slot.sh, Slot.nt, Key.sh, Key.nt, Ring.sh, Ring.nt, Pool.sh, Pool.nt, Entry.sh, Entry.nt, ↓stepR, normR, Int.cast_ofNat_Int, Int.natCast_nonneg, Int.toNat_natCast, Nat.reduceMod, Nat.reduceDiv, Nat.reducePow, Nat.testBit_eq_decide_div_mod_eq, ↓reduceIte, Nat.reduceEqDiff, Nat.reduceAdd, Nat.reduceSub, Nat.reduceMul, Nat.reduceLT, Nat.reduceLeDiff, Int.reduceEq, Int.reduceLT, Int.reduceLE, Int.reduceAdd, Int.reduceSub, Int.reduceMul, Int.reduceNeg, Int.reduceToNat, reduceCtorEq, eq_self]
    refine callK_remove6 p hlen _ _ _ _ hst (fun u5 h6 e5 g6 => ?_)
    have hp6 := g6.2 _ _ hp5
    have n5 := e5.r.nt
    simp only [objK_of hp6, n1, n2, n3, n4, n5, Slot.sh, Slot.nt, Key.sh, Key.nt, Ring.sh, Ring.nt, Pool.sh, Pool.nt, Entry.sh, Entry.nt, ↓stepR, normR, Int.cast_ofNat_Int, Int.natCast_nonneg, Int.toNat_natCast, Nat.reduceMod, Nat.reduceDiv, Nat.reducePow, Nat.testBit_eq_decide_div_mod_eq, ↓reduceIte, Nat.reduceEqDiff, Nat.reduceAdd, Nat.reduceSub, Nat.reduceMul, Nat.reduceLT, Nat.reduceLeDiff, Int.reduceEq, Int.reduceLT, Int.reduceLE, Int.reduceAdd, Int.reduceSub, Int.reduceMul, Int.reduceNeg, Int.reduceToNat, reduceCtorEq, eq_self]
    refine callK_remove7 p hlen _ _ _ _ (fun u6 h7 e6 g7 => ?_)
    have hp7 := g7.2 _ _ hp6
    have n6 := e6.r.nt
    simp only [objK_of hp7, n1, n2, n3, n4, n5, n6, Slot.sh, Slot.nt, Key.sh, Key.nt, Ring.sh, Ring.nt, Pool.sh, Pool.nt, Entry.sh, Entry.nt, ↓stepR, normR, Int.cast_ofNat_Int, Int.natCast_nonneg, Int.toNat_natCast, Nat.reduceMod, Nat.reduceDiv, Nat.reducePow, Nat.testBit_eq_decide_div_mod_eq, ↓reduceIte, Nat.reduceEqDiff, Nat.reduceAdd, Nat.reduceSub, Nat.reduceMul, Nat.reduceLT, Nat.reduceLeDiff, Int.reduceEq, Int.reduceLT, Int.reduceLE, Int.reduceAdd, Int.reduceSub, Int.reduceMul, Int.reduceNeg, Int.reduceToNat, reduceCtorEq, eq_self]
    refine callK_remove6 p hlen _ _ _ _ hst (fun u7 h8 e7 g8 => ?_)
    have hp8 := g8.2 _ _ hp7
    have n7 := e7.r.nt
    simp only [objK_of hp8, n1, n2, n3, n4, n5, n6, n7, Slot.sh, Slot.nt, Key.sh, Key.nt, Ring.sh, Ring.nt, Pool.sh, Pool.nt, Entry.sh, Entry.nt, ↓stepR, normR, Int.cast_ofNat_Int, Int.natCast_nonneg, Int.toNat_natCast, Nat.reduceMod, Nat.reduceDiv, Nat.reducePow, Nat.testBit_eq_decide_div_mod_eq, ↓reduceIte, Nat.reduceEqDiff, Nat.reduceAdd, Nat.reduceSub, Nat.reduceMul, Nat.reduceLT, Nat.reduceLeDiff, Int.reduceEq, Int.reduceLT, Int.reduceLE, Int.reduceAdd, Int.reduceSub, Int.reduceMul, Int.reduceNeg, Int.reduceToNat, reduceCtorEq, eq_self]
    refine callK_remove7 p hlen _ _ _ _ (fun u8 h9 e8 g9 => ?_)
    have hp9 := g9.2 _ _ hp8
    have n8 := e8.r.nt
    simp only [objK_of hp9, n1, n2, n3, n4, n5, n6, n7, n8, Slot.sh, Slot.nt, Key.sh, Key.nt, Ring.sh, Ring.nt, Pool.sh, Pool.nt, Entry.sh, Entry.nt, ↓stepR, normR, Int.cast_ofNat_Int, Int.natCast_nonneg, Int.toNat_natCast, Nat.reduceMod, Nat.reduceDiv, Nat.reducePow, Nat.testBit_eq_decide_div_mod_eq, ↓reduceIte, Nat.reduceEqDiff, Nat.reduceAdd, Nat.reduceSub, Nat.reduceMul, Nat.reduceLT, Nat.reduceLeDiff, Int.reduceEq, Int.reduceLT, Int.reduceLE, Int.reduceAdd, Int.reduceSub, Int.reduceMul, Int.reduceNeg, Int.reduceToNat, reduceCtorEq, eq_self]
    have G29 : Grow h2 h9 := ((((((g3.trans g4).trans g5).trans g6).trans g7).trans g8).trans g9)
    have G39 : Grow h3 h9 := (((((g4.trans g5).trans g6).trans g7).trans g8).trans g9)
    have G49 : Grow h4 h9 := ((((g5.trans g6).trans g7).trans g8).trans g9)
    have G59 : Grow h5 h9 := (((g6.trans g7).trans g8).trans g9)
    have G69 : Grow h6 h9 := ((g7.trans g8).trans g9)
    have G79 : Grow h7 h9 := (g8.trans g9)
    refine callK_same8 u1 u2 _ _ h9 (e1.r.grow G29) (e2.r.grow G39) (addS_len ..) _ (fun h10 g10 => ?_)
    simp only [n1, n2, n3, n4, n5, n6, n7, n8, Slot.sh, Slot.nt, Key.sh, Key.nt, Ring.sh, Ring.nt, Pool.sh, Pool.nt, Entry.sh, Entry.nt, ↓stepR, normR, Int.cast_ofNat_Int, Int.natCast_nonneg, Int.toNat_natCast, Nat.reduceMod, Nat.reduceDiv, Nat.reducePow, Nat.testBit_eq_decide_div_mod_eq, ↓reduceIte, Nat.reduceEqDiff, Nat.reduceAdd, Nat.reduceSub, Nat.reduceMul, Nat.reduceLT, Nat.reduceLeDiff, Int.reduceEq, Int.reduceLT, Int.reduceLE, Int.reduceAdd, Int.reduceSub, Int.reduceMul, Int.reduceNeg, Int.reduceToNat, reduceCtorEq, eq_self]
    refine callK_same8 u3 u4 _ _ h10 (e3.r.grow (G49.trans g10)) (e4.r.grow (G59.trans g10)) (addS_len ..) _ (fun h11 g11 => ?_)
    simp only [n1, n2, n3, n4, n5, n6, n7, n8, Slot.sh, Slot.nt, Key.sh, Key.nt, Ring.sh, Ring.nt, Pool.sh, Pool.nt, Entry.sh, Entry.nt, ↓stepR, normR, Int.cast_ofNat_Int, Int.natCast_nonneg, Int.toNat_natCast, Nat.reduceMod, Nat.reduceDiv, Nat.reducePow, Nat.testBit_eq_decide_div_mod_eq, ↓reduceIte, Nat.reduceEqDiff, Nat.reduceAdd, Nat.reduceSub, Nat.reduceMul, Nat.reduceLT, Nat.reduceLeDiff, Int.reduceEq, Int.reduceLT, Int.reduceLE, Int.reduceAdd, Int.reduceSub, Int.reduceMul, Int.reduceNeg, Int.reduceToNat, reduceCtorEq, eq_self]
    refine callK_same8 u5 u6 _ _ h11 (e5.r.grow ((G69.trans g10).trans g11)) (e6.r.grow ((G79.trans g10).trans g11)) (removeS_len ..) _ (fun h12 g12 => ?_)
    simp only [n1, n2, n3, n4, n5, n6, n7, n8, Slot.sh, Slot.nt, Key.sh, Key.nt, Ring.sh, Ring.nt, Pool.sh, Pool.nt, Entry.sh, Entry.nt, ↓stepR, normR, Int.cast_ofNat_Int, Int.natCast_nonneg, Int.toNat_natCast, Nat.reduceMod, Nat.reduceDiv, Nat.reducePow, Nat.testBit_eq_decide_div_mod_eq, ↓reduceIte, Nat.reduceEqDiff, Nat.reduceAdd, Nat.reduceSub, Nat.reduceMul, Nat.reduceLT, Nat.reduceLeDiff, Int.reduceEq, Int.reduceLT, Int.reduceLE, Int.reduceAdd, Int.reduceSub, Int.reduceMul, Int.reduceNeg, Int.reduceToNat, reduceCtorEq, eq_self]
    refine callK_same8 u7 u8 _ _ h12 (e7.r.grow (((g9.trans g10).trans g11).trans g12)) (e8.r.grow ((g10.trans g11).trans g12)) (removeS_len ..) _ (fun h13 g13 => ?_)
    have hp13 := (((g10.trans g11).trans g12).trans g13).2 _ _ hp9
    simp only [n1, n2, n3, n4, n5, n6, n7, n8, w66, dcall_key9, objK_of hp13, Slot.sh, Slot.nt, Key.sh, Key.nt, Ring.sh, Ring.nt, Pool.sh, Pool.nt, Entry.sh, Entry.nt, ↓stepR, normR, Int.cast_ofNat_Int, Int.natCast_nonneg, Int.toNat_natCast, Nat.reduceMod, Nat.reduceDiv, Nat.reducePow, Nat.testBit_eq_decide_div_mod_eq, ↓reduceIte, Nat.reduceEqDiff, Nat.reduceAdd, Nat.reduceSub, Nat.reduceMul, Nat.reduceLT, Nat.reduceLeDiff, Int.reduceEq, Int.reduceLT, Int.reduceLE, Int.reduceAdd, Int.reduceSub, Int.reduceMul, Int.reduceNeg, Int.reduceToNat, reduceCtorEq, eq_self]
    refine callD_rotate10F p hlen (keyS kz) _ _ (fun r1 k1 f1 q1 => ?_)
    have hk1 := q1.2 _ _ hp13
    have m1 := f1.r.nt
    simp only [m1, hp13, hk1, objK_of hk1, osame_self, true_or, dcall_key9, Slot.sh, Slot.nt, Key.sh, Key.nt, Ring.sh, Ring.nt, Pool.sh, Pool.nt, Entry.sh, Entry.nt, ↓stepR, normR, Int.cast_ofNat_Int, Int.natCast_nonneg, Int.toNat_natCast, Nat.reduceMod, Nat.reduceDiv, Nat.reducePow, Nat.testBit_eq_decide_div_mod_eq, ↓reduceIte, Nat.reduceEqDiff, Nat.reduceAdd, Nat.reduceSub, Nat.reduceMul, Nat.reduceLT, Nat.reduceLeDiff, Int.reduceEq, Int.reduceLT, Int.reduceLE, Int.reduceAdd, Int.reduceSub, Int.reduceMul, Int.reduceNeg, Int.reduceToNat, reduceCtorEq, eq_self]
    refine callD_rotate11 p hlen _ (keyS kz) _ (fun r2 k2 f2 q2 => ?_)
    have hk2 := q2.2 _ _ hk1
    have m2 := f2.r.nt
    simp only [m1, m2, hp13, hk1, hk2, objK_of hk2, osame_self, true_or, dcall_key9, Slot.sh, Slot.nt, Key.sh, Key.nt, Ring.sh, Ring.nt, Pool.sh, Pool.nt, Entry.sh, Entry.nt, ↓stepR, normR, Int.cast_ofNat_Int, Int.natCast_nonneg, Int.toNat_natCast, Nat.reduceMod, Nat.reduceDiv, Nat.reducePow, Nat.testBit_eq_decide_div_mod_eq, ↓reduceIte, Nat.reduceEqDiff, Nat.reduceAdd, Nat.reduceSub, Nat.reduceMul, Nat.reduceLT, Nat.reduceLeDiff, Int.reduceEq, Int.reduceLT, Int.reduceLE, Int.reduceAdd, Int.reduceSub, Int.reduceMul, Int.reduceNeg, Int.reduceToNat, reduceCtorEq, eq_self]
    refine callD_same8 r1 r2 _ _ k2 (f1.r.grow q2) f2.r (rotateS_len ..) _ (fun k3 q3 => ?_)
    have hk3 := q3.2 _ _ hk2
    simp only [m1, m2, hp13, hk1, hk2, hk3, objK_of hk3, osame_self, true_or, w4v, Slot.sh, Slot.nt, Key.sh, Key.nt, Ring.sh, Ring.nt, Pool.sh, Pool.nt, Entry.sh, Entry.nt, ↓stepR, normR, Int.cast_ofNat_Int, Int.natCast_nonneg, Int.toNat_natCast, Nat.reduceMod, Nat.reduceDiv, Nat.reducePow, Nat.testBit_eq_decide_div_mod_eq, ↓reduceIte, Nat.reduceEqDiff, Nat.reduceAdd, Nat.reduceSub, Nat.reduceMul, Nat.reduceLT, Nat.reduceLeDiff, Int.reduceEq, Int.reduceLT, Int.reduceLE, Int.reduceAdd, Int.reduceSub, Int.reduceMul, Int.reduceNeg, Int.reduceToNat, reduceCtorEq, eq_self]
    refine callD_mark12 p hlen _ _ _ _ (fun r3 k4 f3 q4 => ?_)
    have hk4 := q4.2 _ _ hk3
    have m3 := f3.nt
    simp only [m1, m2, m3, hp13, hk1, hk2, hk3, hk4, objK_of hk4, osame_self, true_or, w4v, Slot.sh, Slot.nt, Key.sh, Key.nt, Ring.sh, Ring.nt, Pool.sh, Pool.nt, Entry.sh, Entry.nt, ↓stepR, normR, Int.cast_ofNat_Int, Int.natCast_nonneg, Int.toNat_natCast, Nat.reduceMod, Nat.reduceDiv, Nat.reducePow, Nat.testBit_eq_decide_div_mod_eq, ↓reduceIte, Nat.reduceEqDiff, Nat.reduceAdd, Nat.reduceSub, Nat.reduceMul, Nat.reduceLT, Nat.reduceLeDiff, Int.reduceEq, Int.reduceLT, Int.reduceLE, Int.reduceAdd, Int.reduceSub, Int.reduceMul, Int.reduceNeg, Int.reduceToNat, reduceCtorEq, eq_self]
    refine callD_mark13 p hlen _ _ _ _ (fun r4 k5 f4 q5 => ?_)
    have hk5 := q5.2 _ _ hk4
    have m4 := f4.nt
    simp only [m1, m2, m3, m4, hp13, hk1, hk2, hk3, hk4, hk5, objK_of hk5, osame_self, true_or, w4v, Slot.sh, Slot.nt, Key.sh, Key.nt, Ring.sh, Ring.nt, Pool.sh, Pool.nt, Entry.sh, Entry.nt, ↓stepR, normR, Int.cast_ofNat_Int, Int.natCast_nonneg, Int.toNat_natCast, Nat.reduceMod, Nat.reduceDiv, Nat.reducePow, Nat.testBit_eq_decide_div_mod_eq, ↓reduceIte, Nat.reduceEqDiff, Nat.reduceAdd, Nat.reduceSub, Nat.reduceMul, Nat.reduceLT, Nat.reduceLeDiff, Int.reduceEq, Int.reduceLT, Int.reduceLE, Int.reduceAdd, Int.reduceSub, Int.reduceMul, Int.reduceNeg, Int.reduceToNat, reduceCtorEq, eq_self]
    refine callD_same8 r3 r4 _ _ k5 (f3.grow q5) f4 (Nat.lt_of_le_of_lt (markS_len ..) (by decide)) _ (fun k6 q6 => ?_)
    have hk6 := q6.2 _ _ hk5
    simp only [m1, m2, m3, m4, hp13, hk1, hk2, hk3, hk4, hk5, hk6, objK_of hk6, osame_self, true_or, w4v, Slot.sh, Slot.nt, Key.sh, Key.nt, Ring.sh, Ring.nt, Pool.sh, Pool.nt, Entry.sh, Entry.nt, ↓stepR, normR, Int.cast_ofNat_Int, Int.natCast_nonneg, Int.toNat_natCast, Nat.reduceMod, Nat.reduceDiv, Nat.reducePow, Nat.testBit_eq_decide_div_mod_eq, ↓reduceIte, Nat.reduceEqDiff, Nat.reduceAdd, Nat.reduceSub, Nat.reduceMul, Nat.reduceLT, Nat.reduceLeDiff, Int.reduceEq, Int.reduceLT, Int.reduceLE, Int.reduceAdd, Int.reduceSub, Int.reduceMul, Int.reduceNeg, Int.reduceToNat, reduceCtorEq, eq_self]
    refine callD_mark12 p hlen _ _ _ _ (fun r5 k7 f5 q7 => ?_)
    have hk7 := q7.2 _ _ hk6
    have m5 := f5.nt
    simp only [m1, m2, m3, m4, m5, hp13, hk1, hk2, hk3, hk4, hk5, hk6, hk7, objK_of hk7, osame_self, true_or, w4v, Slot.sh, Slot.nt, Key.sh, Key.nt, Ring.sh, Ring.nt, Pool.sh, Pool.nt, Entry.sh, Entry.nt, ↓stepR, normR, Int.cast_ofNat_Int, Int.natCast_nonneg, Int.toNat_natCast, Nat.reduceMod, Nat.reduceDiv, Nat.reducePow, Nat.testBit_eq_decide_div_mod_eq, ↓reduceIte, Nat.reduceEqDiff, Nat.reduceAdd, Nat.reduceSub, Nat.reduceMul, Nat.reduceLT, Nat.reduceLeDiff, Int.reduceEq, Int.reduceLT, Int.reduceLE, Int.reduceAdd, Int.reduceSub, Int.reduceMul, Int.reduceNeg, Int.reduceToNat, reduceCtorEq, eq_self]
    refine callD_mark13 p hlen _ _ _ _ (fun r6 k8 f6 q8 => ?_)
    have hk8 := q8.2 _ _ hk7
    have m6 := f6.nt
    simp only [m1, m2, m3, m4, m5, m6, hp13, hk1, hk2, hk3, hk4, hk5, hk6, hk7, hk8, objK_of hk8, osame_self, true_or, w4v, Slot.sh, Slot.nt, Key.sh, Key.nt, Ring.sh, Ring.nt, Pool.sh, Pool.nt, Entry.sh, Entry.nt, ↓stepR, normR, Int.cast_ofNat_Int, Int.natCast_nonneg, Int.toNat_natCast, Nat.reduceMod, Nat.reduceDiv, Nat.reducePow, Nat.testBit_eq_decide_div_mod_eq, ↓reduceIte, Nat.reduceEqDiff, Nat.reduceAdd, Nat.reduceSub, Nat.reduceMul, Nat.reduceLT, Nat.reduceLeDiff, Int.reduceEq, Int.reduceLT, Int.reduceLE, Int.reduceAdd, Int.reduceSub, Int.reduceMul, Int.reduceNeg, Int.reduceToNat, reduceCtorEq, eq_self]
    refine callD_same8 r5 r6 _ _ k8 (f5.grow q8) f6 (Nat.lt_of_le_of_lt (markS_len ..) (by decide)) _ (fun k9 q9 => ?_)
    simp only [m1, m2, m3, m4, m5, m6, osame_self, true_or, w4v, Slot.sh, Slot.nt, Key.sh, Key.nt, Ring.sh, Ring.nt, Pool.sh, Pool.nt, Entry.sh, Entry.nt, ↓stepR, normR, Int.cast_ofNat_Int, Int.natCast_nonneg, Int.toNat_natCast, Nat.reduceMod, Nat.reduceDiv, Nat.reducePow, Nat.testBit_eq_decide_div_mod_eq, ↓reduceIte, Nat.reduceEqDiff, Nat.reduceAdd, Nat.reduceSub, Nat.reduceMul, Nat.reduceLT, Nat.reduceLeDiff, Int.reduceEq, Int.reduceLT, Int.reduceLE, Int.reduceAdd, Int.reduceSub, Int.reduceMul, Int.reduceNeg, Int.reduceToNat, reduceCtorEq, eq_self]
  · simp only [Slot.sh, Slot.nt, Key.sh, Key.nt, Ring.sh, Ring.nt, Pool.sh, Pool.nt, Entry.sh, Entry.nt, w6, w4, w8, w9, c9, ↓stepR, normR, Int.cast_ofNat_Int, Int.natCast_nonneg, Int.toNat_natCast, Nat.reduceMod, Nat.reduceDiv, Nat.reducePow, Nat.testBit_eq_decide_div_mod_eq, ↓reduceIte, Nat.reduceEqDiff, Nat.reduceAdd, Nat.reduceSub, Nat.reduceMul, Nat.reduceLT, Nat.reduceLeDiff, Int.reduceEq, Int.reduceLT, Int.reduceLE, Int.reduceAdd, Int.reduceSub, Int.reduceMul, Int.reduceNeg, Int.reduceToNat, reduceCtorEq, eq_self]
    generalize H.set _ h1.n _ = g at *
    refine callK_add4 p hlen _ _ _ _ _ (fun u1 h2 e1 g2 => ?_)
    have hp2 := g2.2 _ _ hpo
    have n1 := e1.r.nt
    simp only [objK_of hp2, n1, Slot.sh, Slot.nt, Key.sh, Key.nt, Ring.sh, Ring.nt, Pool.sh, Pool.nt, Entry.sh, Entry.nt, ↓stepR, normR, Int.cast_ofNat_Int, Int.natCast_nonneg, Int.toNat_natCast, Nat.reduceMod, Nat.reduceDiv, Nat.reducePow, Nat.testBit_eq_decide_div_mod_eq, ↓reduceIte, Nat.reduceEqDiff, Nat.reduceAdd, Nat.reduceSub, Nat.reduceMul, Nat.reduceLT, Nat.reduceLeDiff, Int.reduceEq, Int.reduceLT, Int.reduceLE, Int.reduceAdd, Int.reduceSub, Int.reduceMul, Int.reduceNeg, Int.reduceToNat, reduceCtorEq, eq_self]
    refine callK_add5 p hlen _ _ _ _ _ (fun u2 h3 e2 g3 => ?_)
    have hp3 := g3.2 _ _ hp2
    have n2 := e2.r.nt
    simp only [objK_of hp3, n1, n2, Slot.sh, Slot.nt, Key.sh, Key.nt, Ring.sh, Ring.nt, Pool.sh, Pool.nt, Entry.sh, Entry.nt, ↓stepR, normR, Int.cast_ofNat_Int, Int.natCast_nonneg, Int.toNat_natCast, Nat.reduceMod, Nat.reduceDiv, Nat.reducePow, Nat.testBit_eq_decide_div_mod_eq, ↓reduceIte, Nat.reduceEqDiff, Nat.reduceAdd, Nat.reduceSub, Nat.reduceMul, Nat.reduceLT, Nat.reduceLeDiff, Int.reduceEq, Int.reduceLT, Int.reduceLE, Int.reduceAdd, Int.reduceSub, Int.reduceMul, Int.reduceNeg, Int.reduceToNat, reduceCtorEq, eq_self]
    refine callK_add4 p hlen _ _ _ _ _ (fun u3 h4 e3 g4 => ?_)
    have hp4 := g4.2 _ _ hp3
    have n3 := e3.r.nt
    simp only [objK_of hp4, n1, n2, n3, Slot.sh, Slot.nt, Key.sh, Key.nt, Ring.sh, Ring.nt, Pool.sh, Pool.nt, Entry.sh, Entry.nt, ↓stepR, normR, Int.cast_ofNat_Int, Int.natCast_nonneg, Int.toNat_natCast, Nat.reduceMod, Nat.reduceDiv, Nat.reducePow, Nat.testBit_eq_decide_div_mod_eq, ↓reduceIte, Nat.reduceEqDiff, Nat.reduceAdd, Nat.reduceSub, Nat.reduceMul, Nat.reduceLT, Nat.reduceLeDiff, Int.reduceEq, Int.reduceLT, Int.reduceLE, Int.reduceAdd, Int.reduceSub, Int.reduceMul, Int.reduceNeg, Int.reduceToNat, reduceCtorEq, eq_self]
    refine callK_add5 p hlen _ _ _ _ _ (fun u4 h5 e4 g5 => ?_)
    have hp5 := g5.2 _ _ hp4
    have n4 := e4.r.nt
    simp only [objK_of hp5, n1, n2, n3, n4, Slot.sh, Slot.nt, Key.sh, Key.nt, Ring.sh, Ring.nt, Pool.sh, Pool.nt, Entry.sh, Entry.nt, ↓stepR, normR, Int.cast_ofNat_Int, Int.natCast_nonneg, Int.toNat_natCast, Nat.reduceMod, Nat.reduceDiv, Nat.reducePow, Nat.testBit_eq_decide_div_mod_eq, ↓reduceIte, Nat.reduceEqDiff, Nat.reduceAdd, Nat.reduceSub, Nat.reduceMul, Nat.reduceLT, Nat.reduceLeDiff, Int.reduceEq, Int.reduceLT, Int.reduceLE, Int.reduceAdd, Int.reduceSub, Int.reduceMul, Int.reduceNeg, Int.reduceToNat, reduceCtorEq, eq_self]
    refine callK_remove6 p hlen _ _ _ _ hst (fun u5 h6 e5 g6 => ?_)
    have hp6 := g6.2 _ _ hp5
    have n5 := e5.r.nt
    simp only [objK_of hp6, n1, n2, n3, n4, n5, Slot.sh, Slot.nt, Key.sh, Key.nt, Ring.sh, Ring.nt, Pool.sh, Pool.nt, Entry.sh, Entry.nt, ↓stepR, normR, Int.cast_ofNat_Int, Int.natCast_nonneg, Int.toNat_natCast, Nat.reduceMod, Nat.reduceDiv, Nat.reducePow, Nat.testBit_eq_decide_div_mod_eq, ↓reduceIte, Nat.reduceEqDiff, Nat.reduceAdd, Nat.reduceSub, Nat.reduceMul, Nat.reduceLT, Nat.reduceLeDiff, Int.reduceEq, Int.reduceLT, Int.reduceLE, Int.reduceAdd, Int.reduceSub, Int.reduceMul, Int.reduceNeg, Int.reduceToNat, reduceCtorEq, eq_self]
    refine callK_remove7 p hlen _ _ _ _ (fun u6 h7 e6 g7 => ?_)
    have hp7 := g7.2 _ _ hp6
    have n6 := e6.r.nt
    simp only [objK_of hp7, n1, n2, n3, n4, n5, n6, Slot.sh, Slot.nt, Key.sh, Key.nt, Ring.sh, Ring.nt, Pool.sh, Pool.nt, Entry.sh, Entry.nt, ↓stepR, normR, Int.cast_ofNat_Int, Int.natCast_nonneg, Int.toNat_natCast, Nat.reduceMod, Nat.reduceDiv, Nat.reducePow, Nat.testBit_eq_decide_div_mod_eq, ↓reduceIte, Nat.reduceEqDiff, Nat.reduceAdd, Nat.reduceSub, Nat.reduceMul, Nat.reduceLT, Nat.reduceLeDiff, Int.reduceEq, Int.reduceLT, Int.reduceLE, Int.reduceAdd, Int.reduceSub, Int.reduceMul, Int.reduceNeg, Int.reduceToNat, reduceCtorEq, eq_self]
    refine callK_remove6 p hlen _ _ _ _ hst (fun u7 h8 e7 g8 => ?_)
    have hp8 := g8.2 _ _ hp7
    have n7 := e7.r.nt
    simp only [objK_of hp8, n1, n2, n3, n4, n5, n6, n7, Slot.sh, Slot.nt, Key.sh, Key.nt, Ring.sh, Ring.nt, Pool.sh, Pool.nt, Entry.sh, Entry.nt, ↓stepR, normR, Int.cast_ofNat_Int, Int.natCast_nonneg, Int.toNat_natCast, Nat.reduceMod, Nat.reduceDiv, Nat.reducePow, Nat.testBit_eq_decide_div_mod_eq, ↓reduceIte, Nat.reduceEqDiff, Nat.reduceAdd, Nat.reduceSub, Nat.reduceMul, Nat.reduceLT, Nat.reduceLeDiff, Int.reduceEq, Int.reduceLT, Int.reduceLE, Int.reduceAdd, Int.reduceSub, Int.reduceMul, Int.reduceNeg, Int.reduceToNat, reduceCtorEq, eq_self]
    refine callK_remove7 p hlen _ _ _ _ (fun u8 h9 e8 g9 => ?_)
    have hp9 := g9.2 _ _ hp8
    have n8 := e8.r.nt
    simp only [objK_of hp9, n1, n2, n3, n4, n5, n6, n7, n8, Slot.sh, Slot.nt, Key.sh, Key.nt, Ring.sh, Ring.nt, Pool.sh, Pool.nt, Entry.sh, Entry.nt, ↓stepR, normR, Int.cast_ofNat_Int, Int.natCast_nonneg, Int.toNat_natCast, Nat.reduceMod, Nat.reduceDiv, Nat.reducePow, Nat.testBit_eq_decide_div_mod_eq, ↓reduceIte, Nat.reduceEqDiff, Nat.reduceAdd, Nat.reduceSub, Nat.reduceMul, Nat.reduceLT, Nat.reduceLeDiff, Int.reduceEq, Int.reduceLT, Int.reduceLE, Int.reduceAdd, Int.reduceSub, Int.reduceMul, Int.reduceNeg, Int.reduceToNat, reduceCtorEq, eq_self]
    have G29 : Grow h2 h9 := ((((((g3.trans g4).trans g5).trans g6).trans g7).trans g8).trans g9)
    have G39 : Grow h3 h9 := (((((g4.trans g5).trans g6).trans g7).trans g8).trans g9)
    have G49 : Grow h4 h9 := ((((g5.trans g6).trans g7).trans g8).trans g9)
    have G59 : Grow h5 h9 := (((g6.trans g7).trans g8).trans g9)
    have G69 : Grow h6 h9 := ((g7.trans g8).trans g9)
    have G79 : Grow h7 h9 := (g8.trans g9)
    refine callK_same8 u1 u2 _ _ h9 (e1.r.grow G29) (e2.r.grow G39) (addS_len ..) _ (fun h10 g10 => ?_)
    simp only [n1, n2, n3, n4, n5, n6, n7, n8, Slot.sh, Slot.nt, Key.sh, Key.nt, Ring.sh, Ring.nt, Pool.sh, Pool.nt, Entry.sh, Entry.nt, ↓stepR, normR, Int.cast_ofNat_Int, Int.natCast_nonneg, Int.toNat_natCast, Nat.reduceMod, Nat.reduceDiv, Nat.reducePow, Nat.testBit_eq_decide_div_mod_eq, ↓reduceIte, Nat.reduceEqDiff, Nat.reduceAdd, Nat.reduceSub, Nat.reduceMul, Nat.reduceLT, Nat.reduceLeDiff, Int.reduceEq, Int.reduceLT, Int.reduceLE, Int.reduceAdd, Int.reduceSub, Int.reduceMul, Int.reduceNeg, Int.reduceToNat, reduceCtorEq, eq_self]
    refine callK_same8 u3 u4 _ _ h10 (e3.r.grow (G49.trans g10)) (e4.r.grow (G59.trans g10)) (addS_len ..) _ (fun h11 g11 => ?_)
    simp only [n1, n2, n3, n4, n5, n6, n7, n8, Slot.sh, Slot.nt, Key.sh, Key.nt, Ring.sh, Ring.nt, Pool.sh, Pool.nt, Entry.sh, Entry.nt, ↓stepR, normR, Int.cast_ofNat_Int, Int.natCast_nonneg, Int.toNat_natCast, Nat.reduceMod, Nat.reduceDiv, Nat.reducePow, Nat.testBit_eq_decide_div_mod_eq, ↓reduceIte, Nat.reduceEqDiff, Nat.reduceAdd, Nat.reduceSub, Nat.reduceMul, Nat.reduceLT, Nat.reduceLeDiff, Int.reduceEq, Int.reduceLT, Int.reduceLE, Int.reduceAdd, Int.reduceSub, Int.reduceMul, Int.reduceNeg, Int.reduceToNat, reduceCtorEq, eq_self]
    refine callK_same8 u5 u6 _ _ h11 (e5.r.grow ((G69.trans g10).trans g11)) (e6.r.grow ((G79.trans g10).trans g11)) (removeS_len ..) _ (fun h12 g12 => ?_)
    simp only [n1, n2, n3, n4, n5, n6, n7, n8, Slot.sh, Slot.nt, Key.sh, Key.nt, Ring.sh, Ring.nt, Pool.sh, Pool.nt, Entry.sh, Entry.nt, ↓stepR, normR, Int.cast_ofNat_Int, Int.natCast_nonneg, Int.toNat_natCast, Nat.reduceMod, Nat.reduceDiv, Nat.reducePow, Nat.testBit_eq_decide_div_mod_eq, ↓reduceIte, Nat.reduceEqDiff, Nat.reduceAdd, Nat.reduceSub, Nat.reduceMul, Nat.reduceLT, Nat.reduceLeDiff, Int.reduceEq, Int.reduceLT, Int.reduceLE, Int.reduceAdd, Int.reduceSub, Int.reduceMul, Int.reduceNeg, Int.reduceToNat, reduceCtorEq, eq_self]
    refine callK_same8 u7 u8 _ _ h12 (e7.r.grow (((g9.trans g10).trans g11).trans g12)) (e8.r.grow ((g10.trans g11).trans g12)) (removeS_len ..) _ (fun h13 g13 => ?_)
    have hp13 := (((g10.trans g11).trans g12).trans g13).2 _ _ hp9
    simp only [n1, n2, n3, n4, n5, n6, n7, n8, w66, dcall_key9, objK_of hp13, Slot.sh, Slot.nt, Key.sh, Key.nt, Ring.sh, Ring.nt, Pool.sh, Pool.nt, Entry.sh, Entry.nt, ↓stepR, normR, Int.cast_ofNat_Int, Int.natCast_nonneg, Int.toNat_natCast, Nat.reduceMod, Nat.reduceDiv, Nat.reducePow, Nat.testBit_eq_decide_div_mod_eq, ↓reduceIte, Nat.reduceEqDiff, Nat.reduceAdd, Nat.reduceSub, Nat.reduceMul, Nat.reduceLT, Nat.reduceLeDiff, Int.reduceEq, Int.reduceLT, Int.reduceLE, Int.reduceAdd, Int.reduceSub, Int.reduceMul, Int.reduceNeg, Int.reduceToNat, reduceCtorEq, eq_self]
    refine callD_rotate10F p hlen (keyS kz) _ _ (fun r1 k1 f1 q1 => ?_)
    have hk1 := q1.2 _ _ hp13
    have m1 := f1.r.nt
    simp only [m1, hp13, hk1, objK_of hk1, osame_self, true_or, dcall_key9, Slot.sh, Slot.nt, Key.sh, Key.nt, Ring.sh, Ring.nt, Pool.sh, Pool.nt, Entry.sh, Entry.nt, ↓stepR, normR, Int.cast_ofNat_Int, Int.natCast_nonneg, Int.toNat_natCast, Nat.reduceMod, Nat.reduceDiv, Nat.reducePow, Nat.testBit_eq_decide_div_mod_eq, ↓reduceIte, Nat.reduceEqDiff, Nat.reduceAdd, Nat.reduceSub, Nat.reduceMul, Nat.reduceLT, Nat.reduceLeDiff, Int.reduceEq, Int.reduceLT, Int.reduceLE, Int.reduceAdd, Int.reduceSub, Int.reduceMul, Int.reduceNeg, Int.reduceToNat, reduceCtorEq, eq_self]
    refine callD_rotate11 p hlen _ (keyS kz) _ (fun r2 k2 f2 q2 => ?_)
    have hk2 := q2.2 _ _ hk1
    have m2 := f2.r.nt
    simp only [m1, m2, hp13, hk1, hk2, objK_of hk2, osame_self, true_or, dcall_key9, Slot.sh, Slot.nt, Key.sh, Key.nt, Ring.sh, Ring.nt, Pool.sh, Pool.nt, Entry.sh, Entry.nt, ↓stepR, normR, Int.cast_ofNat_Int, Int.natCast_nonneg, Int.toNat_natCast, Nat.reduceMod, Nat.reduceDiv, Nat.reducePow, Nat.testBit_eq_decide_div_mod_eq, ↓reduceIte, Nat.reduceEqDiff, Nat.reduceAdd, Nat.reduceSub, Nat.reduceMul, Nat.reduceLT, Nat.reduceLeDiff, Int.reduceEq, Int.reduceLT, Int.reduceLE, Int.reduceAdd, Int.reduceSub, Int.reduceMul, Int.reduceNeg, Int.reduceToNat, reduceCtorEq, eq_self]
    refine callD_same8 r1 r2 _ _ k2 (f1.r.grow q2) f2.r (rotateS_len ..) _ (fun k3 q3 => ?_)
    have hk3 := q3.2 _ _ hk2
    simp only [m1, m2, hp13, hk1, hk2, hk3, objK_of hk3, osame_self, true_or, w4v, Slot.sh, Slot.nt, Key.sh, Key.nt, Ring.sh, Ring.nt, Pool.sh, Pool.nt, Entry.sh, Entry.nt, ↓stepR, normR, Int.cast_ofNat_Int, Int.natCast_nonneg, Int.toNat_natCast, Nat.reduceMod, Nat.reduceDiv, Nat.reducePow, Nat.testBit_eq_decide_div_mod_eq, ↓reduceIte, Nat.reduceEqDiff, Nat.reduceAdd, Nat.reduceSub, Nat.reduceMul, Nat.reduceLT, Nat.reduceLeDiff, Int.reduceEq, Int.reduceLT, Int.reduceLE, Int.reduceAdd, Int.reduceSub, Int.reduceMul, Int.reduceNeg, Int.reduceToNat, reduceCtorEq, eq_self]
    refine callD_mark12 p hlen _ _ _ _ (fun r3 k4 f3 q4 => ?_)
    have hk4 := q4.2 _ _ hk3
    have m3 := f3.nt
    simp only [m1, m2, m3, hp13, hk1, hk2, hk3, hk4, objK_of hk4, osame_self, true_or, w4v, Slot.sh, Slot.nt, Key.sh, Key.nt, Ring.sh, Ring.nt, Pool.sh, Pool.nt, Entry.sh, Entry.nt, ↓stepR, normR, Int.cast_ofNat_Int, Int.natCast_nonneg, Int.toNat_natCast, Nat.reduceMod, Nat.reduceDiv, Nat.reducePow, Nat.testBit_eq_decide_div_mod_eq, ↓reduceIte, Nat.reduceEqDiff, Nat.reduceAdd, Nat.reduceSub, Nat.reduceMul, Nat.reduceLT, Nat.reduceLeDiff, Int.reduceEq, Int.reduceLT, Int.reduceLE, Int.reduceAdd, Int.reduceSub, Int.reduceMul, Int.reduceNeg, Int.reduceToNat, reduceCtorEq, eq_self]
    refine callD_mark13 p hlen _ _ _ _ (fun r4 k5 f4 q5 => ?_)
    have hk5 := q5.2 _ _ hk4
    have m4 := f4.nt
    simp only [m1, m2, m3, m4, hp13, hk1, hk2, hk3, hk4, hk5, objK_of hk5, osame_self, true_or, w4v, Slot.sh, Slot.nt, Key.sh, Key.nt, Ring.sh, Ring.nt, Pool.sh, Pool.nt, Entry.sh, Entry.nt, ↓stepR, normR, Int.cast_ofNat_Int, Int.natCast_nonneg, Int.toNat_natCast, Nat.reduceMod, Nat.reduceDiv, Nat.reducePow, Nat.testBit_eq_decide_div_mod_eq, ↓reduceIte, Nat.reduceEqDiff, Nat.reduceAdd, Nat.reduceSub, Nat.reduceMul, Nat.reduceLT, Nat.reduceLeDiff, Int.reduceEq, Int.reduceLT, Int.reduceLE, Int.reduceAdd, Int.reduceSub, Int.reduceMul, Int.reduceNeg, Int.reduceToNat, reduceCtorEq, eq_self]
    refine callD_same8 r3 r4 _ _ k5 (f3.grow q5) f4 (Nat.lt_of_le_of_lt (markS_len ..) (by decide)) _ (fun k6 q6 => ?_)
    have hk6 := q6.2 _ _ hk5
    simp only [m1, m2, m3, m4, hp13, hk1, hk2, hk3, hk4, hk5, hk6, objK_of hk6, osame_self, true_or, w4v, Slot.sh, Slot.nt, Key.sh, Key.nt, Ring.sh, Ring.nt, Pool.sh, Pool.nt, Entry.sh, Entry.nt, ↓stepR, normR, Int.cast_ofNat_Int, Int.natCast_nonneg, Int.toNat_natCast, Nat.reduceMod, Nat.reduceDiv, Nat.reducePow, Nat.testBit_eq_decide_div_mod_eq, ↓reduceIte, Nat.reduceEqDiff, Nat.reduceAdd, Nat.reduceSub, Nat.reduceMul, Nat.reduceLT, Nat.reduceLeDiff, Int.reduceEq, Int.reduceLT, Int.reduceLE, Int.reduceAdd, Int.reduceSub, Int.reduceMul, Int.reduceNeg, Int.reduceToNat, reduceCtorEq, eq_self]
    refine callD_mark12 p hlen _ _ _ _ (fun r5 k7 f5 q7 => ?_)
    have hk7 := q7.2 _ _ hk6
    have m5 := f5.nt
    simp only [m1, m2, m3, m4, m5, hp13, hk1, hk2, hk3, hk4, hk5, hk6, hk7, objK_of hk7, osame_self, true_or, w4v, Slot.sh, Slot.nt, Key.sh, Key.nt, Ring.sh, Ring.nt, Pool.sh, Pool.nt, Entry.sh, Entry.nt, ↓stepR, normR, Int.cast_ofNat_Int, Int.natCast_nonneg, Int.toNat_natCast, Nat.reduceMod, Nat.reduceDiv, Nat.reducePow, Nat.testBit_eq_decide_div_mod_eq, ↓reduceIte, Nat.reduceEqDiff, Nat.reduceAdd, Nat.reduceSub, Nat.reduceMul, Nat.reduceLT, Nat.reduceLeDiff, Int.reduceEq, Int.reduceLT, Int.reduceLE, Int.reduceAdd, Int.reduceSub, Int.reduceMul, Int.reduceNeg, Int.reduceToNat, reduceCtorEq, eq_self]
    refine callD_mark13 p hlen _ _ _ _ (fun r6 k8 f6 q8 => ?_)
    have hk8 := q8.2 _ _ hk7
    have m6 := f6.nt
    simp only [m1, m2, m3, m4, m5, m6, hp13, hk1, hk2, hk3, hk4, hk5, hk6, hk7, hk8, objK_of hk8, osame_self, true_or, w4v, Slot.sh, Slot.nt, Key.sh, Key.nt, Ring.sh, Ring.nt, Pool.sh, Pool.nt, Entry.sh, Entry.nt, ↓stepR, normR, Int.cast_ofNat_Int, Int.natCast_nonneg, Int.toNat_natCast, Nat.reduceMod, Nat.reduceDiv, Nat.reducePow, Nat.testBit_eq_decide_div_mod_eq, ↓reduceIte, Nat.reduceEqDiff, Nat.reduceAdd, Nat.reduceSub, Nat.reduceMul, Nat.reduceLT, Nat.reduceLeDiff, Int.reduceEq, Int.reduceLT, Int.reduceLE, Int.reduceAdd, Int.reduceSub, Int.reduceMul, Int.reduceNeg, Int.reduceToNat, reduceCtorEq, eq_self]
    refine callD_same8 r5 r6 _ _ k8 (f5.grow q8) f6 (Nat.lt_of_le_of_lt (markS_len ..) (by decide)) _ (fun k9 q9 => ?_)
    simp only [m1, m2, m3, m4, m5, m6, osame_self, true_or, w4v, Slot.sh, Slot.nt, Key.sh, Key.nt, Ring.sh, Ring.nt, Pool.sh, Pool.nt, Entry.sh, Entry.nt, ↓stepR, normR, Int.cast_ofNat_Int, Int.natCast_nonneg, Int.toNat_natCast, Nat.reduceMod, Nat.reduceDiv, Nat.reducePow, Nat.testBit_eq_decide_div_mod_eq, ↓reduceIte, Nat.reduceEqDiff, Nat.reduceAdd, Nat.reduceSub, Nat.reduceMul, Nat.reduceLT, Nat.reduceLeDiff, Int.reduceEq, Int.reduceLT, Int.reduceLE, Int.reduceAdd, Int.reduceSub, Int.reduceMul, Int.reduceNeg, Int.reduceToNat, reduceCtorEq, eq_self]
end Go.Rae.Order
