/- Slots, and changes of them: what the calls answer. -/
import Derived.Test.YtannfoaobeoafaaDoorOrdData
set_option linter.unusedVariables false
set_option linter.unusedSimpArgs false
namespace Go.Rae.Order
set_option maxRecDepth 100000

theorem Key.eq0 (a b : Int) : ((⟨a, b⟩ : Key) = key0) = (a = 0 ∧ b = 0) := by
  simp [key0]

set_option maxHeartbeats 4000000 in
theorem ans_check34 (e : Entry) : Ans 34 [e.v] (.i .i64 (checkS e)) := by
  obtain ⟨e1, e2, e3, e4, e5, e6, e7⟩ := e
  refine ⟨run (fn := F34) rfl rfl ?_, rfl, rfl⟩
  unfold F34
  simp only [Entry.v, Key.v]
  by_cases c1 : e1 < 1
  · simp only [c1, ↓stepR, normR, Int.cast_ofNat_Int, Int.natCast_nonneg, Int.toNat_natCast, Nat.reduceMod, Nat.reduceDiv, Nat.reducePow, Nat.testBit_eq_decide_div_mod_eq, ↓reduceIte, Nat.reduceEqDiff, Nat.reduceAdd, Nat.reduceSub, Nat.reduceMul, Nat.reduceLT, Nat.reduceLeDiff, Int.reduceEq, Int.reduceLT, Int.reduceLE, Int.reduceAdd, Int.reduceSub, Int.reduceMul, Int.reduceNeg, Int.reduceToNat, reduceCtorEq, eq_self]
    simp [checkS, c1]
  by_cases c2 : 6 < e1
  · simp only [c1, c2, ↓stepR, normR, Int.cast_ofNat_Int, Int.natCast_nonneg, Int.toNat_natCast, Nat.reduceMod, Nat.reduceDiv, Nat.reducePow, Nat.testBit_eq_decide_div_mod_eq, ↓reduceIte, Nat.reduceEqDiff, Nat.reduceAdd, Nat.reduceSub, Nat.reduceMul, Nat.reduceLT, Nat.reduceLeDiff, Int.reduceEq, Int.reduceLT, Int.reduceLE, Int.reduceAdd, Int.reduceSub, Int.reduceMul, Int.reduceNeg, Int.reduceToNat, reduceCtorEq, eq_self]
    simp [checkS, c2]
  by_cases c3 : e2 < 0
  · simp only [c1, c2, c3, ↓stepR, normR, Int.cast_ofNat_Int, Int.natCast_nonneg, Int.toNat_natCast, Nat.reduceMod, Nat.reduceDiv, Nat.reducePow, Nat.testBit_eq_decide_div_mod_eq, ↓reduceIte, Nat.reduceEqDiff, Nat.reduceAdd, Nat.reduceSub, Nat.reduceMul, Nat.reduceLT, Nat.reduceLeDiff, Int.reduceEq, Int.reduceLT, Int.reduceLE, Int.reduceAdd, Int.reduceSub, Int.reduceMul, Int.reduceNeg, Int.reduceToNat, reduceCtorEq, eq_self]
    simp [checkS, c1, c2, c3]
  by_cases c4 : 64 ≤ e2
  · simp only [c1, c2, c3, c4, ↓stepR, normR, Int.cast_ofNat_Int, Int.natCast_nonneg, Int.toNat_natCast, Nat.reduceMod, Nat.reduceDiv, Nat.reducePow, Nat.testBit_eq_decide_div_mod_eq, ↓reduceIte, Nat.reduceEqDiff, Nat.reduceAdd, Nat.reduceSub, Nat.reduceMul, Nat.reduceLT, Nat.reduceLeDiff, Int.reduceEq, Int.reduceLT, Int.reduceLE, Int.reduceAdd, Int.reduceSub, Int.reduceMul, Int.reduceNeg, Int.reduceToNat, reduceCtorEq, eq_self]
    have : 63 < e2 := by omega
    simp [checkS, c1, c2, this]
  have c4' : ¬ 63 < e2 := by omega
  by_cases c5 : e1 = 6
  · subst c5
    by_cases c6 : e2 = 0
    · subst c6
      simp only [call_placed, veq_agg, veqs_cons, veqs_nil, veq_i, ↓stepR, normR, Int.cast_ofNat_Int, Int.natCast_nonneg, Int.toNat_natCast, Nat.reduceMod, Nat.reduceDiv, Nat.reducePow, Nat.testBit_eq_decide_div_mod_eq, ↓reduceIte, Nat.reduceEqDiff, Nat.reduceAdd, Nat.reduceSub, Nat.reduceMul, Nat.reduceLT, Nat.reduceLeDiff, Int.reduceEq, Int.reduceLT, Int.reduceLE, Int.reduceAdd, Int.reduceSub, Int.reduceMul, Int.reduceNeg, Int.reduceToNat, reduceCtorEq, eq_self]
      refine condK_of (fun c => ?_) (fun c => ?_)
      · simp only [↓stepR, normR, Int.cast_ofNat_Int, Int.natCast_nonneg, Int.toNat_natCast, Nat.reduceMod, Nat.reduceDiv, Nat.reducePow, Nat.testBit_eq_decide_div_mod_eq, ↓reduceIte, Nat.reduceEqDiff, Nat.reduceAdd, Nat.reduceSub, Nat.reduceMul, Nat.reduceLT, Nat.reduceLeDiff, Int.reduceEq, Int.reduceLT, Int.reduceLE, Int.reduceAdd, Int.reduceSub, Int.reduceMul, Int.reduceNeg, Int.reduceToNat, reduceCtorEq, eq_self]
        simp at c; simp [checkS, c]
      · simp only [↓stepR, normR, Int.cast_ofNat_Int, Int.natCast_nonneg, Int.toNat_natCast, Nat.reduceMod, Nat.reduceDiv, Nat.reducePow, Nat.testBit_eq_decide_div_mod_eq, ↓reduceIte, Nat.reduceEqDiff, Nat.reduceAdd, Nat.reduceSub, Nat.reduceMul, Nat.reduceLT, Nat.reduceLeDiff, Int.reduceEq, Int.reduceLT, Int.reduceLE, Int.reduceAdd, Int.reduceSub, Int.reduceMul, Int.reduceNeg, Int.reduceToNat, reduceCtorEq, eq_self]
        simp at c; simp [checkS]; omega
    · simp only [c3, c4, c6, ↓stepR, normR, Int.cast_ofNat_Int, Int.natCast_nonneg, Int.toNat_natCast, Nat.reduceMod, Nat.reduceDiv, Nat.reducePow, Nat.testBit_eq_decide_div_mod_eq, ↓reduceIte, Nat.reduceEqDiff, Nat.reduceAdd, Nat.reduceSub, Nat.reduceMul, Nat.reduceLT, Nat.reduceLeDiff, Int.reduceEq, Int.reduceLT, Int.reduceLE, Int.reduceAdd, Int.reduceSub, Int.reduceMul, Int.reduceNeg, Int.reduceToNat, reduceCtorEq, eq_self]
      simp [checkS, c6]
  by_cases c6 : e1 = 1
  · subst c6
    by_cases d1 : 0 ≤ e3 ∧ e3 ≤ 4294967295 ∧ 0 ≤ e4 ∧ e4 ≤ 65535
    · by_cases d2 : e5 < 1
      · simp only [c3, c4, call_placed, d1, d2, ↓stepR, normR, Int.cast_ofNat_Int, Int.natCast_nonneg, Int.toNat_natCast, Nat.reduceMod, Nat.reduceDiv, Nat.reducePow, Nat.testBit_eq_decide_div_mod_eq, ↓reduceIte, Nat.reduceEqDiff, Nat.reduceAdd, Nat.reduceSub, Nat.reduceMul, Nat.reduceLT, Nat.reduceLeDiff, Int.reduceEq, Int.reduceLT, Int.reduceLE, Int.reduceAdd, Int.reduceSub, Int.reduceMul, Int.reduceNeg, Int.reduceToNat, reduceCtorEq, eq_self]
        simp [checkS, d2]; omega
      · by_cases d3 : 8 < e5
        · simp only [c3, c4, call_placed, d1, d2, d3, ↓stepR, normR, Int.cast_ofNat_Int, Int.natCast_nonneg, Int.toNat_natCast, Nat.reduceMod, Nat.reduceDiv, Nat.reducePow, Nat.testBit_eq_decide_div_mod_eq, ↓reduceIte, Nat.reduceEqDiff, Nat.reduceAdd, Nat.reduceSub, Nat.reduceMul, Nat.reduceLT, Nat.reduceLeDiff, Int.reduceEq, Int.reduceLT, Int.reduceLE, Int.reduceAdd, Int.reduceSub, Int.reduceMul, Int.reduceNeg, Int.reduceToNat, reduceCtorEq, eq_self]
          simp [checkS, d3]; omega
        · simp only [c3, c4, call_placed, d1, d2, d3, veq_agg, veqs_cons, veqs_nil, veq_i, ↓stepR, normR, Int.cast_ofNat_Int, Int.natCast_nonneg, Int.toNat_natCast, Nat.reduceMod, Nat.reduceDiv, Nat.reducePow, Nat.testBit_eq_decide_div_mod_eq, ↓reduceIte, Nat.reduceEqDiff, Nat.reduceAdd, Nat.reduceSub, Nat.reduceMul, Nat.reduceLT, Nat.reduceLeDiff, Int.reduceEq, Int.reduceLT, Int.reduceLE, Int.reduceAdd, Int.reduceSub, Int.reduceMul, Int.reduceNeg, Int.reduceToNat, reduceCtorEq, eq_self]
          refine condK_of (fun c => ?_) (fun c => ?_)
          · simp only [↓stepR, normR, Int.cast_ofNat_Int, Int.natCast_nonneg, Int.toNat_natCast, Nat.reduceMod, Nat.reduceDiv, Nat.reducePow, Nat.testBit_eq_decide_div_mod_eq, ↓reduceIte, Nat.reduceEqDiff, Nat.reduceAdd, Nat.reduceSub, Nat.reduceMul, Nat.reduceLT, Nat.reduceLeDiff, Int.reduceEq, Int.reduceLT, Int.reduceLE, Int.reduceAdd, Int.reduceSub, Int.reduceMul, Int.reduceNeg, Int.reduceToNat, reduceCtorEq, eq_self]
            simp at c; simp [checkS, c, Key.eq0]; omega
          · simp only [↓stepR, normR, Int.cast_ofNat_Int, Int.natCast_nonneg, Int.toNat_natCast, Nat.reduceMod, Nat.reduceDiv, Nat.reducePow, Nat.testBit_eq_decide_div_mod_eq, ↓reduceIte, Nat.reduceEqDiff, Nat.reduceAdd, Nat.reduceSub, Nat.reduceMul, Nat.reduceLT, Nat.reduceLeDiff, Int.reduceEq, Int.reduceLT, Int.reduceLE, Int.reduceAdd, Int.reduceSub, Int.reduceMul, Int.reduceNeg, Int.reduceToNat, reduceCtorEq, eq_self]
            simp at c; simp [checkS, Key.eq0]; omega
    · simp only [c3, c4, call_placed, d1, ↓stepR, normR, Int.cast_ofNat_Int, Int.natCast_nonneg, Int.toNat_natCast, Nat.reduceMod, Nat.reduceDiv, Nat.reducePow, Nat.testBit_eq_decide_div_mod_eq, ↓reduceIte, Nat.reduceEqDiff, Nat.reduceAdd, Nat.reduceSub, Nat.reduceMul, Nat.reduceLT, Nat.reduceLeDiff, Int.reduceEq, Int.reduceLT, Int.reduceLE, Int.reduceAdd, Int.reduceSub, Int.reduceMul, Int.reduceNeg, Int.reduceToNat, reduceCtorEq, eq_self]
      simp [checkS]; omega
  · simp only [c1, c2, c3, c4, c5, c6, call_placed, veq_agg, veqs_cons, veqs_nil, veq_i, ↓stepR, normR, Int.cast_ofNat_Int, Int.natCast_nonneg, Int.toNat_natCast, Nat.reduceMod, Nat.reduceDiv, Nat.reducePow, Nat.testBit_eq_decide_div_mod_eq, ↓reduceIte, Nat.reduceEqDiff, Nat.reduceAdd, Nat.reduceSub, Nat.reduceMul, Nat.reduceLT, Nat.reduceLeDiff, Int.reduceEq, Int.reduceLT, Int.reduceLE, Int.reduceAdd, Int.reduceSub, Int.reduceMul, Int.reduceNeg, Int.reduceToNat, reduceCtorEq, eq_self]
    refine condK_of (fun c => ?_) (fun c => ?_)
    · simp only [↓stepR, normR, Int.cast_ofNat_Int, Int.natCast_nonneg, Int.toNat_natCast, Nat.reduceMod, Nat.reduceDiv, Nat.reducePow, Nat.testBit_eq_decide_div_mod_eq, ↓reduceIte, Nat.reduceEqDiff, Nat.reduceAdd, Nat.reduceSub, Nat.reduceMul, Nat.reduceLT, Nat.reduceLeDiff, Int.reduceEq, Int.reduceLT, Int.reduceLE, Int.reduceAdd, Int.reduceSub, Int.reduceMul, Int.reduceNeg, Int.reduceToNat, reduceCtorEq, eq_self]
      simp at c; simp [checkS, c1, c2, c3, c4', c5, c6, c, Key.eq0]
    · simp only [↓stepR, normR, Int.cast_ofNat_Int, Int.natCast_nonneg, Int.toNat_natCast, Nat.reduceMod, Nat.reduceDiv, Nat.reducePow, Nat.testBit_eq_decide_div_mod_eq, ↓reduceIte, Nat.reduceEqDiff, Nat.reduceAdd, Nat.reduceSub, Nat.reduceMul, Nat.reduceLT, Nat.reduceLeDiff, Int.reduceEq, Int.reduceLT, Int.reduceLE, Int.reduceAdd, Int.reduceSub, Int.reduceMul, Int.reduceNeg, Int.reduceToNat, reduceCtorEq, eq_self]
      simp at c; simp [checkS, c1, c2, c3, c4', c5, c6, Key.eq0]; omega
theorem call_check34 (e : Entry) (h : H) (k : V → H → Prop) : callK pu CL 34 [e.v] h k = k (.i .i64 (checkS e)) h := (ans_check34 e).k h k
theorem dcall_check34 (e : Entry) (h : H) (k : V → H → Cls → Prop) : callD pu CL false 34 [e.v] h k = k (.i .i64 (checkS e)) h .pu := (ans_check34 e).d h k

theorem ans_check20 (e : Entry) : Ans 20 [e.v] (.i .i64 (checkS e)) := by
  obtain ⟨e1, e2, e3, e4, e5, e6, e7⟩ := e
  refine ⟨run (fn := F20) rfl rfl ?_, rfl, rfl⟩
  unfold F20
  simp only [Entry.v, Key.v]
  by_cases c1 : e1 < 1 ∨ 6 < e1
  · have : outS e1 1 6 = true := by simp [outS]; omega
    simp only [call_out, this, ↓stepR, normR, Int.cast_ofNat_Int, Int.natCast_nonneg, Int.toNat_natCast, Nat.reduceMod, Nat.reduceDiv, Nat.reducePow, Nat.testBit_eq_decide_div_mod_eq, ↓reduceIte, Nat.reduceEqDiff, Nat.reduceAdd, Nat.reduceSub, Nat.reduceMul, Nat.reduceLT, Nat.reduceLeDiff, Int.reduceEq, Int.reduceLT, Int.reduceLE, Int.reduceAdd, Int.reduceSub, Int.reduceMul, Int.reduceNeg, Int.reduceToNat, reduceCtorEq, eq_self]
    simp [checkS, c1]
  have o1 : outS e1 1 6 = false := by simp [outS]; omega
  by_cases c3 : e2 < 0 ∨ 63 < e2
  · have : outS e2 0 63 = true := by simp [outS]; omega
    simp only [call_out, o1, this, ↓stepR, normR, Int.cast_ofNat_Int, Int.natCast_nonneg, Int.toNat_natCast, Nat.reduceMod, Nat.reduceDiv, Nat.reducePow, Nat.testBit_eq_decide_div_mod_eq, ↓reduceIte, Nat.reduceEqDiff, Nat.reduceAdd, Nat.reduceSub, Nat.reduceMul, Nat.reduceLT, Nat.reduceLeDiff, Int.reduceEq, Int.reduceLT, Int.reduceLE, Int.reduceAdd, Int.reduceSub, Int.reduceMul, Int.reduceNeg, Int.reduceToNat, reduceCtorEq, eq_self]
    simp [checkS, c1]; omega
  have o2 : outS e2 0 63 = false := by simp [outS]; omega
  by_cases c5 : e1 = 6
  · subst c5
    by_cases c6 : e2 = 0
    · subst c6
      by_cases d : e3 = 0 ∧ e4 = 0 ∧ e5 = 0
      · obtain ⟨rfl, rfl, rfl⟩ := d
        simp only [call_out, o1, o2, ↓stepR, normR, Int.cast_ofNat_Int, Int.natCast_nonneg, Int.toNat_natCast, Nat.reduceMod, Nat.reduceDiv, Nat.reducePow, Nat.testBit_eq_decide_div_mod_eq, ↓reduceIte, Nat.reduceEqDiff, Nat.reduceAdd, Nat.reduceSub, Nat.reduceMul, Nat.reduceLT, Nat.reduceLeDiff, Int.reduceEq, Int.reduceLT, Int.reduceLE, Int.reduceAdd, Int.reduceSub, Int.reduceMul, Int.reduceNeg, Int.reduceToNat, reduceCtorEq, eq_self]
        simp [checkS]
      · by_cases d1 : e3 = 0
        · by_cases d2 : e4 = 0
          · by_cases d3 : e5 = 0
            · exact absurd ⟨d1, d2, d3⟩ d
            · simp only [call_out, o1, o2, d1, d2, d3, ↓stepR, normR, Int.cast_ofNat_Int, Int.natCast_nonneg, Int.toNat_natCast, Nat.reduceMod, Nat.reduceDiv, Nat.reducePow, Nat.testBit_eq_decide_div_mod_eq, ↓reduceIte, Nat.reduceEqDiff, Nat.reduceAdd, Nat.reduceSub, Nat.reduceMul, Nat.reduceLT, Nat.reduceLeDiff, Int.reduceEq, Int.reduceLT, Int.reduceLE, Int.reduceAdd, Int.reduceSub, Int.reduceMul, Int.reduceNeg, Int.reduceToNat, reduceCtorEq, eq_self]
              simp [checkS, d3]
          · simp only [call_out, o1, o2, d1, d2, ↓stepR, normR, Int.cast_ofNat_Int, Int.natCast_nonneg, Int.toNat_natCast, Nat.reduceMod, Nat.reduceDiv, Nat.reducePow, Nat.testBit_eq_decide_div_mod_eq, ↓reduceIte, Nat.reduceEqDiff, Nat.reduceAdd, Nat.reduceSub, Nat.reduceMul, Nat.reduceLT, Nat.reduceLeDiff, Int.reduceEq, Int.reduceLT, Int.reduceLE, Int.reduceAdd, Int.reduceSub, Int.reduceMul, Int.reduceNeg, Int.reduceToNat, reduceCtorEq, eq_self]
            simp [checkS, d2]
        · simp only [call_out, o1, o2, d1, ↓stepR, normR, Int.cast_ofNat_Int, Int.natCast_nonneg, Int.toNat_natCast, Nat.reduceMod, Nat.reduceDiv, Nat.reducePow, Nat.testBit_eq_decide_div_mod_eq, ↓reduceIte, Nat.reduceEqDiff, Nat.reduceAdd, Nat.reduceSub, Nat.reduceMul, Nat.reduceLT, Nat.reduceLeDiff, Int.reduceEq, Int.reduceLT, Int.reduceLE, Int.reduceAdd, Int.reduceSub, Int.reduceMul, Int.reduceNeg, Int.reduceToNat, reduceCtorEq, eq_self]
          simp [checkS, d1]
    · simp only [call_out, o1, o2, c6, ↓stepR, normR, Int.cast_ofNat_Int, Int.natCast_nonneg, Int.toNat_natCast, Nat.reduceMod, Nat.reduceDiv, Nat.reducePow, Nat.testBit_eq_decide_div_mod_eq, ↓reduceIte, Nat.reduceEqDiff, Nat.reduceAdd, Nat.reduceSub, Nat.reduceMul, Nat.reduceLT, Nat.reduceLeDiff, Int.reduceEq, Int.reduceLT, Int.reduceLE, Int.reduceAdd, Int.reduceSub, Int.reduceMul, Int.reduceNeg, Int.reduceToNat, reduceCtorEq, eq_self]
      simp [checkS, c6]
  by_cases c6 : e1 = 1
  · subst c6
    cases h1 : outS e3 0 4294967295 with
    | true =>
      simp only [call_out, o1, o2, h1, ↓stepR, normR, Int.cast_ofNat_Int, Int.natCast_nonneg, Int.toNat_natCast, Nat.reduceMod, Nat.reduceDiv, Nat.reducePow, Nat.testBit_eq_decide_div_mod_eq, ↓reduceIte, Nat.reduceEqDiff, Nat.reduceAdd, Nat.reduceSub, Nat.reduceMul, Nat.reduceLT, Nat.reduceLeDiff, Int.reduceEq, Int.reduceLT, Int.reduceLE, Int.reduceAdd, Int.reduceSub, Int.reduceMul, Int.reduceNeg, Int.reduceToNat, reduceCtorEq, eq_self]
      simp [outS] at h1; simp [checkS]; omega
    | false => cases h2 : outS e4 0 65535 with
      | true =>
        simp only [call_out, o1, o2, h1, h2, ↓stepR, normR, Int.cast_ofNat_Int, Int.natCast_nonneg, Int.toNat_natCast, Nat.reduceMod, Nat.reduceDiv, Nat.reducePow, Nat.testBit_eq_decide_div_mod_eq, ↓reduceIte, Nat.reduceEqDiff, Nat.reduceAdd, Nat.reduceSub, Nat.reduceMul, Nat.reduceLT, Nat.reduceLeDiff, Int.reduceEq, Int.reduceLT, Int.reduceLE, Int.reduceAdd, Int.reduceSub, Int.reduceMul, Int.reduceNeg, Int.reduceToNat, reduceCtorEq, eq_self]
        simp [outS] at h2; simp [checkS]; omega
      | false => cases h3 : outS e5 1 8 with
        | true =>
          simp only [call_out, o1, o2, h1, h2, h3, ↓stepR, normR, Int.cast_ofNat_Int, Int.natCast_nonneg, Int.toNat_natCast, Nat.reduceMod, Nat.reduceDiv, Nat.reducePow, Nat.testBit_eq_decide_div_mod_eq, ↓reduceIte, Nat.reduceEqDiff, Nat.reduceAdd, Nat.reduceSub, Nat.reduceMul, Nat.reduceLT, Nat.reduceLeDiff, Int.reduceEq, Int.reduceLT, Int.reduceLE, Int.reduceAdd, Int.reduceSub, Int.reduceMul, Int.reduceNeg, Int.reduceToNat, reduceCtorEq, eq_self]
          simp [outS] at h3; simp [checkS]; omega
        | false =>
          simp only [call_out, o1, o2, h1, h2, h3, veq_agg, veqs_cons, veqs_nil, veq_i, ↓stepR, normR, Int.cast_ofNat_Int, Int.natCast_nonneg, Int.toNat_natCast, Nat.reduceMod, Nat.reduceDiv, Nat.reducePow, Nat.testBit_eq_decide_div_mod_eq, ↓reduceIte, Nat.reduceEqDiff, Nat.reduceAdd, Nat.reduceSub, Nat.reduceMul, Nat.reduceLT, Nat.reduceLeDiff, Int.reduceEq, Int.reduceLT, Int.reduceLE, Int.reduceAdd, Int.reduceSub, Int.reduceMul, Int.reduceNeg, Int.reduceToNat, reduceCtorEq, eq_self]
          simp [outS] at h1 h2 h3
          refine condK_of (fun c => ?_) (fun c => ?_)
          · simp only [↓stepR, normR, Int.cast_ofNat_Int, Int.natCast_nonneg, Int.toNat_natCast, Nat.reduceMod, Nat.reduceDiv, Nat.reducePow, Nat.testBit_eq_decide_div_mod_eq, ↓reduceIte, Nat.reduceEqDiff, Nat.reduceAdd, Nat.reduceSub, Nat.reduceMul, Nat.reduceLT, Nat.reduceLeDiff, Int.reduceEq, Int.reduceLT, Int.reduceLE, Int.reduceAdd, Int.reduceSub, Int.reduceMul, Int.reduceNeg, Int.reduceToNat, reduceCtorEq, eq_self]
            simp at c; simp [checkS, c, Key.eq0]; omega
          · simp only [↓stepR, normR, Int.cast_ofNat_Int, Int.natCast_nonneg, Int.toNat_natCast, Nat.reduceMod, Nat.reduceDiv, Nat.reducePow, Nat.testBit_eq_decide_div_mod_eq, ↓reduceIte, Nat.reduceEqDiff, Nat.reduceAdd, Nat.reduceSub, Nat.reduceMul, Nat.reduceLT, Nat.reduceLeDiff, Int.reduceEq, Int.reduceLT, Int.reduceLE, Int.reduceAdd, Int.reduceSub, Int.reduceMul, Int.reduceNeg, Int.reduceToNat, reduceCtorEq, eq_self]
            simp at c; simp [checkS, Key.eq0]; omega
  · by_cases d1 : e3 = 0
    · by_cases d2 : e4 = 0
      · by_cases d3 : e5 = 0
        · simp only [call_out, o1, o2, c5, c6, d1, d2, d3, veq_agg, veqs_cons, veqs_nil, veq_i, ↓stepR, normR, Int.cast_ofNat_Int, Int.natCast_nonneg, Int.toNat_natCast, Nat.reduceMod, Nat.reduceDiv, Nat.reducePow, Nat.testBit_eq_decide_div_mod_eq, ↓reduceIte, Nat.reduceEqDiff, Nat.reduceAdd, Nat.reduceSub, Nat.reduceMul, Nat.reduceLT, Nat.reduceLeDiff, Int.reduceEq, Int.reduceLT, Int.reduceLE, Int.reduceAdd, Int.reduceSub, Int.reduceMul, Int.reduceNeg, Int.reduceToNat, reduceCtorEq, eq_self]
          refine condK_of (fun c => ?_) (fun c => ?_)
          · simp only [↓stepR, normR, Int.cast_ofNat_Int, Int.natCast_nonneg, Int.toNat_natCast, Nat.reduceMod, Nat.reduceDiv, Nat.reducePow, Nat.testBit_eq_decide_div_mod_eq, ↓reduceIte, Nat.reduceEqDiff, Nat.reduceAdd, Nat.reduceSub, Nat.reduceMul, Nat.reduceLT, Nat.reduceLeDiff, Int.reduceEq, Int.reduceLT, Int.reduceLE, Int.reduceAdd, Int.reduceSub, Int.reduceMul, Int.reduceNeg, Int.reduceToNat, reduceCtorEq, eq_self]
            simp at c; simp [checkS, c1, c3, c5, c6, d1, d2, d3, c, Key.eq0]
          · simp only [↓stepR, normR, Int.cast_ofNat_Int, Int.natCast_nonneg, Int.toNat_natCast, Nat.reduceMod, Nat.reduceDiv, Nat.reducePow, Nat.testBit_eq_decide_div_mod_eq, ↓reduceIte, Nat.reduceEqDiff, Nat.reduceAdd, Nat.reduceSub, Nat.reduceMul, Nat.reduceLT, Nat.reduceLeDiff, Int.reduceEq, Int.reduceLT, Int.reduceLE, Int.reduceAdd, Int.reduceSub, Int.reduceMul, Int.reduceNeg, Int.reduceToNat, reduceCtorEq, eq_self]
            simp at c; simp [checkS, c1, c3, c5, c6, Key.eq0]; omega
        · simp only [call_out, o1, o2, c5, c6, d1, d2, d3, ↓stepR, normR, Int.cast_ofNat_Int, Int.natCast_nonneg, Int.toNat_natCast, Nat.reduceMod, Nat.reduceDiv, Nat.reducePow, Nat.testBit_eq_decide_div_mod_eq, ↓reduceIte, Nat.reduceEqDiff, Nat.reduceAdd, Nat.reduceSub, Nat.reduceMul, Nat.reduceLT, Nat.reduceLeDiff, Int.reduceEq, Int.reduceLT, Int.reduceLE, Int.reduceAdd, Int.reduceSub, Int.reduceMul, Int.reduceNeg, Int.reduceToNat, reduceCtorEq, eq_self]
          simp [checkS, c1, c3, c5, c6, d3]
      · simp only [call_out, o1, o2, c5, c6, d1, d2, ↓stepR, normR, Int.cast_ofNat_Int, Int.natCast_nonneg, Int.toNat_natCast, Nat.reduceMod, Nat.reduceDiv, Nat.reducePow, Nat.testBit_eq_decide_div_mod_eq, ↓reduceIte, Nat.reduceEqDiff, Nat.reduceAdd, Nat.reduceSub, Nat.reduceMul, Nat.reduceLT, Nat.reduceLeDiff, Int.reduceEq, Int.reduceLT, Int.reduceLE, Int.reduceAdd, Int.reduceSub, Int.reduceMul, Int.reduceNeg, Int.reduceToNat, reduceCtorEq, eq_self]
        simp [checkS, c1, c3, c5, c6, d2]
    · simp only [call_out, o1, o2, c5, c6, d1, ↓stepR, normR, Int.cast_ofNat_Int, Int.natCast_nonneg, Int.toNat_natCast, Nat.reduceMod, Nat.reduceDiv, Nat.reducePow, Nat.testBit_eq_decide_div_mod_eq, ↓reduceIte, Nat.reduceEqDiff, Nat.reduceAdd, Nat.reduceSub, Nat.reduceMul, Nat.reduceLT, Nat.reduceLeDiff, Int.reduceEq, Int.reduceLT, Int.reduceLE, Int.reduceAdd, Int.reduceSub, Int.reduceMul, Int.reduceNeg, Int.reduceToNat, reduceCtorEq, eq_self]
      simp [checkS, c1, c3, c5, c6, d1]
theorem call_check20 (e : Entry) (h : H) (k : V → H → Prop) : callK pu CL 20 [e.v] h k = k (.i .i64 (checkS e)) h := (ans_check20 e).k h k
theorem dcall_check20 (e : Entry) (h : H) (k : V → H → Cls → Prop) : callD pu CL false 20 [e.v] h k = k (.i .i64 (checkS e)) h .pu := (ans_check20 e).d h k

theorem ans_takes (s : Slot) : Ans 42 [s.v] (.b (decide (s.state = 1 ∨ s.state = 2 ∨ s.state = 3))) := by
  obtain ⟨s1, s2, s3, s4, s5⟩ := s
  refine ⟨run (fn := F42) rfl rfl ?_, rfl, rfl⟩
  unfold F42
  simp only [Slot.v]
  by_cases c1 : s1 = 1
  · simp only [c1, ↓stepR, normR, Int.cast_ofNat_Int, Int.natCast_nonneg, Int.toNat_natCast, Nat.reduceMod, Nat.reduceDiv, Nat.reducePow, Nat.testBit_eq_decide_div_mod_eq, ↓reduceIte, Nat.reduceEqDiff, Nat.reduceAdd, Nat.reduceSub, Nat.reduceMul, Nat.reduceLT, Nat.reduceLeDiff, Int.reduceEq, Int.reduceLT, Int.reduceLE, Int.reduceAdd, Int.reduceSub, Int.reduceMul, Int.reduceNeg, Int.reduceToNat, reduceCtorEq, eq_self]
  · by_cases c2 : s1 = 2
    · simp only [c1, c2, ↓stepR, normR, Int.cast_ofNat_Int, Int.natCast_nonneg, Int.toNat_natCast, Nat.reduceMod, Nat.reduceDiv, Nat.reducePow, Nat.testBit_eq_decide_div_mod_eq, ↓reduceIte, Nat.reduceEqDiff, Nat.reduceAdd, Nat.reduceSub, Nat.reduceMul, Nat.reduceLT, Nat.reduceLeDiff, Int.reduceEq, Int.reduceLT, Int.reduceLE, Int.reduceAdd, Int.reduceSub, Int.reduceMul, Int.reduceNeg, Int.reduceToNat, reduceCtorEq, eq_self]
    · simp only [c1, c2, ↓stepR, normR, Int.cast_ofNat_Int, Int.natCast_nonneg, Int.toNat_natCast, Nat.reduceMod, Nat.reduceDiv, Nat.reducePow, Nat.testBit_eq_decide_div_mod_eq, ↓reduceIte, Nat.reduceEqDiff, Nat.reduceAdd, Nat.reduceSub, Nat.reduceMul, Nat.reduceLT, Nat.reduceLeDiff, Int.reduceEq, Int.reduceLT, Int.reduceLE, Int.reduceAdd, Int.reduceSub, Int.reduceMul, Int.reduceNeg, Int.reduceToNat, reduceCtorEq, eq_self]; simp [c1, c2]
theorem call_takes (s : Slot) (h : H) (k : V → H → Prop) : callK pu CL 42 [s.v] h k = k (.b (decide (s.state = 1 ∨ s.state = 2 ∨ s.state = 3))) h := (ans_takes s).k h k
theorem dcall_takes (s : Slot) (h : H) (k : V → H → Cls → Prop) : callD pu CL false 42 [s.v] h k = k (.b (decide (s.state = 1 ∨ s.state = 2 ∨ s.state = 3))) h .pu := (ans_takes s).d h k

theorem call_takesC (s1 s2 s3 s4 s5 : Int) (h : H) (k : V → H → Prop) : callK pu CL 42 [.agg 11 [.i .i64 s1, .i .i64 s2, .i .i64 s3, .i .i64 s4, .i .i64 s5]] h k = k (.b (decide (s1 = 1 ∨ s1 = 2 ∨ s1 = 3))) h :=
  call_takes ⟨s1, s2, s3, s4, s5⟩ h k

/-! ### search -/
def stands (a b : Int) (s : Slot) : Bool := decide ((s.state = 1 ∨ s.state = 2 ∨ s.state = 3) ∧ s.addr = a ∧ s.port = b)
def taken (a b : Int) (s : Slot) : Bool := decide (s.state ≠ 0 ∧ s.addr = a ∧ s.port = b)
def findV (o : Option Nat) : V := match o with | some i => .tup [.i .i64 i, .b true] | none => .tup [.i .i64 0, .b false]
def heldS (p : Pool) (a b : Int) : Bool := p.slots.any (taken a b) || decide (p.addr = a ∧ p.port = b)

theorem findIdx_at {α : Type} {P : α → Bool} {l : List α} {i : Nat} (hi : i < l.length) (hp : P l[i] = true) (hn : ∀ j (hj : j < l.length), j < i → P l[j] = false) : l.findIdx? P = some i := by
  rw [List.findIdx?_eq_some_iff_getElem]
  exact ⟨hi, hp, fun j hj => by simpa using hn j (by omega) hj⟩
theorem findIdx_no {α : Type} {P : α → Bool} {l : List α} (hn : ∀ j (hj : j < l.length), P l[j] = false) : l.findIdx? P = none := by
  rw [List.findIdx?_eq_none_iff]
  intro x hx
  obtain ⟨j, hj, rfl⟩ := List.getElem_of_mem hx
  exact hn j hj

theorem wrap_up {i : Nat} (h : i < 4611686018427387904) : IntKind.i64.wrap ((i : Int) + 1) = ((i + 1 : Nat) : Int) := by
  rw [w64 (by unfold r64; omega)]; rfl

theorem ans_find16 (p : Pool) (hp : p.slots.length = 64) (a b : Int) : Ans 16 [p.v, .i .i64 a, .i .i64 b] (findV (p.slots.findIdx? (stands a b))) := by
  refine ⟨run (fn := F16) rfl rfl ?_, rfl, (by cases p.slots.findIdx? (stands a b) <;> rfl)⟩
  unfold F16
  simp only [Pool.sh, Pool.nt, ↓stepR, normR, Int.cast_ofNat_Int, Int.natCast_nonneg, Int.toNat_natCast, Nat.reduceMod, Nat.reduceDiv, Nat.reducePow, Nat.testBit_eq_decide_div_mod_eq, ↓reduceIte, Nat.reduceEqDiff, Nat.reduceAdd, Nat.reduceSub, Nat.reduceMul, Nat.reduceLT, Nat.reduceLeDiff, Int.reduceEq, Int.reduceLT, Int.reduceLE, Int.reduceAdd, Int.reduceSub, Int.reduceMul, Int.reduceNeg, Int.reduceToNat, reduceCtorEq, eq_self]
  refine W_up 64 (fun i e h => e = [(1, .i .i64 a), (2, .i .i64 b), (3, .ptr 0 0 [] 15), (8, .i .i64 i)] ∧ h.get 0 = some (.cells p.v false false) ∧ ∀ j (hj : j < p.slots.length), j < i → stands a b p.slots[j] = false) ?_ 0 (by omega) _ _ ?_
  · rintro i e h hi ⟨rfl, hg, hn⟩
    have hn0 : ¬ 0 = h.n := by have := H.lt_of hg; omega
    simp only [Pool.v] at hg
    by_cases c1 : (i : Int) < 64
    · have hi' : i < p.slots.length := by omega
      have hi2 : i < 64 := by omega
      cases hs : stands a b p.slots[i] with
      | true =>
        have hd := hs
        simp only [stands, decide_eq_true_eq] at hd
        obtain ⟨d1, d2, d3⟩ := hd
        simp only [c1, objK_of hg, Pool.v, nthK_map _ _ _ _ hi', call_takesC, hn0, Slot.v, d1, d2, d3, ↓stepR, normR, Int.cast_ofNat_Int, Int.natCast_nonneg, Int.toNat_natCast, Nat.reduceMod, Nat.reduceDiv, Nat.reducePow, Nat.testBit_eq_decide_div_mod_eq, ↓reduceIte, Nat.reduceEqDiff, Nat.reduceAdd, Nat.reduceSub, Nat.reduceMul, Nat.reduceLT, Nat.reduceLeDiff, Int.reduceEq, Int.reduceLT, Int.reduceLE, Int.reduceAdd, Int.reduceSub, Int.reduceMul, Int.reduceNeg, Int.reduceToNat, reduceCtorEq, eq_self]
        rw [findIdx_at hi' hs hn]; rfl
      | false =>
        have hd : ¬ ((p.slots[i].state = 1 ∨ p.slots[i].state = 2 ∨ p.slots[i].state = 3) ∧ p.slots[i].addr = a ∧ p.slots[i].port = b) := by simpa [stands] using hs
        have fin : ∀ j (hj : j < p.slots.length), j < i + 1 → stands a b p.slots[j] = false := fun j hj hlt => by
          by_cases e : j = i
          · subst e; exact hs
          · exact hn j hj (by omega)
        have hw := @wrap_up i (by omega)
        by_cases d1 : p.slots[i].state = 1 ∨ p.slots[i].state = 2 ∨ p.slots[i].state = 3
        · by_cases d2 : p.slots[i].addr = a
          · have d3 : ¬ p.slots[i].port = b := fun d3 => hd ⟨d1, d2, d3⟩
            simp only [c1, objK_of hg, Pool.v, nthK_map _ _ _ _ hi', call_takesC, hn0, Slot.v, d1, d2, d3, hw, hi2, hg, ↓stepR, normR, Int.cast_ofNat_Int, Int.natCast_nonneg, Int.toNat_natCast, Nat.reduceMod, Nat.reduceDiv, Nat.reducePow, Nat.testBit_eq_decide_div_mod_eq, ↓reduceIte, Nat.reduceEqDiff, Nat.reduceAdd, Nat.reduceSub, Nat.reduceMul, Nat.reduceLT, Nat.reduceLeDiff, Int.reduceEq, Int.reduceLT, Int.reduceLE, Int.reduceAdd, Int.reduceSub, Int.reduceMul, Int.reduceNeg, Int.reduceToNat, reduceCtorEq, eq_self]
            exact fin
          · simp only [c1, objK_of hg, Pool.v, nthK_map _ _ _ _ hi', call_takesC, hn0, Slot.v, d1, d2, hw, hi2, hg, ↓stepR, normR, Int.cast_ofNat_Int, Int.natCast_nonneg, Int.toNat_natCast, Nat.reduceMod, Nat.reduceDiv, Nat.reducePow, Nat.testBit_eq_decide_div_mod_eq, ↓reduceIte, Nat.reduceEqDiff, Nat.reduceAdd, Nat.reduceSub, Nat.reduceMul, Nat.reduceLT, Nat.reduceLeDiff, Int.reduceEq, Int.reduceLT, Int.reduceLE, Int.reduceAdd, Int.reduceSub, Int.reduceMul, Int.reduceNeg, Int.reduceToNat, reduceCtorEq, eq_self]
            exact fin
        · simp only [c1, objK_of hg, Pool.v, nthK_map _ _ _ _ hi', call_takesC, hn0, Slot.v, d1, hw, hi2, hg, ↓stepR, normR, Int.cast_ofNat_Int, Int.natCast_nonneg, Int.toNat_natCast, Nat.reduceMod, Nat.reduceDiv, Nat.reducePow, Nat.testBit_eq_decide_div_mod_eq, ↓reduceIte, Nat.reduceEqDiff, Nat.reduceAdd, Nat.reduceSub, Nat.reduceMul, Nat.reduceLT, Nat.reduceLeDiff, Int.reduceEq, Int.reduceLT, Int.reduceLE, Int.reduceAdd, Int.reduceSub, Int.reduceMul, Int.reduceNeg, Int.reduceToNat, reduceCtorEq, eq_self]
          exact fin
    · simp only [c1, ↓stepR, normR, Int.cast_ofNat_Int, Int.natCast_nonneg, Int.toNat_natCast, Nat.reduceMod, Nat.reduceDiv, Nat.reducePow, Nat.testBit_eq_decide_div_mod_eq, ↓reduceIte, Nat.reduceEqDiff, Nat.reduceAdd, Nat.reduceSub, Nat.reduceMul, Nat.reduceLT, Nat.reduceLeDiff, Int.reduceEq, Int.reduceLT, Int.reduceLE, Int.reduceAdd, Int.reduceSub, Int.reduceMul, Int.reduceNeg, Int.reduceToNat, reduceCtorEq, eq_self]
      rw [findIdx_no fun j hj => hn j hj (by omega)]; rfl
  · exact ⟨rfl, rfl, fun j hj h => absurd h (by omega)⟩
theorem call_find16 (p : Pool) (hp : p.slots.length = 64) (a b : Int) (h : H) (k : V → H → Prop) : callK pu CL 16 [p.v, .i .i64 a, .i .i64 b] h k = k (findV (p.slots.findIdx? (stands a b))) h := (ans_find16 p hp a b).k h k
theorem dcall_find16 (p : Pool) (hp : p.slots.length = 64) (a b : Int) (h : H) (k : V → H → Cls → Prop) : callD pu CL false 16 [p.v, .i .i64 a, .i .i64 b] h k = k (findV (p.slots.findIdx? (stands a b))) h .pu := (ans_find16 p hp a b).d h k
end Go.Rae.Order
