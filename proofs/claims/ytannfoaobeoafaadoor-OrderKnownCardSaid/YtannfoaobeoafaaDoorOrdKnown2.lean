/- OrderKnown: six closed runs behind a choice. -/
import Derived.Test.YtannfoaobeoafaaDoorOrdKnownT
set_option linter.unusedVariables false
set_option linter.unusedSimpArgs false
namespace Go.Rae.Order
set_option maxRecDepth 1000000

theorem call_text (z : Nat) (hz : runIs (acall pu bodies ext 100000 60 21 [dat z] H.empty) (.s (txt z)) = true) (hp : noRefs pu [dat z] = true) (h : H) (k : V → H → Cls → Prop) : callD pu CL false 21 [dat z] h k = k (.s (txt z)) h .pu :=
  callD_pure h k (runs_closed hz) hp rfl
theorem call_parse (z : Nat) (hz : runIs (acall pu bodies ext 100000 60 22 [.s (txt z)] H.empty) (.tup [dat z, .b true]) = true) (hp : noRefs pu [dat z, .b true] = true) (h : H) (k : V → H → Prop) : callK pu CL 22 [.s (txt z)] h k = k (.tup [dat z, .b true]) h :=
  callK_pure (runs_closed hz) rfl hp h k

theorem law_known (w : Int) (h : H) : Runs CL 30 [.i .i64 w] h fun v _ => v = .b true := by
  refine run (fn := F30) rfl rfl ?_
  unfold F30
  have hz : w % 6 = 0 ∨ w % 6 = 1 ∨ w % 6 = 2 ∨ w % 6 = 3 ∨ w % 6 = 4 ∨ w % 6 = 5 := by omega
  rcases hz with hz | hz | hz | hz | hz | hz
  · have c1 := call_text 0 text0 rfl
    have c2 := call_parse 0 parse0 rfl
    simp only [dat, txt, ent] at c1 c2
    simp only [call_known, call_within3 w 6 (by decide) (by decide), hz, c1, c2, ↓stepR, normR, Int.cast_ofNat_Int, Int.natCast_nonneg, Int.toNat_natCast, Nat.reduceMod, Nat.reduceDiv, Nat.reducePow, Nat.testBit_eq_decide_div_mod_eq, ↓reduceIte, Nat.reduceEqDiff, Nat.reduceAdd, Nat.reduceSub, Nat.reduceMul, Nat.reduceLT, Nat.reduceLeDiff, Int.reduceEq, Int.reduceLT, Int.reduceLE, Int.reduceAdd, Int.reduceSub, Int.reduceMul, Int.reduceNeg, Int.reduceToNat, reduceCtorEq, eq_self]
    rfl
  · have c1 := call_text 1 text1 rfl
    have c2 := call_parse 1 parse1 rfl
    simp only [dat, txt, ent] at c1 c2
    simp only [call_known, call_within3 w 6 (by decide) (by decide), hz, c1, c2, ↓stepR, normR, Int.cast_ofNat_Int, Int.natCast_nonneg, Int.toNat_natCast, Nat.reduceMod, Nat.reduceDiv, Nat.reducePow, Nat.testBit_eq_decide_div_mod_eq, ↓reduceIte, Nat.reduceEqDiff, Nat.reduceAdd, Nat.reduceSub, Nat.reduceMul, Nat.reduceLT, Nat.reduceLeDiff, Int.reduceEq, Int.reduceLT, Int.reduceLE, Int.reduceAdd, Int.reduceSub, Int.reduceMul, Int.reduceNeg, Int.reduceToNat, reduceCtorEq, eq_self]
    rfl
  · have c1 := call_text 2 text2 rfl
    have c2 := call_parse 2 parse2 rfl
    simp only [dat, txt, ent] at c1 c2
    simp only [call_known, call_within3 w 6 (by decide) (by decide), hz, c1, c2, ↓stepR, normR, Int.cast_ofNat_Int, Int.natCast_nonneg, Int.toNat_natCast, Nat.reduceMod, Nat.reduceDiv, Nat.reducePow, Nat.testBit_eq_decide_div_mod_eq, ↓reduceIte, Nat.reduceEqDiff, Nat.reduceAdd, Nat.reduceSub, Nat.reduceMul, Nat.reduceLT, Nat.reduceLeDiff, Int.reduceEq, Int.reduceLT, Int.reduceLE, Int.reduceAdd, Int.reduceSub, Int.reduceMul, Int.reduceNeg, Int.reduceToNat, reduceCtorEq, eq_self]
    rfl
  · have c1 := call_text 3 text3 rfl
    have c2 := call_parse 3 parse3 rfl
    simp only [dat, txt, ent] at c1 c2
    simp only [call_known, call_within3 w 6 (by decide) (by decide), hz, c1, c2, ↓stepR, normR, Int.cast_ofNat_Int, Int.natCast_nonneg, Int.toNat_natCast, Nat.reduceMod, Nat.reduceDiv, Nat.reducePow, Nat.testBit_eq_decide_div_mod_eq, ↓reduceIte, Nat.reduceEqDiff, Nat.reduceAdd, Nat.reduceSub, Nat.reduceMul, Nat.reduceLT, Nat.reduceLeDiff, Int.reduceEq, Int.reduceLT, Int.reduceLE, Int.reduceAdd, Int.reduceSub, Int.reduceMul, Int.reduceNeg, Int.reduceToNat, reduceCtorEq, eq_self]
    rfl
  · have c1 := call_text 4 text4 rfl
    have c2 := call_parse 4 parse4 rfl
    simp only [dat, txt, ent] at c1 c2
    simp only [call_known, call_within3 w 6 (by decide) (by decide), hz, c1, c2, ↓stepR, normR, Int.cast_ofNat_Int, Int.natCast_nonneg, Int.toNat_natCast, Nat.reduceMod, Nat.reduceDiv, Nat.reducePow, Nat.testBit_eq_decide_div_mod_eq, ↓reduceIte, Nat.reduceEqDiff, Nat.reduceAdd, Nat.reduceSub, Nat.reduceMul, Nat.reduceLT, Nat.reduceLeDiff, Int.reduceEq, Int.reduceLT, Int.reduceLE, Int.reduceAdd, Int.reduceSub, Int.reduceMul, Int.reduceNeg, Int.reduceToNat, reduceCtorEq, eq_self]
    rfl
  · have c1 := call_text 5 text5 rfl
    have c2 := call_parse 5 parse5 rfl
    simp only [dat, txt, ent] at c1 c2
    simp only [call_known, call_within3 w 6 (by decide) (by decide), hz, c1, c2, ↓stepR, normR, Int.cast_ofNat_Int, Int.natCast_nonneg, Int.toNat_natCast, Nat.reduceMod, Nat.reduceDiv, Nat.reducePow, Nat.testBit_eq_decide_div_mod_eq, ↓reduceIte, Nat.reduceEqDiff, Nat.reduceAdd, Nat.reduceSub, Nat.reduceMul, Nat.reduceLT, Nat.reduceLeDiff, Int.reduceEq, Int.reduceLT, Int.reduceLE, Int.reduceAdd, Int.reduceSub, Int.reduceMul, Int.reduceNeg, Int.reduceToNat, reduceCtorEq, eq_self]
    rfl
end Go.Rae.Order
