/- Twelve closed runs. -/
import Derived.Test.YtannfoaobeoafaaDoorOrdKnown
set_option linter.unusedVariables false
set_option linter.unusedSimpArgs false
namespace Go.Rae.Order
set_option maxRecDepth 1000000

def ent (a b c d e f g : Int) : V := .agg 16 [.i .i64 a, .i .i64 b, .i .i64 c, .i .i64 d, .i .i64 e, .agg 13 [.i .u64 f, .i .u64 g]]
theorem ent_eq (a b c d e f g : Int) : ent a b c d e f g = .agg 16 [.i .i64 a, .i .i64 b, .i .i64 c, .i .i64 d, .i .i64 e, .agg 13 [.i .u64 f, .i .u64 g]] := rfl

def txt : Nat → List UInt8
  | 0 => [98, 105, 110, 100, 32, 49, 32, 52, 50, 57, 52, 57, 54, 55, 50, 57, 53, 32, 54, 53, 53, 51, 53, 32, 56]
  | 1 => [111, 112, 101, 110, 32, 54, 51]
  | 2 => [100, 114, 97, 105, 110, 32, 48]
  | 3 => [115, 104, 117, 116, 32, 49, 48]
  | 4 => [102, 114, 101, 101, 32, 57]
  | _ => [114, 111, 116, 97, 116, 101, 32, 49, 56, 52, 52, 54, 55, 52, 52, 48, 55, 51, 55, 48, 57, 53, 53, 49, 54, 49, 53, 32, 48]
def dat : Nat → V
  | 0 => ent 1 1 4294967295 65535 8 0 0
  | 1 => ent 2 63 0 0 0 0 0
  | 2 => ent 3 0 0 0 0 0 0
  | 3 => ent 4 10 0 0 0 0 0
  | 4 => ent 5 9 0 0 0 0 0
  | _ => ent 6 0 0 0 0 18446744073709551615 0

theorem text0 : runIs (acall pu bodies ext 100000 60 21 [dat 0] H.empty) (.s (txt 0)) = true := by decide +kernel
theorem text1 : runIs (acall pu bodies ext 100000 60 21 [dat 1] H.empty) (.s (txt 1)) = true := by decide +kernel
theorem text2 : runIs (acall pu bodies ext 100000 60 21 [dat 2] H.empty) (.s (txt 2)) = true := by decide +kernel
theorem text3 : runIs (acall pu bodies ext 100000 60 21 [dat 3] H.empty) (.s (txt 3)) = true := by decide +kernel
theorem text4 : runIs (acall pu bodies ext 100000 60 21 [dat 4] H.empty) (.s (txt 4)) = true := by decide +kernel
theorem text5 : runIs (acall pu bodies ext 100000 60 21 [dat 5] H.empty) (.s (txt 5)) = true := by decide +kernel
theorem parse0 : runIs (acall pu bodies ext 100000 60 22 [.s (txt 0)] H.empty) (.tup [dat 0, .b true]) = true := by decide +kernel
theorem parse1 : runIs (acall pu bodies ext 100000 60 22 [.s (txt 1)] H.empty) (.tup [dat 1, .b true]) = true := by decide +kernel
theorem parse2 : runIs (acall pu bodies ext 100000 60 22 [.s (txt 2)] H.empty) (.tup [dat 2, .b true]) = true := by decide +kernel
theorem parse3 : runIs (acall pu bodies ext 100000 60 22 [.s (txt 3)] H.empty) (.tup [dat 3, .b true]) = true := by decide +kernel
theorem parse4 : runIs (acall pu bodies ext 100000 60 22 [.s (txt 4)] H.empty) (.tup [dat 4, .b true]) = true := by decide +kernel
theorem parse5 : runIs (acall pu bodies ext 100000 60 22 [.s (txt 5)] H.empty) (.tup [dat 5, .b true]) = true := by decide +kernel


end Go.Rae.Order
