/-
  DERIVED. GIVEN WITH THE SEED: THE CARDS: each row of YtannfoaobeoafaaDoorRows.lean that lists a variable, with what it lists TIED to the program's text (the seventh form; the later family's looks); each row that meets fmt, with fmt's text TOLD by the authors' own Lean function (tested against real Go, not proved from fmt's source: count such statements apart). THE CARD IS WHAT COUNTS. Prove the row's statement (the work); the ties are given (YtannfoaobeoafaaDoorTie.lean); close each card by the builder's one call (the guide's Derived/Test/ToyasCard.lean, 'card_holds'). Laid BY PROGRAM, IN A SANDBOX (cutbox-door.mjs). By AI agents, Wed Nov 11 2026. No macro, syntax, notation, axiom, sorry.
-/
import Derived.Test.YtannfoaobeoafaaDoorRows
import GoSem.ClaimSeven
namespace Go.Proofs.YtannfoaobeoafaaDoor
namespace Rows

/-- THE TIED CARD OF 'roundhouselaw10.OrderAll'. -/
def orderAllCard : Claim7 := { stood := { row := orderAllRow, standIns := [], harness := (true, "0d75e0780d57883242ab6289fccb8f27107ea2a544d150bc9a43f103eea64f16"), looks := true }, kinds := [], alts := [], laidByText := true, laidKinds := [.data, .data, .data, .sentinel, .sentinel], laidTests := true, laidLooks := .later }
def OrderAllCardSaid : Prop := Claim7.holds Tryd.pinned (.plain (OpenSpec.ofChange orderAllSpec)) orderAllCard

/-- THE TIED CARD OF 'roundhouselaw10.OrderDone'. -/
def orderDoneCard : Claim7 := { stood := { row := orderDoneRow, standIns := [], harness := (true, "0d75e0780d57883242ab6289fccb8f27107ea2a544d150bc9a43f103eea64f16"), looks := true }, kinds := [], alts := [], laidByText := true, laidKinds := [.data, .data, .data, .sentinel, .sentinel], laidTests := true, laidLooks := .later }
def OrderDoneCardSaid : Prop := Claim7.holds Tryd.pinned (.plain (OpenSpec.ofChange orderDoneSpec)) orderDoneCard

/-- THE TIED CARD OF 'roundhouselaw10.OrderMarks'. -/
def orderMarksCard : Claim7 := { stood := { row := orderMarksRow, standIns := [], harness := (true, "0d75e0780d57883242ab6289fccb8f27107ea2a544d150bc9a43f103eea64f16"), looks := true }, kinds := [], alts := [], laidByText := true, laidKinds := [.data, .data, .data, .sentinel, .sentinel], laidTests := true, laidLooks := .later }
def OrderMarksCardSaid : Prop := Claim7.holds Tryd.pinned (.plain (OpenSpec.ofChange orderMarksSpec)) orderMarksCard

/-- THE TIED CARD OF 'roundhouselaw10.OrderBack'. -/
def orderBackCard : Claim7 := { stood := { row := orderBackRow, standIns := [], harness := (true, "0d75e0780d57883242ab6289fccb8f27107ea2a544d150bc9a43f103eea64f16"), looks := true }, kinds := [], alts := [], laidByText := true, laidKinds := [.data, .data, .data, .sentinel, .sentinel], laidTests := true, laidLooks := .later }
def OrderBackCardSaid : Prop := Claim7.holds Tryd.pinned (.plain (OpenSpec.ofChange orderBackSpec)) orderBackCard

/-- THE TIED CARD OF 'roundhouselaw10.OrderReads'. -/
def orderReadsCard : Claim7 := { stood := { row := orderReadsRow, standIns := [], harness := (true, "0d75e0780d57883242ab6289fccb8f27107ea2a544d150bc9a43f103eea64f16"), looks := true }, kinds := [], alts := [], laidByText := true, laidKinds := [.data, .data, .data, .sentinel, .sentinel], laidTests := true, laidLooks := .later }
def OrderReadsCardSaid : Prop := Claim7.holds Tryd.pinned (.plain (OpenSpec.ofChange orderReadsSpec)) orderReadsCard

/-- THE TIED CARD OF 'roundhouselaw10.OrderFull'. -/
def orderFullCard : Claim7 := { stood := { row := orderFullRow, standIns := [], harness := (true, "0d75e0780d57883242ab6289fccb8f27107ea2a544d150bc9a43f103eea64f16"), looks := true }, kinds := [], alts := [], laidByText := true, laidKinds := [.data, .data, .data, .sentinel, .sentinel], laidTests := true, laidLooks := .later }
def OrderFullCardSaid : Prop := Claim7.holds Tryd.pinned (.plain (OpenSpec.ofChange orderFullSpec)) orderFullCard

/-- THE TIED CARD OF 'roundhouselaw10.OrderTwice'. -/
def orderTwiceCard : Claim7 := { stood := { row := orderTwiceRow, standIns := [], harness := (true, "0d75e0780d57883242ab6289fccb8f27107ea2a544d150bc9a43f103eea64f16"), looks := true }, kinds := [], alts := [], laidByText := true, laidKinds := [.data, .data, .data, .sentinel, .sentinel], laidTests := true, laidLooks := .later }
def OrderTwiceCardSaid : Prop := Claim7.holds Tryd.pinned (.plain (OpenSpec.ofChange orderTwiceSpec)) orderTwiceCard

/-- THE TIED CARD OF 'roundhouselaw10.OrderFrees'. -/
def orderFreesCard : Claim7 := { stood := { row := orderFreesRow, standIns := [], harness := (true, "0d75e0780d57883242ab6289fccb8f27107ea2a544d150bc9a43f103eea64f16"), looks := true }, kinds := [], alts := [], laidByText := true, laidKinds := [.data, .data, .data, .sentinel, .sentinel], laidTests := true, laidLooks := .later }
def OrderFreesCardSaid : Prop := Claim7.holds Tryd.pinned (.plain (OpenSpec.ofChange orderFreesSpec)) orderFreesCard

/-- THE TIED CARD OF 'roundhouselaw10.OrderKnown'. -/
def orderKnownCard : Claim7 := { stood := { row := orderKnownRow, standIns := [], harness := (true, "0d75e0780d57883242ab6289fccb8f27107ea2a544d150bc9a43f103eea64f16"), looks := true }, kinds := [], alts := [], laidByText := true, laidKinds := [.data, .data, .data, .sentinel, .sentinel], laidTests := true, laidLooks := .later }
def OrderKnownCardSaid : Prop := Claim7.holds Tryd.pinned (.plain (OpenSpec.ofChange orderKnownSpec)) orderKnownCard

/-- THE TIED CARD OF 'roundhouselaw10.OrderNone'. -/
def orderNoneCard : Claim7 := { stood := { row := orderNoneRow, standIns := [], harness := (true, "0d75e0780d57883242ab6289fccb8f27107ea2a544d150bc9a43f103eea64f16"), looks := true }, kinds := [], alts := [], laidByText := true, laidKinds := [.data, .data, .data, .sentinel, .sentinel], laidTests := true, laidLooks := .later }
def OrderNoneCardSaid : Prop := Claim7.holds Tryd.pinned (.plain (OpenSpec.ofChange orderNoneSpec)) orderNoneCard

/-- THE TIED CARD OF 'roundhouselaw10.OrderOwn'. -/
def orderOwnCard : Claim7 := { stood := { row := orderOwnRow, standIns := [], harness := (true, "0d75e0780d57883242ab6289fccb8f27107ea2a544d150bc9a43f103eea64f16"), looks := true }, kinds := [], alts := [], laidByText := true, laidKinds := [.data, .data, .data, .sentinel, .sentinel], laidTests := true, laidLooks := .later }
def OrderOwnCardSaid : Prop := Claim7.holds Tryd.pinned (.plain (OpenSpec.ofChange orderOwnSpec)) orderOwnCard

/-- THE SECOND FORM's CARD OF 'roundhouselaw10.OrderAll'. -/
def orderAllUptoCard : Claim7 := { stood := { row := orderAllUptoRow, standIns := [], harness := (true, "0d75e0780d57883242ab6289fccb8f27107ea2a544d150bc9a43f103eea64f16"), looks := true }, kinds := [], alts := [], laidByText := true, laidKinds := [.data, .data, .data, .sentinel, .sentinel], laidTests := true, laidLooks := .later }
def OrderAllUptoCardSaid : Prop := Claim7.holds Tryd.pinned (.plain (OpenSpec.upto orderAllSpec)) orderAllUptoCard

/-- THE SECOND FORM's CARD OF 'roundhouselaw10.OrderDone'. -/
def orderDoneUptoCard : Claim7 := { stood := { row := orderDoneUptoRow, standIns := [], harness := (true, "0d75e0780d57883242ab6289fccb8f27107ea2a544d150bc9a43f103eea64f16"), looks := true }, kinds := [], alts := [], laidByText := true, laidKinds := [.data, .data, .data, .sentinel, .sentinel], laidTests := true, laidLooks := .later }
def OrderDoneUptoCardSaid : Prop := Claim7.holds Tryd.pinned (.plain (OpenSpec.upto orderDoneSpec)) orderDoneUptoCard

/-- THE SECOND FORM's CARD OF 'roundhouselaw10.OrderMarks'. -/
def orderMarksUptoCard : Claim7 := { stood := { row := orderMarksUptoRow, standIns := [], harness := (true, "0d75e0780d57883242ab6289fccb8f27107ea2a544d150bc9a43f103eea64f16"), looks := true }, kinds := [], alts := [], laidByText := true, laidKinds := [.data, .data, .data, .sentinel, .sentinel], laidTests := true, laidLooks := .later }
def OrderMarksUptoCardSaid : Prop := Claim7.holds Tryd.pinned (.plain (OpenSpec.upto orderMarksSpec)) orderMarksUptoCard

/-- THE SECOND FORM's CARD OF 'roundhouselaw10.OrderBack'. -/
def orderBackUptoCard : Claim7 := { stood := { row := orderBackUptoRow, standIns := [], harness := (true, "0d75e0780d57883242ab6289fccb8f27107ea2a544d150bc9a43f103eea64f16"), looks := true }, kinds := [], alts := [], laidByText := true, laidKinds := [.data, .data, .data, .sentinel, .sentinel], laidTests := true, laidLooks := .later }
def OrderBackUptoCardSaid : Prop := Claim7.holds Tryd.pinned (.plain (OpenSpec.upto orderBackSpec)) orderBackUptoCard

/-- THE SECOND FORM's CARD OF 'roundhouselaw10.OrderReads'. -/
def orderReadsUptoCard : Claim7 := { stood := { row := orderReadsUptoRow, standIns := [], harness := (true, "0d75e0780d57883242ab6289fccb8f27107ea2a544d150bc9a43f103eea64f16"), looks := true }, kinds := [], alts := [], laidByText := true, laidKinds := [.data, .data, .data, .sentinel, .sentinel], laidTests := true, laidLooks := .later }
def OrderReadsUptoCardSaid : Prop := Claim7.holds Tryd.pinned (.plain (OpenSpec.upto orderReadsSpec)) orderReadsUptoCard

/-- THE SECOND FORM's CARD OF 'roundhouselaw10.OrderFull'. -/
def orderFullUptoCard : Claim7 := { stood := { row := orderFullUptoRow, standIns := [], harness := (true, "0d75e0780d57883242ab6289fccb8f27107ea2a544d150bc9a43f103eea64f16"), looks := true }, kinds := [], alts := [], laidByText := true, laidKinds := [.data, .data, .data, .sentinel, .sentinel], laidTests := true, laidLooks := .later }
def OrderFullUptoCardSaid : Prop := Claim7.holds Tryd.pinned (.plain (OpenSpec.upto orderFullSpec)) orderFullUptoCard

/-- THE SECOND FORM's CARD OF 'roundhouselaw10.OrderTwice'. -/
def orderTwiceUptoCard : Claim7 := { stood := { row := orderTwiceUptoRow, standIns := [], harness := (true, "0d75e0780d57883242ab6289fccb8f27107ea2a544d150bc9a43f103eea64f16"), looks := true }, kinds := [], alts := [], laidByText := true, laidKinds := [.data, .data, .data, .sentinel, .sentinel], laidTests := true, laidLooks := .later }
def OrderTwiceUptoCardSaid : Prop := Claim7.holds Tryd.pinned (.plain (OpenSpec.upto orderTwiceSpec)) orderTwiceUptoCard

/-- THE SECOND FORM's CARD OF 'roundhouselaw10.OrderFrees'. -/
def orderFreesUptoCard : Claim7 := { stood := { row := orderFreesUptoRow, standIns := [], harness := (true, "0d75e0780d57883242ab6289fccb8f27107ea2a544d150bc9a43f103eea64f16"), looks := true }, kinds := [], alts := [], laidByText := true, laidKinds := [.data, .data, .data, .sentinel, .sentinel], laidTests := true, laidLooks := .later }
def OrderFreesUptoCardSaid : Prop := Claim7.holds Tryd.pinned (.plain (OpenSpec.upto orderFreesSpec)) orderFreesUptoCard

/-- THE SECOND FORM's CARD OF 'roundhouselaw10.OrderKnown'. -/
def orderKnownUptoCard : Claim7 := { stood := { row := orderKnownUptoRow, standIns := [], harness := (true, "0d75e0780d57883242ab6289fccb8f27107ea2a544d150bc9a43f103eea64f16"), looks := true }, kinds := [], alts := [], laidByText := true, laidKinds := [.data, .data, .data, .sentinel, .sentinel], laidTests := true, laidLooks := .later }
def OrderKnownUptoCardSaid : Prop := Claim7.holds Tryd.pinned (.plain (OpenSpec.upto orderKnownSpec)) orderKnownUptoCard

/-- THE SECOND FORM's CARD OF 'roundhouselaw10.OrderNone'. -/
def orderNoneUptoCard : Claim7 := { stood := { row := orderNoneUptoRow, standIns := [], harness := (true, "0d75e0780d57883242ab6289fccb8f27107ea2a544d150bc9a43f103eea64f16"), looks := true }, kinds := [], alts := [], laidByText := true, laidKinds := [.data, .data, .data, .sentinel, .sentinel], laidTests := true, laidLooks := .later }
def OrderNoneUptoCardSaid : Prop := Claim7.holds Tryd.pinned (.plain (OpenSpec.upto orderNoneSpec)) orderNoneUptoCard

/-- THE SECOND FORM's CARD OF 'roundhouselaw10.OrderOwn'. -/
def orderOwnUptoCard : Claim7 := { stood := { row := orderOwnUptoRow, standIns := [], harness := (true, "0d75e0780d57883242ab6289fccb8f27107ea2a544d150bc9a43f103eea64f16"), looks := true }, kinds := [], alts := [], laidByText := true, laidKinds := [.data, .data, .data, .sentinel, .sentinel], laidTests := true, laidLooks := .later }
def OrderOwnUptoCardSaid : Prop := Claim7.holds Tryd.pinned (.plain (OpenSpec.upto orderOwnSpec)) orderOwnUptoCard
end Rows
end Go.Proofs.YtannfoaobeoafaaDoor
