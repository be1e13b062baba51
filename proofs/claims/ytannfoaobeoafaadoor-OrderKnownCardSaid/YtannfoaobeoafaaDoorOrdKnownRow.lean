/- OrderKnown answers true at every input: the six entries' texts are just those, and are read as those entries; under the row's own condition on the listed variables, which the card ties to the program's text. -/
import Derived.Test.YtannfoaobeoafaaDoorOrdRow
import Derived.Test.YtannfoaobeoafaaDoorOrdKnown2
import Derived.Test.YtannfoaobeoafaaDoorTie
import Derived.Test.YtannfoaobeoafaaDoorCards
import Derived.SevenTiedAt
set_option linter.unusedVariables false
set_option linter.unusedSimpArgs false
namespace Go.Proofs.YtannfoaobeoafaaDoor
open Go Go.Rae Go.Rae.Order Go.ChangeShapes Go.WideShapes Go.ChangeAt Go.RowKit

set_option maxRecDepth 100000 in
theorem known_lifted (os : Os) (started : os.Started) (H' : Type) (enc : TypeId × Value → H') :
    ReturnsInHanded {} Tryd.checked os 11 .any (fun w args => (Rows.orderKnownSpec.pre enc Tryd.prog Tryd.f11 [] false w args ∧ laidMetH Tryd.prog laidL w) ∧ sizedMet enc Tryd.prog Tryd.f11 (OpenSpec.ofChange Rows.orderKnownSpec) false w args)
      (Rows.orderKnownSpec.post enc Tryd.prog Tryd.f11 false true false false) := by
  refine handed_shaped (C := Tryd.checked) (X := fun w _ => laidMetH Tryd.prog laidL w) (fun _ _ _ hh h => h.of_heap hh) own started (by kernel_rfl) Tryd.func11
    (ChangeSpec.witness_shaped (enc := enc) (C := Tryd.checked) (os := os) (X := fun w _ => laidMetH Tryd.prog laidL w) false (World.doorLaid Tryd.prog 400 os) #[.int .i64 0] 8 rfl (World.shaped_of_RefB (by kernel_rfl) (by kernel_rfl)) (by kernel_rfl) (by kernel_rfl) (by kernel_rfl) (door_met os _)) ?_
  intro W base args ds gs before hval0 hW hsh hL
  have hval : ∀ (j : Nat) t v, Tryd.f11.params[j]? = some t → args[j]? = some v → Value.okWide Tryd.prog W .any base t v := hval0
  refine law_calls (id := 30) rfl rfl (by decide +kernel) rfl (fun ds hd => ?_) hsh hL hW ?_
  · match ds, hd with
    | [_], _ => rfl
  · obtain ⟨p, q, hA0, _⟩ := hW
    have hA : DataW.TrodAll enc Tryd.prog W 0 (fun _ => true) true Tryd.f11.params.toList args.toList ds p := hA0
    rw [Tryd.params11] at hA hval
    obtain ⟨v0, d0, rfl, rfl, h0⟩ := trodAll_one hA
    obtain ⟨w, rfl, _, _, _⟩ := open_int Tryd.underlying3 (hval 0 3 v0 rfl rfl) h0
    exact ⟨fun _ => none, H.empty, [.i .i64 w], R.empty _ W, (fun _ _ h => by cases h), .cons rfl .nil, law_known w H.empty⟩

theorem known_row : Rows.OrderKnownSaid :=
  OpenClaim.holds_of_wide 11 Tryd.f11 rfl rfl rfl rfl rfl rfl rfl ⟨rfl, rfl, rfl, rfl, rfl⟩ rfl rfl rfl rfl rfl (by kernel_rfl) Tryd.func11 (by kernel_rfl)
    (of_decide_eq_true (by kernel_rfl)) (by unfold Func.isWrapper; first | (rw [if_pos (by decide +kernel)]; kernel_rfl) | (rw [if_neg (by decide +kernel)]; exact ⟨rfl, rfl⟩))
    (fun os started H' enc _ => known_lifted os started H' enc)

theorem known_card : Rows.OrderKnownCardSaid :=
  Claim7.holds_tied_plain_at .later [] [.data, .data, .data, .sentinel, .sentinel] true (true, "0d75e0780d57883242ab6289fccb8f27107ea2a544d150bc9a43f103eea64f16") true
    known_row (fun _ h => by cases h) (by kernel_rfl) (fun _ h => by cases h) orderKnown_row_tie rfl ⟨rfl, rfl⟩ (by kernel_rfl) rfl
    (fun f fn hf hfn => by
      obtain rfl : f = 11 := Option.some.inj ((show Tryd.prog.funcNamed "roundhouse/roundhouselaw10.OrderKnown" = some 11 by kernel_rfl).symm.trans hf) |>.symm
      obtain rfl : fn = Tryd.f11 := (Option.some.inj (Tryd.func11.symm.trans hfn)).symm
      exact ⟨by kernel_rfl, fun j t ht => by
        have key : ∀ t ∈ Tryd.f11.params.toList, Tryd.prog.wantsStandIn t = false := by decide +kernel
        exact key t (Array.mem_toList_iff.2 (Array.mem_of_getElem? ht))⟩)
    (by kernel_rfl)
#print axioms known_card
end Go.Proofs.YtannfoaobeoafaaDoor
