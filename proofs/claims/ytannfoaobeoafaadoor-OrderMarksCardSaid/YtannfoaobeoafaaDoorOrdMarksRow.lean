/- OrderMarks answers true at every input: its row, its card. -/
import Derived.Test.YtannfoaobeoafaaDoorOrdArgs
import Derived.Test.YtannfoaobeoafaaDoorOrdMarks
import Derived.Test.YtannfoaobeoafaaDoorTie
import Derived.Test.YtannfoaobeoafaaDoorCards
import Derived.SevenTiedAt
set_option linter.unusedVariables false
set_option linter.unusedSimpArgs false
namespace Go.Proofs.YtannfoaobeoafaaDoor
open Go Go.Rae Go.Rae.Order Go.ChangeShapes Go.WideShapes Go.ChangeAt Go.RowKit

set_option maxRecDepth 100000 in
theorem marks_lifted (os : Os) (started : os.Started) (H' : Type) (enc : TypeId × Value → H') :
    ReturnsInHanded {} Tryd.checked os 5 .any (fun w args => (Rows.orderMarksSpec.pre enc Tryd.prog Tryd.f5 [] false w args ∧ laidMetH Tryd.prog laidL w) ∧ sizedMet enc Tryd.prog Tryd.f5 (OpenSpec.ofChange Rows.orderMarksSpec) false w args)
      (Rows.orderMarksSpec.post enc Tryd.prog Tryd.f5 false true false false) := by
  refine handed_shaped (C := Tryd.checked) (X := fun w _ => laidMetH Tryd.prog laidL w) (fun _ _ _ hh h => h.of_heap hh) own started (by kernel_rfl) Tryd.func5
    (ChangeSpec.witness_shaped (enc := enc) (C := Tryd.checked) (os := os) (X := fun w _ => laidMetH Tryd.prog laidL w) false (World.doorLaid Tryd.prog 400 os) #[.slice none 0 0, .int .i64 0] 8 rfl (World.shaped_of_RefB (by kernel_rfl) (by kernel_rfl)) (by kernel_rfl) (by kernel_rfl) (by kernel_rfl) (door_met os _)) ?_
  intro W base args ds gs before hval0 hW hsh hL
  have hval : ∀ (j : Nat) t v, Tryd.f5.params[j]? = some t → args[j]? = some v → Value.okWide Tryd.prog W .any base t v := hval0
  refine law_calls (id := 17) rfl rfl (by decide +kernel) rfl (fun ds hd => ?_) hsh hL hW ?_
  · match ds, hd with
    | [_, _], _ => rfl
  · obtain ⟨p, q, hA0, _⟩ := hW
    have hA : DataW.TrodAll enc Tryd.prog W 0 (fun _ => true) true Tryd.f5.params.toList args.toList ds p := hA0
    rw [Tryd.params5] at hA hval
    obtain ⟨σ, h, x, ns, zs, hR, hAr, hv, hx, hl, hz⟩ := args_in (n := 1) hsh hA fun j t v ht hv => hval j t v (by rw [← Array.getElem?_toList]; exact ht) (by rw [← Array.getElem?_toList]; exact hv)
    match zs, hl with
    | [z0], _ =>
      have w0 := hz z0 (by simp)
      exact ⟨σ, h, _, hR, hAr, hv, law_marks x ns z0 h hx⟩

theorem marks_row : Rows.OrderMarksSaid :=
  OpenClaim.holds_of_wide 5 Tryd.f5 rfl rfl rfl rfl rfl rfl rfl ⟨rfl, rfl, rfl, rfl, rfl⟩ rfl rfl rfl rfl rfl (by kernel_rfl) Tryd.func5 (by kernel_rfl)
    (of_decide_eq_true (by kernel_rfl)) (by unfold Func.isWrapper; first | (rw [if_pos (by decide +kernel)]; kernel_rfl) | (rw [if_neg (by decide +kernel)]; exact ⟨rfl, rfl⟩))
    (fun os started H' enc _ => marks_lifted os started H' enc)

theorem marks_card : Rows.OrderMarksCardSaid :=
  Claim7.holds_tied_plain_at .later [] [.data, .data, .data, .sentinel, .sentinel] true (true, "0d75e0780d57883242ab6289fccb8f27107ea2a544d150bc9a43f103eea64f16") true
    marks_row (fun _ h => by cases h) (by kernel_rfl) (fun _ h => by cases h) orderMarks_row_tie rfl ⟨rfl, rfl⟩ (by kernel_rfl) rfl
    (fun f fn hf hfn => by
      obtain rfl : f = 5 := Option.some.inj ((show Tryd.prog.funcNamed "roundhouse/roundhouselaw10.OrderMarks" = some 5 by kernel_rfl).symm.trans hf) |>.symm
      obtain rfl : fn = Tryd.f5 := (Option.some.inj (Tryd.func5.symm.trans hfn)).symm
      exact ⟨by kernel_rfl, fun j t ht => by
        have key : ∀ t ∈ Tryd.f5.params.toList, Tryd.prog.wantsStandIn t = false := by decide +kernel
        exact key t (Array.mem_toList_iff.2 (Array.mem_of_getElem? ht))⟩)
    (by kernel_rfl)
#print axioms marks_card
end Go.Proofs.YtannfoaobeoafaaDoor
