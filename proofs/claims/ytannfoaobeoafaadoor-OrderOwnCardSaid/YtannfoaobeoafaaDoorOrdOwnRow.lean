/- OrderOwn answers true at every input: its row, its card. -/
import Derived.Test.YtannfoaobeoafaaDoorOrdArgs
import Derived.Test.YtannfoaobeoafaaDoorOrdOwn
import Derived.Test.YtannfoaobeoafaaDoorTie
import Derived.Test.YtannfoaobeoafaaDoorCards
import Derived.SevenTiedAt
set_option linter.unusedVariables false
set_option linter.unusedSimpArgs false
namespace Go.Proofs.YtannfoaobeoafaaDoor
open Go Go.Rae Go.Rae.Order Go.ChangeShapes Go.WideShapes Go.ChangeAt Go.RowKit

set_option maxRecDepth 100000 in
theorem own_lifted (os : Os) (started : os.Started) (H' : Type) (enc : TypeId × Value → H') :
    ReturnsInHanded {} Tryd.checked os 13 .any (fun w args => (Rows.orderOwnSpec.pre enc Tryd.prog Tryd.f13 [] false w args ∧ laidMetH Tryd.prog laidL w) ∧ sizedMet enc Tryd.prog Tryd.f13 (OpenSpec.ofChange Rows.orderOwnSpec) false w args)
      (Rows.orderOwnSpec.post enc Tryd.prog Tryd.f13 false true false false) := by
  refine handed_shaped (C := Tryd.checked) (X := fun w _ => laidMetH Tryd.prog laidL w) (fun _ _ _ hh h => h.of_heap hh) own started (by kernel_rfl) Tryd.func13
    (ChangeSpec.witness_shaped (enc := enc) (C := Tryd.checked) (os := os) (X := fun w _ => laidMetH Tryd.prog laidL w) false (World.doorLaid Tryd.prog 400 os) #[.slice none 0 0, .int .i64 0, .int .i64 0, .int .i64 0] 8 rfl (World.shaped_of_RefB (by kernel_rfl) (by kernel_rfl)) (by kernel_rfl) (by kernel_rfl) (by kernel_rfl) (door_met os _)) ?_
  intro W base args ds gs before hval0 hW hsh hL
  have hval : ∀ (j : Nat) t v, Tryd.f13.params[j]? = some t → args[j]? = some v → Value.okWide Tryd.prog W .any base t v := hval0
  refine law_calls (id := 32) rfl rfl (by decide +kernel) rfl (fun ds hd => ?_) hsh hL hW ?_
  · match ds, hd with
    | [_, _, _, _], _ => rfl
  · obtain ⟨p, q, hA0, _⟩ := hW
    have hA : DataW.TrodAll enc Tryd.prog W 0 (fun _ => true) true Tryd.f13.params.toList args.toList ds p := hA0
    rw [Tryd.params13] at hA hval
    obtain ⟨σ, h, x, ns, zs, hR, hAr, hv, hx, hl, hz⟩ := args_in (n := 3) hsh hA fun j t v ht hv => hval j t v (by rw [← Array.getElem?_toList]; exact ht) (by rw [← Array.getElem?_toList]; exact hv)
    match zs, hl with
    | [z0, z1, z2], _ =>
      have w0 := hz z0 (by simp); have w1 := hz z1 (by simp); have w2 := hz z2 (by simp)
      exact ⟨σ, h, _, hR, hAr, hv, law_own x ns z0 z1 z2 h hx⟩

theorem own_row : Rows.OrderOwnSaid :=
  OpenClaim.holds_of_wide 13 Tryd.f13 rfl rfl rfl rfl rfl rfl rfl ⟨rfl, rfl, rfl, rfl, rfl⟩ rfl rfl rfl rfl rfl (by kernel_rfl) Tryd.func13 (by kernel_rfl)
    (of_decide_eq_true (by kernel_rfl)) (by unfold Func.isWrapper; first | (rw [if_pos (by decide +kernel)]; kernel_rfl) | (rw [if_neg (by decide +kernel)]; exact ⟨rfl, rfl⟩))
    (fun os started H' enc _ => own_lifted os started H' enc)

theorem own_card : Rows.OrderOwnCardSaid :=
  Claim7.holds_tied_plain_at .later [] [.data, .data, .data, .sentinel, .sentinel] true (true, "0d75e0780d57883242ab6289fccb8f27107ea2a544d150bc9a43f103eea64f16") true
    own_row (fun _ h => by cases h) (by kernel_rfl) (fun _ h => by cases h) orderOwn_row_tie rfl ⟨rfl, rfl⟩ (by kernel_rfl) rfl
    (fun f fn hf hfn => by
      obtain rfl : f = 13 := Option.some.inj ((show Tryd.prog.funcNamed "roundhouse/roundhouselaw10.OrderOwn" = some 13 by kernel_rfl).symm.trans hf) |>.symm
      obtain rfl : fn = Tryd.f13 := (Option.some.inj (Tryd.func13.symm.trans hfn)).symm
      exact ⟨by kernel_rfl, fun j t ht => by
        have key : ∀ t ∈ Tryd.f13.params.toList, Tryd.prog.wantsStandIn t = false := by decide +kernel
        exact key t (Array.mem_toList_iff.2 (Array.mem_of_getElem? ht))⟩)
    (by kernel_rfl)
#print axioms own_card
end Go.Proofs.YtannfoaobeoafaaDoor
