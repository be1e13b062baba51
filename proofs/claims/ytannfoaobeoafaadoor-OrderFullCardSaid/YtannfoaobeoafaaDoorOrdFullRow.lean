/- OrderFull answers true at every input: its row, its card. -/
import Derived.Test.YtannfoaobeoafaaDoorOrdArgs
import Derived.Test.YtannfoaobeoafaaDoorOrdFull
import Derived.Test.YtannfoaobeoafaaDoorTie
import Derived.Test.YtannfoaobeoafaaDoorCards
import Derived.SevenTiedAt
set_option linter.unusedVariables false
set_option linter.unusedSimpArgs false
namespace Go.Proofs.YtannfoaobeoafaaDoor
open Go Go.Rae Go.Rae.Order Go.ChangeShapes Go.WideShapes Go.ChangeAt Go.RowKit

set_option maxRecDepth 100000 in
theorem full_lifted (os : Os) (started : os.Started) (H' : Type) (enc : TypeId × Value → H') :
    ReturnsInHanded {} Tryd.checked os 8 .any (fun w args => (Rows.orderFullSpec.pre enc Tryd.prog Tryd.f8 [] false w args ∧ laidMetH Tryd.prog laidL w) ∧ sizedMet enc Tryd.prog Tryd.f8 (OpenSpec.ofChange Rows.orderFullSpec) false w args)
      (Rows.orderFullSpec.post enc Tryd.prog Tryd.f8 false true false false) := by
  refine handed_shaped (C := Tryd.checked) (X := fun w _ => laidMetH Tryd.prog laidL w) (fun _ _ _ hh h => h.of_heap hh) own started (by kernel_rfl) Tryd.func8
    (ChangeSpec.witness_shaped (enc := enc) (C := Tryd.checked) (os := os) (X := fun w _ => laidMetH Tryd.prog laidL w) false (World.doorLaid Tryd.prog 400 os) #[.int .i64 0, .int .i64 0, .int .i64 0] 8 rfl (World.shaped_of_RefB (by kernel_rfl) (by kernel_rfl)) (by kernel_rfl) (by kernel_rfl) (by kernel_rfl) (door_met os _)) ?_
  intro W base args ds gs before hval0 hW hsh hL
  have hval : ∀ (j : Nat) t v, Tryd.f8.params[j]? = some t → args[j]? = some v → Value.okWide Tryd.prog W .any base t v := hval0
  refine law_calls (id := 26) rfl rfl (by decide +kernel) rfl (fun ds hd => ?_) hsh hL hW ?_
  · match ds, hd with
    | [_, _, _], _ => rfl
  · obtain ⟨p, q, hA0, _⟩ := hW
    have hA : DataW.TrodAll enc Tryd.prog W 0 (fun _ => true) true Tryd.f8.params.toList args.toList ds p := hA0
    rw [Tryd.params8] at hA hval
    obtain ⟨zs, hvs, hl, hz⟩ := ints_in (base := base) 3 _ _ _ hA fun v hv => by
      obtain ⟨j, hj, rfl⟩ := List.mem_iff_getElem.1 hv
      have hlen := trodAll_lenv hA
      have hj' : j < 3 := by rw [hlen] at hj; simpa using hj
      refine hval j 3 _ ?_ (by rw [← Array.getElem?_toList, List.getElem?_eq_getElem hj])
      match j, hj' with
      | 0, _ => rfl
      | 1, _ => rfl
      | 2, _ => rfl
    match zs, hl with
    | [z0, z1, z2], _ =>
      have w0 := hz z0 (by simp); have w1 := hz z1 (by simp); have w2 := hz z2 (by simp)
      exact ⟨fun _ => none, H.empty, _, R.empty _ W, (fun _ _ h => by cases h), (by rw [hvs]; exact all2_ints W _ [z0, z1, z2]), law_full z0 z1 z2 H.empty⟩

theorem full_row : Rows.OrderFullSaid :=
  OpenClaim.holds_of_wide 8 Tryd.f8 rfl rfl rfl rfl rfl rfl rfl ⟨rfl, rfl, rfl, rfl, rfl⟩ rfl rfl rfl rfl rfl (by kernel_rfl) Tryd.func8 (by kernel_rfl)
    (of_decide_eq_true (by kernel_rfl)) (by unfold Func.isWrapper; first | (rw [if_pos (by decide +kernel)]; kernel_rfl) | (rw [if_neg (by decide +kernel)]; exact ⟨rfl, rfl⟩))
    (fun os started H' enc _ => full_lifted os started H' enc)

theorem full_card : Rows.OrderFullCardSaid :=
  Claim7.holds_tied_plain_at .later [] [.data, .data, .data, .sentinel, .sentinel] true (true, "0d75e0780d57883242ab6289fccb8f27107ea2a544d150bc9a43f103eea64f16") true
    full_row (fun _ h => by cases h) (by kernel_rfl) (fun _ h => by cases h) orderFull_row_tie rfl ⟨rfl, rfl⟩ (by kernel_rfl) rfl
    (fun f fn hf hfn => by
      obtain rfl : f = 8 := Option.some.inj ((show Tryd.prog.funcNamed "roundhouse/roundhouselaw10.OrderFull" = some 8 by kernel_rfl).symm.trans hf) |>.symm
      obtain rfl : fn = Tryd.f8 := (Option.some.inj (Tryd.func8.symm.trans hfn)).symm
      exact ⟨by kernel_rfl, fun j t ht => by
        have key : ∀ t ∈ Tryd.f8.params.toList, Tryd.prog.wantsStandIn t = false := by decide +kernel
        exact key t (Array.mem_toList_iff.2 (Array.mem_of_getElem? ht))⟩)
    (by kernel_rfl)
#print axioms full_card
end Go.Proofs.YtannfoaobeoafaaDoor
