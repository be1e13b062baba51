/- The seat's rows: what their condition gives a run. -/
import Derived.Test.YtannfoaobeoafaaDoorRaeOrderExt
import Derived.Test.YtannfoaobeoafaaDoorRaeRow
import Derived.Test.YtannfoaobeoafaaDoorRows
import Derived.LaidMore
import Derived.Lib.LaidTab
import Derived.Shelf.Vars
set_option linter.unusedVariables false
set_option linter.unusedSimpArgs false
namespace Go.Proofs.YtannfoaobeoafaaDoor
open Go Go.Rae Go.Rae.Order Go.ChangeShapes Go.WideShapes Go.ChangeAt Go.RowKit

/-- What the rows list. -/
def laidL : List (String × DataW Unit) := Rows.orderAllRow.laid

theorem own : ownKnob Tryd.prog.godebug = none := by kernel_rfl
theorem laidOut : laidOutB Tryd.prog = true := by kernel_rfl
theorem gPow : Tryd.prog.globalNamed "internal/strconv.uint64pow10" = some 0 := by kernel_rfl
theorem tPow : (Tryd.prog.globals[0]?).map (·.type) = some 127 := by kernel_rfl
theorem c27 : Tryd.prog.cellsOf 27 = 1 := by kernel_rfl
theorem tab_eq : (Rows.laid_internal_strconv_uint64pow10 : DataW Unit) = Lib.tabData .u64 Lib.pow10Tab := rfl
theorem c127 : Tryd.prog.cellsOf 127 = 20 := by kernel_rfl
theorem plainLaid (W : World) : laidMetH Tryd.prog laidL W = laidMet Tryd.prog laidL W := MakeChecks.laidMetH_plain _ _ _ (by kernel_rfl)

noncomputable def glW (W : World) : Nat → Option Go.Obj := fun b => if b ≤ 1 then W.heap[b]? else none

theorem vars_of {W : World} (hsh : W.ShapedOpen Tryd.prog) (hL : laidMetH Tryd.prog laidL W) : Vars (glW W) := by
  refine ⟨?_, fun w hw => ?_⟩
  · obtain ⟨m, hm⟩ := cell_of_shapedOpen_int (g := 1) (t := 3) (zero := #[.int .i64 0]) hsh (by decide +kernel) (by kernel_rfl) rfl (by kernel_rfl) (by kernel_rfl) Tryd.underlying3
    unfold World.cell? at hm
    have e : Tryd.lays145_ren.g 1 = 1 := by kernel_rfl
    rw [e]
    simp only at hm
    split at hm
    · rename_i c t fr hc
      exact ⟨m, c, t, fr, by simp only [glW, if_true, hc, Nat.le_refl], by simpa using hm⟩
    · cases hm
  · rw [plainLaid] at hL
    obtain ⟨ps, ⟨g0, t0, cs0, f0, p0, q0, hg0, ht0, hv0, hd0, ⟨g1, t1, cs1, f1, p1, q1, hg1, ht1, hv1, hd1, hr, _⟩, _⟩, _⟩ := hL
    obtain ⟨g2, t2, cs2, f2, p2, q2, hg2, ht2, hv2, hd2, _, _⟩ := hr
    obtain rfl := Option.some.inj (gPow.symm.trans hg2)
    obtain rfl := Option.some.inj (tPow.symm.trans ht2)
    rw [tab_eq] at hd2
    have h1 := Lib.cells_of_tab Tryd.underlying127 Tryd.underlying27 c27 c127 hd2
    obtain rfl : cs2 = (Lib.pow10Tab.map fun z => Value.int .u64 z).toArray := by
      obtain ⟨l⟩ := cs2
      simp only at h1
      rw [h1]
    unfold Lib.TabIs
    unfold World.var? at hv2 ⊢
    rw [gPow] at hv2 ⊢
    simp only [Option.bind_some] at hv2 ⊢
    cases h0 : W.heap[0]? with
    | none => rw [h0] at hv2; cases hv2
    | some o =>
      rw [hw 0 o (by simp only [glW, Nat.zero_le, if_true, h0])]
      rw [h0] at hv2
      exact hv2

theorem door_met (os : Os) (args : Array Value) : laidMetH Tryd.prog laidL ((World.doorLaid Tryd.prog 400 os).forCall (fun _ _ => 0) ⟨#[], args, []⟩).memory := by
  rw [plainLaid]
  exact laidMet_of_run' 8 (by kernel_rfl) (by kernel_rfl)

theorem trodAll_len {H' : Type} {enc : TypeId × Value → H'} {P : Program} {w : World} {b : Nat} {sp : Nat → Bool} {hd : Bool} : ∀ {ts : List TypeId} {vs : List Value} {ds : List (DataW H')} {ps : List MemPlace}, DataW.TrodAll enc P w b sp hd ts vs ds ps → ds.length = ts.length
  | [], [], [], _, _ => rfl
  | _ :: _, _ :: _, _ :: _, _, ⟨_, _, _, h, _⟩ => by simp [trodAll_len h]
  | [], _ :: _, _, _, h => h.elim
  | [], [], _ :: _, _, h => h.elim
  | _ :: _, [], _, _, h => h.elim
  | _ :: _, _ :: _, [], _, h => h.elim

noncomputable abbrev KW (W : World) : Ctx := K (glW W) fun _ => 0

/-- A law's call: it answers true, whatever lies around it stays. -/
theorem law_calls {H' : Type} {enc : TypeId × Value → H'} {f id : Nat} {fn : Func} {s : ChangeSpec} {W : World} {args : Array Value} {ds gs : List (DataW H')} {before : List MemPlace}
    (hf : (KW W).fid id = f) (hr : fn.resultTypes = #[4]) (hp : ∀ t ∈ fn.params.toList, Tryd.prog.readableRec t = true ∧ t < Tryd.prog.types.size) (hv : s.vars = []) (hs : ∀ ds, ds.length = fn.params.size → s.fn H' ds = { results := [.lit (.bool true)], args := ds })
    (hsh : W.ShapedOpen Tryd.prog) (hL : laidMetH Tryd.prog laidL W) (hW : DataW.Whole enc Tryd.prog fn.params.toList s.vars false W args.toList ds gs before)
    (hrun : ∃ σ h vs, R (KW W) σ h W ∧ AllRo σ ∧ All2 (VR1 (KW W) σ) vs args.toList ∧ Runs CL id vs h fun v _ => v = .b true) :
    Calls Tryd.prog f args W fun e W' => ∃ v, e = .returned v ∧ s.post enc Tryd.prog fn false true false false W args v W' := by
  obtain ⟨σ, h, vs, hR, hA, hargs, hrun⟩ := hrun
  unfold Runs at hrun
  cases hc : CL id vs h with
  | none => rw [hc] at hrun; exact hrun.elim
  | some r =>
    obtain ⟨v, h'⟩ := r
    rw [hc] at hrun
    obtain rfl : v = .b true := hrun
    have hG : GL (KW W) σ W := by
      refine ⟨fun b o hb => ?_, fun i L hi hr => ?_⟩
      · have hb' : glW W b = some o := hb
        unfold glW at hb'
        split at hb'
        · exact hb'
        · cases hb'
      · rw [hA i L hi] at hr; cases hr
    have hS := (CL_sound (val := fun _ => 0) (vars_of hsh hL) id vs h _ h' hc).2 σ W args hG hR hargs
    have hfid : (K (glW W) fun _ => 0).fid id = f := hf
    rw [hfid] at hS
    refine hS.mono fun e W' ⟨c, σ', he, _, _, hF, hV⟩ => ?_
    subst he
    simp only [VR, VR1, SR, SR0] at hV
    subst hV
    have hgs : gs = [] := by
      obtain ⟨p, q, _, hV, _⟩ := hW
      rw [hv] at hV
      cases gs with
      | nil => rfl
      | cons => exact hV.elim
    subst hgs
    have hlen : ds.length = fn.params.size := by
      obtain ⟨p, q, hA, _⟩ := hW
      have := trodAll_len hA
      simpa using this
    exact ⟨_, rfl, post_law laidOut hv hp hr Tryd.underlying4 hW (by rw [List.append_nil]; exact hs ds hlen) (hF.below hA)⟩
end Go.Proofs.YtannfoaobeoafaaDoor
