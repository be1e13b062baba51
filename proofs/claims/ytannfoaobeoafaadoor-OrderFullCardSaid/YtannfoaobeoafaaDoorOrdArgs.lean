/- What the laws are handed: a slice of ints, ints. -/
import Derived.Test.YtannfoaobeoafaaDoorOrdRow
import Derived.Test.YtannfoaobeoafaaDoorOrdBase
set_option linter.unusedVariables false
set_option linter.unusedSimpArgs false
namespace Go.Proofs.YtannfoaobeoafaaDoor
open Go Go.Rae Go.Rae.Order Go.ChangeShapes Go.WideShapes Go.ChangeAt Go.RowKit
set_option maxRecDepth 100000

theorem wrap_of_wf {n : Int} (h : (Lit.int .i64 n).wf = true) : IntKind.i64.wrap n = n := by
  have h' : (decide (IntKind.i64.min ≤ n) && decide (n ≤ IntKind.i64.max)) = true := h
  rw [Bool.and_eq_true, decide_eq_true_eq, decide_eq_true_eq] at h'
  have e1 : IntKind.i64.min = -9223372036854775808 := by decide
  have e2 : IntKind.i64.max = 9223372036854775807 := by decide
  rw [e1, e2] at h'
  exact w64 ⟨h'.1, by omega⟩

theorem ints_in {H' : Type} {enc : TypeId × Value → H'} {W : World} {base : Nat} : ∀ (n : Nat) (vs : List Value) (ds : List (DataW H')) (ps : List MemPlace),
    DataW.TrodAll enc Tryd.prog W 0 (fun _ => true) true (List.replicate n 3) vs ds ps → (∀ v ∈ vs, Value.okWide Tryd.prog W .any base 3 v) →
    ∃ zs : List Int, vs = zs.map (Value.int .i64) ∧ zs.length = n ∧ ∀ z ∈ zs, IntKind.i64.wrap z = z := by
  intro n
  induction n with
  | zero =>
    intro vs ds ps h _
    obtain ⟨rfl, _, _⟩ := trodAll_nil h
    exact ⟨[], rfl, rfl, fun _ h => by cases h⟩
  | succ n ih =>
    intro vs ds ps h hv
    rw [List.replicate_succ] at h
    obtain ⟨v, vs', d, ds', p, q, rfl, rfl, rfl, hd, hrest⟩ := trodAll_cons h
    obtain ⟨z, rfl, _, _, hw⟩ := open_int Tryd.underlying3 (hv v (List.mem_cons_self ..)) hd
    obtain ⟨zs, rfl, hl, hz⟩ := ih vs' ds' q hrest fun u hu => hv u (List.mem_cons_of_mem _ hu)
    refine ⟨z :: zs, rfl, by simp [hl], fun y hy => ?_⟩
    rcases List.mem_cons.1 hy with rfl | hy
    · exact wrap_of_wf hw
    · exact hz y hy

theorem cell_in {W : World} (hsh : W.ShapedOpen Tryd.prog) : ∃ (g : Nat) (cs : Array Value) (T : TypeId) (fr : Nat × Nat), W.heap[g]? = some (.cells cs T fr) := by
  obtain ⟨m, hm⟩ := cell_of_shapedOpen_int (g := 1) (t := 3) (zero := #[.int .i64 0]) hsh (by decide +kernel) (by kernel_rfl) rfl (by kernel_rfl) (by kernel_rfl) Tryd.underlying3
  unfold World.cell? at hm
  simp only at hm
  split at hm
  · rename_i c t fr hc
    exact ⟨1, c, t, fr, hc⟩
  · cases hm

theorem c3 : Tryd.prog.cellsOf 3 = 1 := by kernel_rfl

theorem all2_ints (W : World) (σ : Sig) : ∀ zs : List Int, All2 (VR1 (KW W) σ) (zs.map (V.i .i64)) (zs.map (Value.int .i64))
  | [] => .nil
  | _ :: zs => .cons rfl (all2_ints W σ zs)

theorem trodAll_lenv {H' : Type} {enc : TypeId × Value → H'} {P : Program} {w : World} {b : Nat} {sp : Nat → Bool} {hd : Bool} : ∀ {ts : List TypeId} {vs : List Value} {ds : List (DataW H')} {ps : List MemPlace}, DataW.TrodAll enc P w b sp hd ts vs ds ps → vs.length = ts.length
  | [], [], [], _, _ => rfl
  | _ :: _, _ :: _, _ :: _, _, ⟨_, _, _, h, _⟩ => by simp [trodAll_lenv h]
  | [], _ :: _, _, _, h => h.elim
  | [], [], _ :: _, _, h => h.elim
  | _ :: _, [], _, _, h => h.elim
  | _ :: _, _ :: _, [], _, h => h.elim

theorem args_in {H' : Type} {enc : TypeId × Value → H'} {W : World} {base : Nat} (hsh : W.ShapedOpen Tryd.prog) {n : Nat} {vs : List Value} {ds : List (DataW H')} {ps : List MemPlace}
    (hA : DataW.TrodAll enc Tryd.prog W 0 (fun _ => true) true (22 :: List.replicate n 3) vs ds ps)
    (hval : ∀ (j : Nat) t v, (22 :: List.replicate n 3)[j]? = some t → vs[j]? = some v → Value.okWide Tryd.prog W .any base t v) :
    ∃ (σ : Sig) (h : H) (x : V) (ns zs : List Int), R (KW W) σ h W ∧ AllRo σ ∧ All2 (VR1 (KW W) σ) (x :: zs.map (V.i .i64)) vs ∧ IntsAt h x ns ∧ zs.length = n ∧ ∀ z ∈ zs, IntKind.i64.wrap z = z := by
  obtain ⟨v, vs', d, ds', p, q, rfl, rfl, rfl, hd, hrest⟩ := trodAll_cons hA
  obtain ⟨zs, rfl, hl, hz⟩ := ints_in n vs' ds' q hrest fun u hu => by
    obtain ⟨j, hj, rfl⟩ := List.mem_iff_getElem.1 hu
    have hlen : vs'.length = n := by
      have := trodAll_lenv hrest
      simpa using this
    refine hval (j + 1) 3 _ ?_ ?_
    · rw [List.getElem?_cons_succ, List.getElem?_replicate, if_pos (by omega)]
    · rw [List.getElem?_cons_succ, List.getElem?_eq_getElem hj]
  obtain ⟨σ, h, x, ns, hR, hAr, _, hx, hs, _, _⟩ := slice_in (K := KW W) (d := 23) (k := .i64) (R.empty _ W) (fun _ _ h => by cases h) Tryd.underlying22 Tryd.underlying3 c3 rfl (cell_in hsh) (hval 0 22 v rfl rfl) hd
  exact ⟨σ, h, x, ns, zs, hR, hAr, .cons hx (all2_ints W σ zs), hs, hl, hz⟩
end Go.Proofs.YtannfoaobeoafaaDoor
