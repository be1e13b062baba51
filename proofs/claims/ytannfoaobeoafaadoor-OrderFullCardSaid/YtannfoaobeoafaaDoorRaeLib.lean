/- Contracts of library functions as answers of an oracle. -/
import Derived.Test.YtannfoaobeoafaaDoorRaeTab
import Derived.Shelf.Strings.Cut
import Derived.Shelf.Strings.OnBuilder
import Derived.Shelf.Strconv.Itoa1
set_option linter.unusedVariables false
set_option linter.unusedSimpArgs false
namespace Go.Rae
open Go Go.Proofs Go.Shelf

section
variable {K : Ctx} {σ : Sig} {h : H} {w : World}

/-- A slice's elements lie at an address without a spot. -/
theorem R.elems_at (hK : K.flat) (hR : R K σ h w) {id st off len e : Nat} {p : List Nat} {cap : Option Nat} {c : Value} {xs : List V} (hv : VR K σ (.sl id st p e off len cap) c)
    (he : h.elems (.sl id st p e off len cap) = some xs) (hne : len ≠ 0) :
    ∃ bk o cap' cs, c = .slice (some ⟨bk, o, none⟩) len cap' ∧ len ≤ cap' ∧ CRl K σ (List.replicate len e) xs cs ∧ xs.length = len ∧ cs.length = len * K.sz e ∧ (∀ j v, cs[j]? = some v → w.cell? ⟨bk, o + j, none⟩ = some v) := by
  obtain ⟨a, cap', cs, hc, h1, h2, h3, h4⟩ := hR.elems hK hv he
  simp only [H.elems] at he
  cases hr : h.read id st p with
  | none => rw [hr] at he; cases he
  | some x =>
    obtain ⟨L, m, o, hs, hst, hof, hm, hroom, arr, T, fr, hb, hz, hcell⟩ := hR.read hK hr
    simp only [VR, VR1, SR, SR0] at hv
    obtain ⟨L', a', cap2, hs', hc', hle', hlen, hcap, hval⟩ := hv
    rw [hs] at hs'; cases hs'
    obtain ⟨o', s, ho', hS, hadr⟩ := hval hst.symm
    obtain ⟨rfl, _⟩ := hadr.resolve_left (fun h0 => hne (Nat.le_zero.1 (h0 ▸ hlen)))
    rw [hc] at hc'
    injection hc' with hx1 hx2 hx3
    injection hx1 with hx1; subst hx1 hx3
    refine ⟨_, _, _, cs, hc, hlen, h1, h2, h3, fun j v hj => ?_⟩
    have := h4 j v hj
    have hadd : (⟨L.blk, L.off + o' + off * K.sz e, none⟩ : Addr).add j = ⟨L.blk, L.off + o' + off * K.sz e + j, none⟩ := by unfold Addr.add; split <;> simp_all
    rw [hadd] at this; exact this

def strs? : List V → Option (List (List UInt8))
  | [] => some []
  | .s l :: r => match strs? r with
    | some m => some (l :: m)
    | none => none
  | _ => none

theorem strs_cells {e : Nat} : ∀ {xs : List V} {ls : List (List UInt8)} {n : Nat} {cs : List Value}, strs? xs = some ls → CRl K σ (List.replicate n e) xs cs → cs = ls.map (fun l => Value.string ⟨l.toArray⟩) := by
  intro xs
  induction xs with
  | nil =>
    intro ls n cs hs hc
    simp only [strs?, Option.some.injEq] at hs; subst hs
    cases n with
    | zero => simpa [CRl] using hc
    | succ n => simp [List.replicate_succ, CRl] at hc
  | cons x xs ih =>
    intro ls n cs hs hc
    cases x <;> simp only [strs?, reduceCtorEq] at hs
    rename_i l
    split at hs
    · rename_i m hm
      injection hs with hs; subst hs
      cases n with
      | zero => simp [CRl] at hc
      | succ n =>
        simp only [List.replicate_succ, CRl] at hc
        obtain ⟨_, a, b, rfl, ha, hb⟩ := hc
        simp only [CR, SR, SR0] at ha
        obtain ⟨c, rfl, rfl⟩ := ha
        rw [ih hm hb]; rfl
    · cases hs

/-- All functions of a table fit. -/
def okFrom (K : Ctx) : Nat → List (Option IFn) → Prop
  | _, [] => True
  | i, some fn :: l => FnOK K i fn ∧ okFrom K (i + 1) l
  | i, none :: l => True ∧ okFrom K (i + 1) l

theorem okFrom_at {K : Ctx} : ∀ {l : List (Option IFn)} {i : Nat}, okFrom K i l → ∀ f fn, nth l f none = some fn → FnOK K (i + f) fn := by
  intro l
  induction l with
  | nil => intro i _ f fn h; cases h
  | cons x l ih =>
    intro i h f fn hf
    cases f with
    | zero =>
      cases x with
      | none => cases hf
      | some g => simp only [nth, Option.some.injEq] at hf; subst hf; exact h.1
    | succ f =>
      have h2 : okFrom K (i + 1) l := by cases x <;> exact h.2
      have := ih h2 f fn hf
      rwa [Nat.add_assoc, Nat.add_comm 1 f] at this

/-- strings.Cut. -/
def cutO (args : List V) (h : H) : Option (V × H) :=
  match args with
  | [.s l, .s sep] => if l.length < 4294967281 then some (.tup [.s (Lib.cut l sep).1, .s (Lib.cut l sep).2.1, .b (Lib.cut l sep).2.2], h) else none
  | _ => none

/-- strings.Join. -/
def joinO (args : List V) (h : H) : Option (V × H) :=
  match args with
  | [.sl id st p e off len cap, .s sep] => if len = 0 then none else match h.elems (.sl id st p e off len cap) with
    | some xs => match strs? xs with
      | some ls => if ls.length ≤ 140737488355328 ∧ (Lib.join ls sep).length ≤ 140737488355328 then some (.s (Lib.join ls sep), h) else none
      | none => none
    | none => none
  | _ => none

theorem cut_ok {ρ : Ren} (L : Lays.n145 K.P ρ) {f : Nat} (hf : K.fid f = ρ.f 145) (hcall : Callable K f) {m : Int} {arr : Array Value} {T : TypeId} {fr : Nat × Nat} (hg : K.gl (ρ.g 1) = some (.cells arr T fr)) (hm : arr[0]? = some (.int .i64 m))
    {args : List V} {v : V} {h h' : H} (hr : cutO args h = some (v, h')) : Callable K f ∧ Sound1 K f args h v h' := by
  refine ⟨hcall, fun σ w cargs hG hR hargs => ?_⟩
  unfold cutO at hr
  split at hr
  · rename_i l sep
    split at hr
    · rename_i hlt
      simp only [Option.some.injEq, Prod.mk.injEq] at hr
      obtain ⟨rfl, rfl⟩ := hr
      obtain ⟨c⟩ := cargs
      simp only at hargs
      match c, hargs with
      | [_, _], .cons h1 (.cons h2 .nil) =>
      simp only [VR1, SR, SR0] at h1 h2
      subst h1 h2
      have hcell : w.cell? ⟨ρ.g 1, 0, none⟩ = some (.int .i64 m) := by
        rw [cell_of_row w _ _ _ T fr (hG.at_ _ _ hg)]; exact hm
      rw [hf]
      refine (Any.strings_Cut L ⟨l.toArray⟩ ⟨sep.toArray⟩ m w (by simpa [ByteArray.size] using hlt) hcell).mono ?_
      rintro e w' ⟨rfl, n, rfl⟩
      refine ⟨_, σ, rfl, hR.frame (fun _ _ _ => rfl), Ext.refl σ, ⟨rfl, rfl, rfl, Nat.le_refl _, fun _ _ _ => rfl, fun id L hL => .inr ⟨id, L, hL, rfl, rfl⟩⟩, ?_⟩
      simp only [VR]
      exact ⟨_, rfl, .cons rfl (.cons rfl (.cons rfl .nil))⟩
    · cases hr
  · cases hr

theorem join_ok (hK : K.flat) {ρ : Ren} (L : Lays.n156 K.P ρ) (X : Builder.Extra K.P ρ) {f : Nat} (hf : K.fid f = ρ.f 156) (hcall : Callable K f)
    {args : List V} {v : V} {h h' : H} (hr : joinO args h = some (v, h')) : Callable K f ∧ Sound1 K f args h v h' := by
  refine ⟨hcall, fun σ w cargs hG hR hargs => ?_⟩
  unfold joinO at hr
  split at hr
  · rename_i id st p e off len cap sep
    split at hr
    · cases hr
    · rename_i hne
      split at hr
      · rename_i xs hxs
        split at hr
        · rename_i ls hls
          split at hr
          · rename_i hb
            simp only [Option.some.injEq, Prod.mk.injEq] at hr
            obtain ⟨rfl, rfl⟩ := hr
            obtain ⟨c⟩ := cargs
            simp only at hargs
            match c, hargs with
            | [_, _], .cons h1 (.cons h2 .nil) =>
            obtain ⟨bk, o, cap', cs, rfl, hcap, hcr, hxl, hcl, hcells⟩ := hR.elems_at hK h1.all.1 hxs hne
            simp only [VR1, SR, SR0] at h2
            subst h2
            have hcs := strs_cells hls hcr
            have hll : ls.length = len := by
              have : cs.length = ls.length := by rw [hcs]; simp
              have : ∀ (xs : List V) ls, strs? xs = some ls → ls.length = xs.length := by
                intro xs
                induction xs with
                | nil => intro ls h; simp only [strs?, Option.some.injEq] at h; subst h; rfl
                | cons x xs ih =>
                  intro ls h
                  cases x <;> simp only [strs?, reduceCtorEq] at h
                  split at h
                  · rename_i m hm; injection h with h; subst h; simp [ih m hm]
                  · cases h
              rw [this xs ls hls, hxl]
            have hc0 : w.cell? ⟨bk, o + 0, none⟩ ≠ none := by
              cases ls with
              | nil => simp at hll; omega
              | cons l ls => rw [hcells 0 (.string ⟨l.toArray⟩) (by rw [hcs]; rfl)]; exact nofun
            have hbk : bk < w.heap.size := by
              apply Decidable.byContradiction
              intro hn
              apply hc0
              have : w.heap[bk]? = none := by simp; omega
              simp [World.cell?, this]
            have hxs' : ∀ (j : Nat) (x : ByteArray), (ls.map (fun l => (⟨l.toArray⟩ : ByteArray)))[j]? = some x → w.cell? ⟨bk, o + j, none⟩ = some (.string x) := by
              intro j x hj
              rw [hcells j (.string x)]
              rw [hcs]
              simp only [List.getElem?_map, Option.map_eq_some_iff] at hj ⊢
              obtain ⟨a, ha, rfl⟩ := hj
              exact ⟨a, ha, rfl⟩
            have hmap : (ls.map (fun l => (⟨l.toArray⟩ : ByteArray))).map (·.data.toList) = ls := by simp [Function.comp_def]
            have key := Any.strings_Join L X bk o cap' (ls.map (fun l => (⟨l.toArray⟩ : ByteArray))) ⟨sep.toArray⟩ w hxs' hbk (by simpa using hb.1) (by simp; omega) (by rw [hmap]; exact hb.2)
            rw [hmap] at key
            simp only [List.length_map, hll] at key
            rw [hf]
            refine key.mono ?_
            rintro e w' ⟨rfl, hB⟩
            refine ⟨_, σ, rfl, hR.frame (fun id M hM => hB.block _ (hR.lt hM)), Ext.refl σ, ⟨hB.os, hB.tape, hB.output, hB.size, fun b hb _ => hB.block b hb, fun id L hL => .inr ⟨id, L, hL, rfl, rfl⟩⟩, ?_⟩
            simp only [VR, VR1, SR, SR0]
          · cases hr
        · cases hr
      · cases hr
  · cases hr


/-- internal/strconv.numDigits. -/
def digO (args : List V) (h : H) : Option (V × H) :=
  match args with
  | [.i .u64 (.ofNat u)] => bif Nat.ble 1 u && Nat.blt u 18446744073709551616 then some (.i .i64 (Lib.nDigits u), h) else none
  | _ => none

theorem dig_ok {ρ : Ren} (L : LaysM.n284 K.P ρ) {f : Nat} (hf : K.fid f = ρ.f 284) (hcall : Callable K f)
    (ht : ∀ w, (∀ b o, K.gl b = some o → w.heap[b]? = some o) → Lib.TabIs K.P w "internal/strconv.uint64pow10" .u64 Lib.pow10Tab)
    {args : List V} {v : V} {h h' : H} (hr : digO args h = some (v, h')) : Callable K f ∧ Sound1 K f args h v h' := by
  refine ⟨hcall, fun σ w cargs hG hR hargs => ?_⟩
  unfold digO at hr
  split at hr
  · rename_i u
    cases hb : (Nat.ble 1 u && Nat.blt u 18446744073709551616) with
    | false => rw [hb] at hr; cases hr
    | true =>
      rw [hb] at hr
      simp only [cond_true, Option.some.injEq, Prod.mk.injEq] at hr
      obtain ⟨rfl, rfl⟩ := hr
      rw [Bool.and_eq_true] at hb
      obtain ⟨c⟩ := cargs
      simp only at hargs
      match c, hargs with
      | [_], .cons h1 .nil =>
      simp only [VR1, SR, SR0] at h1
      subst h1
      rw [hf]
      refine (Any.internal_strconv_numDigits L u (Nat.le_of_ble_eq_true hb.1) (blt_ok hb.2) w (ht w hG.at_)).mono ?_
      rintro e w' ⟨rfl, rfl⟩
      refine ⟨_, σ, rfl, hR, Ext.refl σ, Fr.refl σ w', ?_⟩
      simp only [VR, VR1, SR, SR0]
  · cases hr

end
end Go.Rae
