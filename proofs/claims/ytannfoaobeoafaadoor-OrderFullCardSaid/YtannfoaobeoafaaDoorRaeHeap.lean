/- Heaps: the relation between an abstract heap and the model's memory; how it goes on. -/
import Derived.Test.YtannfoaobeoafaaDoorRaeRel
import Derived.Laws.CopyRow
set_option linter.unusedVariables false
set_option linter.unusedSimpArgs false
namespace Go.Rae
open Go

theorem H.get_push (h : H) (_hl : h.l.length = h.n) (o : Obj) (id : Nat) : (h.push o).get id = if id = h.n then some o else h.get id := by
  unfold H.push H.get
  simp only
  by_cases e : id = h.n
  · subst e; simp
  · by_cases hlt : id < h.n
    · have : h.n + 1 - 1 - id = (h.n - 1 - id) + 1 := by omega
      rw [if_pos (by omega), if_neg e, if_pos hlt, this, List.getElem?_cons_succ]
    · rw [if_neg (by omega), if_neg e, if_neg hlt]

theorem H.get_set (h : H) (hl : h.l.length = h.n) (i : Nat) (o : Obj) (id : Nat) (hi : i < h.n) : (h.set i o).get id = if id = i then some o else h.get id := by
  unfold H.set H.get
  simp only
  by_cases e : id = i
  · subst e; rw [if_pos hi, if_pos rfl, List.getElem?_set_self (by omega)]
  · by_cases hlt : id < h.n
    · rw [if_pos hlt, if_neg e, if_pos hlt, List.getElem?_set_ne (by omega)]
    · rw [if_neg hlt, if_neg e, if_neg hlt]

theorem H.get_lt {h : H} {id : Nat} {o : Obj} (hg : h.get id = some o) : id < h.n := by
  unfold H.get at hg
  split at hg
  · assumption
  · cases hg

section
variable (K : Ctx)

def OR (σ : Sig) (o : Obj) (L : Loc) (w : World) : Prop :=
  L.st = stampOf o ∧ match o with
  | .cells v g ro => L.ro = ro ∧ L.sh = v.sh ∧ (g = true → ∃ e, K.S v.sh = .dyn e) ∧ ∃ (arr : Array Value) (T : TypeId) (fr : Nat × Nat) (pre cs post : List Value),
      w.heap[L.blk]? = some (.cells arr T fr) ∧ arr.size = L.room ∧ arr.toList = pre ++ cs ++ post ∧ pre.length = L.off ∧ CR K σ v cs ∧ (ro = false → ∀ j, j < arr.size → ¬ (fr.1 ≤ j ∧ j < fr.2))
  | .iter s pos => L.ro = false ∧ L.off = 0 ∧ L.sh = 65535 ∧ w.heap[L.blk]? = some (.stringIter ⟨s.toArray⟩ pos)
  | .map es clock => L.ro = false ∧ ∃ arr : Array MapEntry, w.heap[L.blk]? = some (.map arr clock) ∧
      All2 (fun (a : V × V × Nat) (b : MapEntry) => SR K σ a.1 b.key ∧ VR1 K σ a.2.1 b.val ∧ a.2.2 = b.born) es arr.toList
  | .chan cap buf closed s r => L.ro = false ∧ ∃ arr : Array Value, w.heap[L.blk]? = some (.chan cap arr closed s r false) ∧ All2 (VR1 K σ) buf arr.toList

structure R (σ : Sig) (h : H) (w : World) : Prop where
  len : h.l.length = h.n
  dom : ∀ id, (h.get id).isSome = (σ id).isSome
  obj : ∀ id o L, h.get id = some o → σ id = some L → OR K σ o L w
  sep : ∀ id id' L L', σ id = some L → σ id' = some L' → id ≠ id' → L.ro = false → L.blk ≠ L'.blk

/-- What a step leaves as it was. -/
structure Fr (σ : Sig) (w : World) (σ' : Sig) (w' : World) : Prop where
  os : w'.os = w.os
  tape : w'.tape = w.tape
  output : w'.output = w.output
  size : w.heap.size ≤ w'.heap.size
  block : ∀ b, b < w.heap.size → (∀ id L, σ id = some L → L.ro = false → L.blk ≠ b) → w'.heap[b]? = w.heap[b]?
  new : ∀ id L, σ' id = some L → w.heap.size ≤ L.blk ∨ ∃ i L0, σ i = some L0 ∧ L0.ro = L.ro ∧ L0.blk = L.blk

end

theorem Fr.refl (σ : Sig) (w : World) : Fr σ w σ w :=
  ⟨rfl, rfl, rfl, Nat.le_refl _, fun _ _ _ => rfl, fun id L h => .inr ⟨id, L, h, rfl, rfl⟩⟩

theorem Fr.trans {σ σ' σ'' : Sig} {w w' w'' : World} (h : Fr σ w σ' w') (k : Fr σ' w' σ'' w'') : Fr σ w σ'' w'' := by
  refine ⟨k.os.trans h.os, k.tape.trans h.tape, k.output.trans h.output, Nat.le_trans h.size k.size, fun b hb hno => ?_, fun id L hL => ?_⟩
  · rw [k.block b (Nat.lt_of_lt_of_le hb h.size) fun id L hL hr e => ?_, h.block b hb hno]
    rcases h.new id L hL with h1 | ⟨i, L0, h0, hr0, e0⟩
    · omega
    · exact hno i L0 h0 (hr0.trans hr) (e0.trans e)
  · rcases k.new id L hL with h1 | ⟨i, L0, h0, hr0, e0⟩
    · exact .inl (Nat.le_trans h.size h1)
    · rcases h.new i L0 h0 with h1 | ⟨j, L1, h2, hr1, e1⟩
      · exact .inl (e0 ▸ h1)
      · exact .inr ⟨j, L1, h2, hr1.trans hr0, e1.trans e0⟩

section
variable {K : Ctx} {σ σ' : Sig} {h h' : H} {w w' : World}

theorem OR.ext (hx : Ext σ σ') {o : Obj} {L : Loc} (ho : OR K σ o L w) : OR K σ' o L w := by
  obtain ⟨hs, ho⟩ := ho
  refine ⟨hs, ?_⟩
  cases o with
  | cells v g ro =>
    obtain ⟨h1, h2, h3, arr, T, fr, pre, cs, post, hb, hz, ha, hp, hc, hf⟩ := ho
    exact ⟨h1, h2, h3, arr, T, fr, pre, cs, post, hb, hz, ha, hp, CR.ext hx _ _ hc, hf⟩
  | iter s pos => exact ho
  | map es clock =>
    obtain ⟨h1, arr, hb, ha⟩ := ho
    exact ⟨h1, arr, hb, ha.imp fun a b ⟨x, y, z⟩ => ⟨x.ext hx, y.ext hx, z⟩⟩
  | chan cap buf closed s r =>
    obtain ⟨h1, arr, hb, ha⟩ := ho
    exact ⟨h1, arr, hb, ha.imp fun a b x => x.ext hx⟩

theorem OR.block {o : Obj} {L : Loc} (ho : OR K σ o L w) (hb : w'.heap[L.blk]? = w.heap[L.blk]?) : OR K σ o L w' := by
  obtain ⟨hs, ho⟩ := ho
  refine ⟨hs, ?_⟩
  cases o with
  | cells v g ro =>
    obtain ⟨h1, h2, h3, arr, T, fr, pre, cs, post, hb', r⟩ := ho
    exact ⟨h1, h2, h3, arr, T, fr, pre, cs, post, hb.trans hb', r⟩
  | iter s pos => exact ⟨ho.1, ho.2.1, ho.2.2.1, hb.trans ho.2.2.2⟩
  | map es clock => obtain ⟨h1, arr, hb', ha⟩ := ho; exact ⟨h1, arr, hb.trans hb', ha⟩
  | chan cap buf closed s r => obtain ⟨h1, arr, hb', ha⟩ := ho; exact ⟨h1, arr, hb.trans hb', ha⟩

theorem OR.lt {o : Obj} {L : Loc} (ho : OR K σ o L w) : L.blk < w.heap.size := by
  have key : ∀ x, w.heap[L.blk]? = some x → L.blk < w.heap.size := fun x hx => (Array.getElem?_eq_some_iff.1 hx).1
  obtain ⟨hs, ho⟩ := ho
  cases o with
  | cells v g ro => obtain ⟨h1, h2, h3, arr, T, fr, pre, cs, post, hb', r⟩ := ho; exact key _ hb'
  | iter s pos => exact key _ ho.2.2.2
  | map es clock => obtain ⟨h1, arr, hb', ha⟩ := ho; exact key _ hb'
  | chan cap buf closed s r => obtain ⟨h1, arr, hb', ha⟩ := ho; exact key _ hb'

theorem R.objOf (hR : R K σ h w) {id : Nat} {o : Obj} (hg : h.get id = some o) : ∃ L, σ id = some L ∧ OR K σ o L w := by
  have := hR.dom id
  rw [hg] at this
  cases hs : σ id with
  | none => rw [hs] at this; cases this
  | some L => exact ⟨L, rfl, hR.obj id o L hg hs⟩

theorem R.ofLoc (hR : R K σ h w) {id : Nat} {L : Loc} (hs : σ id = some L) : ∃ o, h.get id = some o ∧ OR K σ o L w := by
  have := hR.dom id
  rw [hs] at this
  cases hg : h.get id with
  | none => rw [hg] at this; cases this
  | some o => exact ⟨o, rfl, hR.obj id o L hg hs⟩

theorem R.lt (hR : R K σ h w) {id : Nat} {L : Loc} (hs : σ id = some L) : L.blk < w.heap.size :=
  let ⟨_, _, ho⟩ := hR.ofLoc hs; ho.lt

theorem R.fresh (hR : R K σ h w) {id : Nat} (hi : h.n ≤ id) : σ id = none := by
  have := hR.dom id
  cases hs : σ id with
  | none => rfl
  | some L =>
    rw [hs] at this
    cases hg : h.get id with
    | none => rw [hg] at this; cases this
    | some o => have := H.get_lt hg; omega

/-- Blocks of ours are as they were. -/
theorem R.frame (hR : R K σ h w) (hb : ∀ id L, σ id = .some L → w'.heap[L.blk]? = w.heap[L.blk]?) : R K σ h w' :=
  ⟨hR.len, hR.dom, fun id o L hg hs => (hR.obj id o L hg hs).block (hb id L hs), hR.sep⟩

def Sig.put (σ : Sig) (id : Nat) (L : Loc) : Sig := fun j => if j = id then some L else σ j

theorem Sig.put_same (σ : Sig) (id : Nat) (L : Loc) : σ.put id L id = .some L := by simp [Sig.put]
theorem Sig.put_ne (σ : Sig) {id j : Nat} (L : Loc) (h : j ≠ id) : σ.put id L j = σ j := by simp [Sig.put, h]

theorem Ext.put_fresh {id : Nat} (hs : σ id = none) (L : Loc) : Ext σ (σ.put id L) := by
  intro j M hM
  have : j ≠ id := by intro e; subst e; rw [hs] at hM; cases hM
  exact ⟨M, by rw [Sig.put_ne _ _ this]; exact hM, Nat.le_refl _, fun _ => rfl⟩

/-- A new object. -/
theorem R.push (hR : R K σ h w) (o : Obj) (L : Loc) (hb : ∀ id M, σ id = .some M → w'.heap[M.blk]? = w.heap[M.blk]?)
    (hnew : ∀ id M, σ id = .some M → M.blk ≠ L.blk) (ho : OR K (σ.put h.n L) o L w') : R K (σ.put h.n L) (h.push o) w' := by
  have hf := hR.fresh (Nat.le_refl h.n)
  have hx := Ext.put_fresh hf L
  refine ⟨by simp [H.push, hR.len], fun id => ?_, fun id o' M hg hs => ?_, fun id id' M M' hs hs' hne hr => ?_⟩
  · rw [H.get_push h hR.len]
    by_cases e : id = h.n
    · subst e; simp [Sig.put_same]
    · rw [if_neg e, Sig.put_ne _ _ e]; exact hR.dom id
  · rw [H.get_push h hR.len] at hg
    by_cases e : id = h.n
    · subst e; rw [if_pos rfl] at hg; rw [Sig.put_same] at hs; cases hg; cases hs; exact ho
    · rw [if_neg e] at hg; rw [Sig.put_ne _ _ e] at hs
      exact ((hR.obj id o' M hg hs).block (hb id M hs)).ext hx
  · by_cases e : id = h.n
    · subst e; rw [Sig.put_same] at hs; cases hs
      rw [Sig.put_ne _ _ (Ne.symm hne)] at hs'
      exact fun e => hnew id' M' hs' e.symm
    · rw [Sig.put_ne _ _ e] at hs
      by_cases e' : id' = h.n
      · subst e'; rw [Sig.put_same] at hs'; cases hs'; exact hnew id M hs
      · rw [Sig.put_ne _ _ e'] at hs'; exact hR.sep id id' M M' hs hs' hne hr

/-- An object changed: its place may be another one, if its stamp is. -/
theorem R.set (hR : R K σ h w) {id : Nat} {L : Loc} (hs : σ id = .some L) (o : Obj) (L' : Loc) (hx : Ext σ (σ.put id L'))
    (hb : ∀ j M, σ j = .some M → j ≠ id → w'.heap[M.blk]? = w.heap[M.blk]?)
    (hnew : ∀ j M, σ j = .some M → j ≠ id → M.blk ≠ L'.blk) (ho : OR K (σ.put id L') o L' w') : R K (σ.put id L') (h.set id o) w' := by
  obtain ⟨o0, hg0, _⟩ := hR.ofLoc hs
  have hlt := H.get_lt hg0
  refine ⟨by simp [H.set, hR.len], fun j => ?_, fun j o' M hg hsj => ?_, fun j j' M M' hj hj' hne hr => ?_⟩
  · rw [H.get_set h hR.len id o j hlt]
    by_cases e : j = id
    · subst e; simp [Sig.put_same]
    · rw [if_neg e, Sig.put_ne _ _ e]; exact hR.dom j
  · rw [H.get_set h hR.len id o j hlt] at hg
    by_cases e : j = id
    · subst e; rw [if_pos rfl] at hg; rw [Sig.put_same] at hsj; cases hg; cases hsj; exact ho
    · rw [if_neg e] at hg; rw [Sig.put_ne _ _ e] at hsj
      exact ((hR.obj j o' M hg hsj).block (hb j M hsj e)).ext hx
  · by_cases e : j = id
    · subst e; rw [Sig.put_same] at hj; cases hj
      rw [Sig.put_ne _ _ (Ne.symm hne)] at hj'
      exact fun e => hnew j' M' hj' (Ne.symm hne) e.symm
    · rw [Sig.put_ne _ _ e] at hj
      by_cases e' : j' = id
      · subst e'; rw [Sig.put_same] at hj'; cases hj'; exact hnew j M hj e
      · rw [Sig.put_ne _ _ e'] at hj'; exact hR.sep j j' M M' hj hj' hne hr

/-- Each cell of a value holds one value. -/
theorem SR0.one {v : V} {c : Value} (hs : SR0 K σ v c) : c.oneCell' = true := by
  cases v with
  | b x => cases hs; rfl
  | i k n => cases hs; rfl
  | s l => cases hs; rfl
  | nilp => cases hs; rfl
  | ptr => obtain ⟨L, a, _, rfl, _⟩ := hs; rfl
  | nilsl => cases hs; rfl
  | sl => obtain ⟨L, a, c', _, rfl, _⟩ := hs; rfl
  | nilm => cases hs; rfl
  | mp => obtain ⟨L, _, r, rfl, _⟩ := hs; rfl
  | nilc => cases hs; rfl
  | ch => obtain ⟨L, _, r, rfl, _⟩ := hs; rfl
  | nilf => cases hs; rfl
  | nili => cases hs; rfl
  | top => exact hs
  | sym k n => cases hs; rfl
  | agg => exact hs.elim
  | tup => exact hs.elim
  | fn => exact hs.elim
  | ifc => exact hs.elim

theorem SR.one {v : V} {c : Value} (hs : SR K σ v c) : c.oneCell' = true := by
  cases v with
  | ifc t x => obtain ⟨y, rfl, _⟩ := hs; rfl
  | fn f caps => obtain ⟨arr, rfl, _⟩ := hs; rfl
  | _ => simp only [SR] at hs; exact hs.one

mutual
theorem CR.ones (v : V) (cs : List Value) (hc : CR K σ v cs) : ∀ c ∈ cs, c.oneCell' = true := by
  cases v with
  | agg k l => simp only [CR] at hc; obtain ⟨fs, _, hl⟩ := hc; exact CRl.ones fs l cs hl
  | _ => simp only [CR] at hc; obtain ⟨c, rfl, hs⟩ := hc; intro x hx; rw [List.mem_singleton.1 hx]; exact hs.one
  termination_by SizeOf.sizeOf v
theorem CRl.ones (fs : List Nat) (l : List V) (cs : List Value) (hc : CRl K σ fs l cs) : ∀ c ∈ cs, c.oneCell' = true := by
  match fs, l with
  | [], [] => simp only [CRl] at hc; subst hc; intro x hx; cases hx
  | f :: fs, v :: l =>
    simp only [CRl] at hc
    obtain ⟨hs, a, b, rfl, ha, hb⟩ := hc
    intro x hx
    rcases List.mem_append.1 hx with h1 | h1
    · exact CR.ones v a ha x h1
    · exact CRl.ones fs l b hb x h1
  | [], _ :: _ => simp only [CRl] at hc
  | _ :: _, [] => simp only [CRl] at hc
  termination_by SizeOf.sizeOf l
end

/-- A store of cells into a row of which none is frozen. -/
theorem run_cells (P : Program) (g o : Nat) (t : TypeId) (fr : Nat × Nat) : ∀ (vs : List Value) (i : Nat) (cur : Array Value) (w : World), w.heap[g]? = some (.cells cur t fr) → (∀ j, j < cur.size → ¬ (fr.1 ≤ j ∧ j < fr.2)) → o + i + vs.length ≤ cur.size → (∀ v ∈ vs, v.oneCell' = true) →
    (storeCells ⟨g, o, none⟩ vs i).run P w = .ok () (w.setRow g (cur.toList.take (o + i) ++ vs ++ cur.toList.drop (o + i + vs.length)).toArray)
  | [], i, cur, w, hg, _, _, _ => by
    simp only [storeCells, List.append_nil, List.length_nil, Nat.add_zero, List.take_append_drop, Array.toArray_toList]
    rw [setRow_self w g cur t fr hg]
    rfl
  | v :: rest, i, cur, w, hg, hf, hl, h1 => by
    have hi : o + i < cur.size := by simp at hl; omega
    have hadd : (⟨g, o, none⟩ : Addr).add i = ⟨g, o + i, none⟩ := by unfold Addr.add; split <;> simp_all
    have hcell : w.cell? ⟨g, o + i, none⟩ = some cur[o + i] := by simp [World.cell?, hg, hi]
    have hfro : w.frozen? ⟨g, o + i, none⟩ = false := by
      obtain ⟨f1, f2⟩ := fr
      have := hf (o + i) hi
      simp only [World.frozen?, hg]
      simpa using this
    have hst : (Go.store ((⟨g, o, none⟩ : Addr).add i) v).run P w = .ok () (w.setRow g (cur.setIfInBounds (o + i) v)) := by
      rw [hadd, run_store P w _ v _ (h1 v (by simp)), hcell]
      simp [hfro, setCell_eq_setRow w g (o + i) cur t fr v hg]
    have ih := run_cells P g o t fr rest (i + 1) (cur.setIfInBounds (o + i) v) (w.setRow g (cur.setIfInBounds (o + i) v)) (setRow_heap w g cur _ t _ hg) (fun j hj => hf j (by simpa using hj)) (by simp at hl ⊢; omega) (fun x hx => h1 x (by simp [hx]))
    simp only [storeCells, Sem.run_bind, hst, Result.andThen_ok, ih, setRow_setRow]
    congr 3
    have e := list_seg_step cur.toList (o + i) v rest (by simp at hl ⊢; omega)
    simpa [Array.toList_setIfInBounds, Nat.add_assoc] using e

theorem heap_setRow_ne (w : World) (g : Nat) (cs : Array Value) (k : Nat) (h : k ≠ g) : (w.setRow g cs).heap[k]? = w.heap[k]? := by
  simp only [World.setRow, Array.getElem?_modify]
  rw [if_neg (Ne.symm h)]

/-- What a reference reads lies in the model's memory. -/
theorem R.read (hK : K.flat) (hR : R K σ h w) {id st : Nat} {p : List Nat} {x : V} (hr : h.read id st p = .some x) :
    ∃ L m o, σ id = .some L ∧ L.st = st ∧ offs K L.sh p = .some (o, x.sh) ∧ CR K σ x m ∧ L.off + o + m.length ≤ L.room ∧
      ∃ (arr : Array Value) (T : TypeId) (fr : Nat × Nat), w.heap[L.blk]? = .some (.cells arr T fr) ∧ arr.size = L.room ∧
        ∀ j v, m[j]? = .some v → arr[L.off + o + j]? = .some v := by
  unfold H.read H.root at hr
  cases hg : h.get id with
  | none => rw [hg] at hr; simp at hr
  | some ob =>
    rw [hg] at hr
    cases ob with
    | cells v g ro =>
      simp only at hr
      by_cases hst : stampOf (.cells v g ro) = st
      · rw [if_pos hst] at hr
        obtain ⟨L, hs, ho⟩ := hR.objOf hg
        obtain ⟨h0, h1, h2, h3, arr, T, fr, pre, cs, post, hb, hz, ha, hp, hc, hf⟩ := ho
        obtain ⟨a, m, b, rfl, hm, hof, _⟩ := CR.sub hK p v cs x hc hr
        refine ⟨L, m, a.length, hs, h0.trans hst, by rw [h2]; exact hof, hm, ?_, arr, T, fr, hb, hz, ?_⟩
        · have := congrArg List.length ha
          simp only [Array.length_toList, List.length_append] at this
          omega
        · intro j v hj
          have hlt := (List.getElem?_eq_some_iff.1 hj).1
          rw [← Array.getElem?_toList, ha]
          rw [List.append_assoc, List.append_assoc, List.append_assoc, List.getElem?_append_right (by omega), List.getElem?_append_right (by omega)]
          rw [List.getElem?_append_left (by omega)]
          rw [← hj]; congr 1; omega
      · rw [if_neg hst] at hr; simp at hr
    | _ => simp at hr

end
end Go.Rae
