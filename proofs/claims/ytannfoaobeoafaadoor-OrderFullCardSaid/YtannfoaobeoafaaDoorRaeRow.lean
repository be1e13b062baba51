/- From a row's condition to a run, and back to what the row says. -/
import Derived.Test.YtannfoaobeoafaaDoorRaeFun
import Derived.ProofKit
import Derived.OpenShut
import Derived.HandedShaped
import Derived.ChangeMaps5
set_option linter.unusedVariables false
set_option linter.unusedSimpArgs false
namespace Go.Rae
open Go Go.ChangeShapes Go.WideShapes Go.ChangeAt Go.RowKit

/-- The plain wrap: the listed variables' condition and the world's shape kept. -/
theorem handed_shaped {H : Type} {enc : TypeId × Value → H} {a : Assume} {C : Checked} {os : Os} {f : FuncId} {fn : Func} {s : ChangeSpec} {conds : List PathCond} {apart fresh handsOn again : Bool} {X : World → Array Value → Prop}
    (hX : ∀ (w w' : World) (args : Array Value), w.heap = w'.heap → X w args → X w' args)
    (own : ownKnob C.prog.godebug = none) (started : os.Started) (noInit : C.prog.inits.idxOf? f = none) (hfn : C.prog.funcs[f]? = some fn)
    (witness : ∃ (w : World) (tape : Tape) (i : Input), w.os = os ∧ (w.forCall tape i).Shaped C.prog ∧ i.vars = [] ∧ Input.okWide C.prog (w.forCall tape i) .any w.heap.size f i ∧
      ((s.pre enc C.prog fn conds apart (w.forCall tape i).memory i.args ∧ X (w.forCall tape i).memory i.args) ∧ sizedMet enc C.prog fn (OpenSpec.ofChange s) apart (w.forCall tape i).memory i.args) ∧ a.holds C.prog (lone (Frame.enter C.prog f i.args .normal) [] (w.forCall tape i)))
    (contract : ∀ (W : World) (base : Nat) (args : Array Value) (ds gs : List (DataW H)) (before : List MemPlace),
      (∀ (j : Nat) t v, fn.params[j]? = some t → args[j]? = some v → Value.okWide C.prog W .any base t v) →
      DataW.Whole enc C.prog fn.params.toList s.vars apart W args.toList ds gs before → W.ShapedOpen C.prog → X W args →
      Calls C.prog f args W fun e W' => ∃ v, e = .returned v ∧ s.post enc C.prog fn apart fresh handsOn again W args v W') :
    ReturnsInHanded a C os f .any (fun w args => (s.pre enc C.prog fn conds apart w args ∧ X w args) ∧ sizedMet enc C.prog fn (OpenSpec.ofChange s) apart w args) (s.post enc C.prog fn apart fresh handsOn again) := by
  refine returnsInHanded_of_calls own started noInit witness ?_
  intro w tape i _ hsh _ hok hpre _
  obtain ⟨_, _, _, fn', hfn', _, _, _, _, hval⟩ := hok
  have e : fn' = fn := Option.some.inj (hfn'.symm.trans hfn)
  subst e
  obtain ⟨⟨⟨ds, gs, before, hw, _⟩, hx⟩, _⟩ := hpre
  have hw' := DataW.Whole.of_heap (w' := w.forCall tape i) (by rfl) hw
  refine (contract (w.forCall tape i) w.heap.size i.args ds gs before hval hw' hsh (hX _ _ _ (by rfl) hx)).mono fun e W' ⟨v, he, hp⟩ => ?_
  subst he
  exact ChangeSpec.post_blind hp

theorem trodAll_stays {H : Type} {enc : TypeId × Value → H} {P : Program} (hl : laidOutB P = true) {W W' : World} (hB : Below W.heap.size W W') :
    ∀ {ts : List TypeId} {vs : List Value} {ds : List (DataW H)} {ps : List MemPlace}, (∀ t ∈ ts, P.readableRec t = true ∧ t < P.types.size) → (∀ x ∈ ps, x.block < W.heap.size) →
      DataW.TrodAll enc P W 0 (fun _ => true) true ts vs ds ps → DataW.TrodAll enc P W' 0 (fun b => decide (b < W.heap.size)) true ts vs ds ps
  | [], [], [], _, _, _, h => h
  | t :: ts, v :: vs, d :: ds, ps, ht, hp, h => by
    obtain ⟨p, q, h1, h2, rfl⟩ := h
    have h3 := ht t (List.mem_cons_self ..)
    exact ⟨p, q, Below.trod hl h3.1 h3.2 h1 hB fun x hx => hp x (List.mem_append.2 (.inl hx)), trodAll_stays hl hB (fun u hu => ht u (List.mem_cons_of_mem _ hu)) (fun x hx => hp x (List.mem_append.2 (.inr hx))) h2, rfl⟩
  | [], _ :: _, _, _, _, _, h => h.elim
  | [], [], _ :: _, _, _, _, h => h.elim
  | _ :: _, [], _, _, _, _, h => h.elim
  | _ :: _, _ :: _, [], _, _, _, h => h.elim

/-- What a law's row says of the end: true, the arguments as they were. -/
theorem post_law {H : Type} {enc : TypeId × Value → H} {P : Program} {f : Func} {s : ChangeSpec} {W W' : World} {args : Array Value} {ds gs : List (DataW H)} {before : List MemPlace} {tb : TypeId}
    (hl : laidOutB P = true) (hv : s.vars = []) (hp : ∀ t ∈ f.params.toList, P.readableRec t = true ∧ t < P.types.size) (hr : f.resultTypes = #[tb]) (hb : P.underlying tb = some .bool)
    (hW : DataW.Whole enc P f.params.toList s.vars false W args.toList ds gs before)
    (hs : s.fn H (ds ++ gs) = { results := [.lit (.bool true)], args := ds }) (hB : Below W.heap.size W W') : s.post enc P f false true false false W args (.bool true) W' := by
  have hlt := hW.lt
  have hW' := hW
  obtain ⟨p, q, hA, hV, rfl, _, _⟩ := hW
  rw [hv] at hV
  cases gs with
  | cons => exact hV.elim
  | nil =>
    obtain rfl : q = [] := hV
    refine ⟨ds, [], p ++ [], [], p, [], hW', ?_, ?_, ?_, hB.frame _, fun h => by cases h⟩
    · rw [hs]
      simp only [hr, Value.resultList]
      exact trodAll_mk1 (shut_bool hb _)
    · rw [hs]
      exact trodAll_stays hl hB hp (fun x hx => hlt x (by simpa using hx)) hA
    · rw [hs, hv]; exact rfl

section
variable {K : Ctx}

theorem Fr.below {σ σ' : Sig} {w w' : World} (h : Fr σ w σ' w') (hro : ∀ id L, σ id = some L → L.ro = true) : Below w.heap.size w w' :=
  ⟨h.os, h.tape, h.output, h.size, fun b hb => h.block b hb fun id L hs hr => by rw [hro id L hs] at hr; cases hr⟩

def AllRo (σ : Sig) : Prop := ∀ id L, σ id = some L → L.ro = true

/-- A new object that nobody writes. -/
theorem R.pushRo {σ : Sig} {h : H} {w : World} (hR : R K σ h w) (hA : AllRo σ) (o : Obj) (L : Loc) (hL : L.ro = true) (ho : OR K (σ.put h.n L) o L w) : R K (σ.put h.n L) (h.push o) w ∧ AllRo (σ.put h.n L) ∧ Ext σ (σ.put h.n L) := by
  have hf := hR.fresh (Nat.le_refl h.n)
  have hx := Ext.put_fresh hf L
  have hA' : AllRo (σ.put h.n L) := fun id M hM => by
    by_cases e : id = h.n
    · subst e; rw [Sig.put_same] at hM; cases hM; exact hL
    · rw [Sig.put_ne _ _ e] at hM; exact hA id M hM
  refine ⟨⟨by simp [H.push, hR.len], fun id => ?_, fun id o' M hg hs => ?_, fun id id' M M' hs hs' hne hr => ?_⟩, hA', hx⟩
  · rw [H.get_push h hR.len]
    by_cases e : id = h.n
    · subst e; simp [Sig.put_same]
    · rw [if_neg e, Sig.put_ne _ _ e]; exact hR.dom id
  · rw [H.get_push h hR.len] at hg
    by_cases e : id = h.n
    · subst e; rw [if_pos rfl] at hg; rw [Sig.put_same] at hs; cases hg; cases hs; exact ho
    · rw [if_neg e] at hg; rw [Sig.put_ne _ _ e] at hs
      exact (hR.obj id o' M hg hs).ext hx
  · rw [hA' id M hs] at hr; cases hr

/-- What a slice of integers that came in is to the evaluator. -/
def SlAt (d e : Nat) (k : IntKind) (h : H) (v : V) (ns : List Int) : Prop :=
  (v = .nilsl ∧ ns = []) ∨ ∃ id, v = .sl id 0 [] e 0 ns.length none ∧ h.get id = some (.cells (.agg d (ns.map (V.i k))) false true)

theorem SlAt.push {d e : Nat} {k : IntKind} {h : H} {v : V} {ns : List Int} (hs : SlAt d e k h v ns) (o : Obj) : SlAt d e k (h.push o) v ns := by
  rcases hs with h1 | ⟨id, h1, h2⟩
  · exact .inl h1
  · refine .inr ⟨id, h1, ?_⟩
    unfold H.push H.get at *
    split at h2
    · rename_i hlt
      have : h.n + 1 - 1 - id = (h.n - 1 - id) + 1 := by omega
      simp only
      rw [if_pos (by omega), this, List.getElem?_cons_succ]; exact h2
    · cases h2

theorem crl_ints {σ : Sig} {k : IntKind} : ∀ (ns : List Int), CRl K σ (List.replicate ns.length (kindNo k)) (ns.map (V.i k)) (ns.map fun n => Value.int k n) := by
  intro ns
  induction ns with
  | nil => simp only [List.length_nil, List.replicate_zero, List.map_nil, CRl]
  | cons n ns ih =>
    simp only [List.length_cons, List.replicate_succ, List.map_cons, CRl]
    refine ⟨rfl, [Value.int k n], _, rfl, ?_, ih⟩
    simp only [CR, SR, SR0]; exact ⟨_, rfl, rfl⟩

/-- A slice of integers that came in. -/
theorem slice_in {H' : Type} {enc : TypeId × Value → H'} {σ : Sig} {h : H} {W : World} {base : Nat} {k : IntKind} {t e : TypeId} {d : Nat} {v : Value} {dd : DataW H'} {ps : List MemPlace}
    (hR : R K σ h W) (hA : AllRo σ) (ht : K.P.underlying t = some (.slice e)) (he : K.P.underlying e = some (.int k)) (hc : K.P.cellsOf e = 1) (hd : K.S d = .dyn (kindNo k))
    (hg : ∃ (g : Nat) (cs : Array Value) (T : TypeId) (fr : Nat × Nat), W.heap[g]? = some (.cells cs T fr))
    (hval : Value.okWide K.P W .any base t v) (h0 : DataW.Trod enc K.P W 0 (fun _ => true) true t v dd ps) :
    ∃ σ' h' x ns, R K σ' h' W ∧ AllRo σ' ∧ Ext σ σ' ∧ VR1 K σ' x v ∧ SlAt d (kindNo k) k h' x ns ∧ (∀ n ∈ ns, (Lit.int k n).wf = true) ∧ (h' = h ∨ ∃ o, h' = h.push o) := by
  obtain ⟨fuel, hf⟩ := h0
  rcases open_ints ht he hc hf with ⟨hcs, _⟩ | ⟨a, len, cap, zs, hcs, _, hl, _, hz, _, hcell, hwz⟩
  · refine ⟨σ, h, .nilsl, [], hR, hA, Ext.refl σ, ?_, .inl ⟨rfl, rfl⟩, (fun _ h => by cases h), .inl rfl⟩
    simp only [VR1, SR, SR0]
    obtain ⟨a, l, c, rfl⟩ := okWide_slice ht hval
    simpa [Value.cells] using hcs
  · have hv : v = .slice (some a) len cap := by
      obtain ⟨a', l, c, rfl⟩ := okWide_slice ht hval
      simpa [Value.cells] using hcs
    subst hv
    simp only [if_true] at hz
    have hsz : K.sz (kindNo k) = 1 := K.szd _ (by cases k <;> simp [kindNo])
    by_cases hcap : cap = 0
    · subst hcap
      obtain rfl : len = 0 := by omega
      obtain ⟨g, cs, T, fr, hgb⟩ := hg
      obtain ⟨h1, h2, h3⟩ := hR.pushRo hA (.cells (.agg d []) false true) ⟨g, 0, cs.size, 0, d, true⟩ rfl
        ⟨rfl, rfl, rfl, (fun h => by cases h), cs, T, fr, [], [], cs.toList, hgb, rfl, (by simp), rfl, (by simp only [CR, hd, kids]; exact ⟨_, rfl, (by simp [CRl])⟩), (fun h => by cases h)⟩
      refine ⟨_, _, .sl h.n 0 [] (kindNo k) 0 0 none, [], h1, h2, h3, ?_, .inr ⟨h.n, rfl, ?_⟩, (fun _ h => by cases h), .inr ⟨_, rfl⟩⟩
      · simp only [VR1, SR, SR0]
        exact ⟨_, a, 0, Sig.put_same _ _ _, rfl, Nat.le_refl _, Nat.le_refl _, (fun _ h => by cases h), fun _ => ⟨0, d, rfl, .inr hd, .inl rfl⟩⟩
      · rw [H.get_push h hR.len, if_pos rfl]; rfl
    · have hc0 := hcell 0 (by omega)
      have hsp : a.spot = none := by
        unfold World.cell? Addr.add at hc0
        simp only [if_true] at hc0
        split at hc0
        · split at hc0
          · cases hc0
          · rename_i hs; simpa using hs
        · cases hc0
      obtain ⟨arr, T, fr, hb⟩ : ∃ arr T fr, W.heap[a.block]? = some (.cells arr T fr) := by
        unfold World.cell? Addr.add at hc0
        simp only [if_true] at hc0
        split at hc0
        · exact ⟨_, _, _, by assumption⟩
        · cases hc0
      have hat : ∀ i, i < zs.length → arr[a.off + i]? = some (.int k (zs.getD i 0)) := by
        intro i hi
        have := hcell i hi
        have e : (a.add i).spot = none := by unfold Addr.add; split <;> simp_all
        have e2 : (a.add i).block = a.block := by unfold Addr.add; split <;> rfl
        have e3 : (a.add i).off = a.off + i := by unfold Addr.add; split <;> simp_all
        unfold World.cell? at this
        rw [e2, hb] at this
        simp only [e, e3, Option.isSome_none, Bool.false_eq_true, if_false] at this
        exact this
      have hroom : a.off + cap ≤ arr.size := by
        have := hat (cap - 1) (by omega)
        have := (Array.getElem?_eq_some_iff.1 this).1
        omega
      have hseg : (arr.toList.drop a.off).take len = (zs.take len).map fun n => Value.int k n := by
        apply List.ext_getElem?
        intro i
        by_cases hi : i < len
        · rw [List.getElem?_take_of_lt hi, List.getElem?_drop, Array.getElem?_toList, hat i (by omega)]
          rw [List.getElem?_map, List.getElem?_take_of_lt hi]
          have : i < zs.length := by omega
          simp [List.getD, this]
        · rw [List.getElem?_eq_none (by simp; omega), List.getElem?_eq_none (by simp; omega)]
      have hlen : (zs.take len).length = len := by simp; omega
      obtain ⟨h1, h2, h3⟩ := hR.pushRo hA (.cells (.agg d ((zs.take len).map (V.i k))) false true) ⟨a.block, a.off, arr.size, 0, d, true⟩ rfl
        ⟨rfl, rfl, rfl, (fun h => by cases h), arr, T, fr, arr.toList.take a.off, (arr.toList.drop a.off).take len, (arr.toList.drop a.off).drop len, hb, rfl, (by rw [List.append_assoc, List.take_append_drop, List.take_append_drop]), (by simp; omega),
          (by simp only [CR, hd, kids]; exact ⟨_, rfl, (by rw [hseg]; simpa using crl_ints (K := K) (zs.take len))⟩), (fun h => by cases h)⟩
      refine ⟨_, _, .sl h.n 0 [] (kindNo k) 0 len none, zs.take len, h1, h2, h3, ?_, .inr ⟨h.n, by rw [hlen], ?_⟩, fun n hn => hwz n (List.mem_of_mem_take hn), .inr ⟨_, rfl⟩⟩
      · simp only [VR1, SR, SR0]
        refine ⟨_, a, cap, Sig.put_same _ _ _, rfl, Nat.le_refl _, hl, (fun _ h => by cases h), fun _ => ⟨0, d, rfl, .inr hd, .inr ⟨?_, ?_⟩⟩⟩
        · obtain ⟨ab, ao, as⟩ := a
          simp only at hsp; subst hsp
          simp
        · simp only [hsz]; omega
      · rw [H.get_push h hR.len, if_pos rfl]

end
end Go.Rae
