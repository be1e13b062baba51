/- The evaluator of the intermediate code is the model's machine. -/
import Derived.Test.YtannfoaobeoafaaDoorRaeCodeJ
import Derived.ScopeJumps
import Derived.LoopN
set_option linter.unusedVariables false
set_option linter.unusedSimpArgs false
namespace Go.Rae
open Go

/-- Passes through a scope, from a label on. -/
def jrounds (P : Program) (c : Code) (Q : Exit → Act → World → Prop) : Nat → Nat → Act → World → Prop
  | 0, _, _, _ => False
  | n + 1, l, a, w => match findLabel c l with
    | some rest => rest.wp P (fun e a w => match e with | .goto l' => jrounds P c Q n l' a w | e => Q e a w) a w
    | none => Q (.goto l) a w

theorem wp_scope_rounds {P : Program} {a : Act} {w : World} {Q : Exit → Act → World → Prop} {c : Code} (n : Nat)
    (h : c.wp P (fun e a w => match e with | .goto l' => jrounds P c Q n l' a w | e => Q e a w) a w) : (Code.scope c).wp P Q a w := by
  intro b k cs
  have key : ∀ n l a w, jrounds P c Q n l a w → ∀ m, (∀ k', gotoIn l (.inScope c :: k) = some k' → Steps P m (lone (b.at a k') cs w)) →
      ∃ e a' w', Q e a' w' ∧ Arrives P m b k cs e a' w' := by
    intro n
    induction n with
    | zero => intro l a w h; exact h.elim
    | succ n ih =>
      intro l a w h m hm
      simp only [jrounds] at h
      cases hf : findLabel c l with
      | none =>
        rw [hf] at h
        refine ⟨.goto l, a, w, h, fun k' hk => hm k' ?_⟩
        simp [gotoIn, hf, hk]
      | some rest =>
        rw [hf] at h
        obtain ⟨e, a₁, w₁, hq, harr⟩ := h b (.inScope c :: k) cs
        have hs := hm (.code rest :: .inScope c :: k) (by simp [gotoIn, hf])
        cases e with
        | normal => exact ⟨.normal, a₁, w₁, hq, hs.trans (Steps.trans harr (.one step_inScope))⟩
        | exit id => exact ⟨.exit id, a₁, w₁, hq, fun k' hk => hs.trans (harr k' (by simp [exitTo, hk]))⟩
        | goto l' => exact ih l' a₁ w₁ hq m (fun k' hk => hs.trans (harr k' hk))
        | ret => exact ⟨_, a₁, w₁, hq, .of_steps hs harr⟩
        | panic ch => exact ⟨_, a₁, w₁, hq, .of_steps hs harr⟩
        | outgrown => exact ⟨_, a₁, w₁, hq, .of_steps (b := b) (k := k) (cs := cs) (e := .outgrown) hs harr⟩
  obtain ⟨e, a₁, w₁, hq, harr⟩ := h b (.inScope c :: k) cs
  cases e with
  | normal => exact ⟨.normal, a₁, w₁, hq, .head step_scope (Steps.trans harr (.one step_inScope))⟩
  | exit id => exact ⟨.exit id, a₁, w₁, hq, fun k' hk => .head step_scope (harr k' (by simp [exitTo, hk]))⟩
  | goto l' => exact key n l' a₁ w₁ hq _ (fun k' hk => .head step_scope (harr k' hk))
  | ret => exact ⟨_, a₁, w₁, hq, .of_steps (.one step_scope) harr⟩
  | panic ch => exact ⟨_, a₁, w₁, hq, .of_steps (.one step_scope) harr⟩
  | outgrown => exact ⟨_, a₁, w₁, hq, .of_steps (b := b) (k := k) (cs := cs) (e := .outgrown) (.one step_scope) harr⟩

section
variable {K : Ctx} {σ : Sig} {h : H} {w : World} {e : Env} {a : Act}

/-! ### calls -/

mutual
theorem CR.pure {σ σ' : Sig} (v : V) (cs : List Value) (hp : K.pure v.sh = true) (hv : CR K σ v cs) : CR K σ' v cs := by
  cases v with
  | agg k l =>
    simp only [CR] at hv ⊢
    obtain ⟨fs, hk, hl⟩ := hv
    refine ⟨fs, hk, CRl.pure fs l cs ?_ hl⟩
    unfold kids at hk
    simp only [V.sh] at hp
    split at hk
    · rename_i gs hg
      split at hk
      · injection hk with hk; subst hk; exact K.pureStr _ _ hg hp
      · cases hk
    · rename_i m el hg
      split at hk
      · injection hk with hk; subst hk
        intro f hf; obtain ⟨_, rfl⟩ := List.mem_replicate.1 hf
        exact K.pureArr _ _ _ hg hp
      · cases hk
    · rename_i el hg
      rw [K.pureDyn _ _ hg] at hp; cases hp
    · cases hk
  | b x => simp only [CR] at hv ⊢; exact hv
  | i k n => simp only [CR] at hv ⊢; exact hv
  | s l => simp only [CR] at hv ⊢; exact hv
  | tup l => simp only [CR, SR, SR0] at hv; obtain ⟨_, _, hf⟩ := hv; exact hf.elim
  | _ => simp only [V.sh] at hp; rw [K.pure1] at hp; cases hp
  termination_by SizeOf.sizeOf v
theorem CRl.pure {σ σ' : Sig} (fs : List Nat) (l : List V) (cs : List Value) (hp : ∀ f ∈ fs, K.pure f = true) (hv : CRl K σ fs l cs) : CRl K σ' fs l cs := by
  match fs, l with
  | [], [] => simpa only [CRl] using hv
  | f :: fs, v :: l =>
    simp only [CRl] at hv ⊢
    obtain ⟨hs, x, y, rfl, hx, hy⟩ := hv
    exact ⟨hs, x, y, rfl, CR.pure v x (by rw [hs]; exact hp f (List.mem_cons_self ..)) hx, CRl.pure fs l y (fun g hg => hp g (List.mem_cons_of_mem _ hg)) hy⟩
  | [], _ :: _ => simp only [CRl] at hv
  | _ :: _, [] => simp only [CRl] at hv
  termination_by SizeOf.sizeOf l
end

theorem VR1.noRef {σ σ' : Sig} {v : V} {c : Value} (hn : noRef K.pure v = true) (hv : VR1 K σ v c) : VR1 K σ' v c := by
  cases v with
  | agg k l =>
    simp only [VR1] at hv ⊢
    obtain ⟨arr, rfl, hc⟩ := hv
    exact ⟨arr, rfl, CR.pure (.agg k l) _ hn hc⟩
  | b x => simpa only [VR1, SR, SR0] using hv
  | i k n => simpa only [VR1, SR, SR0] using hv
  | sym k n => simpa only [VR1, SR, SR0] using hv
  | s l => simpa only [VR1, SR, SR0] using hv
  | _ => cases hn

theorem All2.noRefs {σ σ' : Sig} {vs : List V} {cs : List Value} (h2 : All2 (VR1 K σ) vs cs) (hn : noRefs K.pure vs = true) : All2 (VR1 K σ') vs cs := by
  induction h2 with
  | nil => exact .nil
  | cons p _ ih =>
    simp only [Rae.noRefs, Bool.and_eq_true] at hn
    exact .cons (p.noRef hn.1) (ih hn.2)

theorem VR.noRef {σ σ' : Sig} {v : V} {c : Value} (hn : noRefR K.pure v = true) (hv : VR K σ v c) : VR K σ' v c := by
  cases v with
  | tup l =>
    simp only [VR] at hv ⊢
    obtain ⟨arr, rfl, h2⟩ := hv
    exact ⟨arr, rfl, h2.noRefs hn⟩
  | _ =>
    simp only [VR] at hv ⊢
    exact VR1.noRef (by simpa only [noRefR] using hn) hv

theorem R.empty (K : Ctx) (w : World) : R K (fun _ => none) H.empty w :=
  ⟨rfl, fun id => by simp [H.get, H.empty], fun id o L hg => by simp [H.get, H.empty] at hg, fun id id' L L' hs => by cases hs⟩

theorem call_ok {C : Orc} (hC : SoundO K C) {f : Nat} {args : List V} {v : V} {h' : H} (hr : callV K.pure C f args h = some (v, h')) : Callable K f ∧ Sound1 K f args h v h' := by
  unfold callV at hr
  split at hr
  · rename_i hn
    split at hr
    · rename_i v0 h0 h1
      split at hr
      · rename_i hnr
        injection hr with hr; injection hr with e1 e2; subst e1 e2
        obtain ⟨hc, hs⟩ := hC _ _ _ _ _ h1
        refine ⟨hc, fun σ w cargs hG hR hargs => ?_⟩
        refine (hs (fun _ => none) w cargs hG.none (R.empty K w) (hargs.noRefs hn)).mono ?_
        rintro e w' ⟨c, σ', rfl, hR', hE, hF, hV⟩
        have hbl : ∀ b, b < w.heap.size → w'.heap[b]? = w.heap[b]? := fun b hb => hF.block b hb (fun id L hL => by cases hL)
        exact ⟨c, σ, rfl, hR.frame (fun id L hL => hbl _ (hR.lt hL)), Ext.refl σ, ⟨hF.os, hF.tape, hF.output, hF.size, fun b hb _ => hbl b hb, fun id L hL => .inr ⟨id, L, hL, rfl, rfl⟩⟩, hV.noRef hnr⟩
      · exact hC _ _ _ _ _ hr
    · cases hr
  · exact hC _ _ _ _ _ hr

/-! ### regions -/

/-- An operation with its place, its guard. -/
def OperOK (K : Ctx) (N : Nat) (ops : Array Oper) (i : IOper) (o : Oper) : Prop :=
  i.dst = o.dst ∧ (∀ d, o.dst = some d → d < N) ∧ OpOK K i.op o.op ∧
    match i.guard, o.guard with
    | none, none => True
    | some (t, b), some (j, b') => b = b' ∧ ∃ oj, ops[j]? = some oj ∧ oj.dst = some t
    | _, _ => False

theorem get_put : ∀ (e : Env) (k : Nat) (x : V) (n : Nat), (e.put k x).get n = if n = k then some x else e.get n := by
  intro e
  induction e with
  | nil => intro k x n; simp only [Env.put, Env.get]; by_cases h : k = n <;> simp [h, eq_comm]
  | cons p e ih =>
    intro k x n
    obtain ⟨j, y⟩ := p
    simp only [Env.put]
    by_cases hj : j = k
    · rw [if_pos hj]; subst hj
      simp only [Env.get]
      by_cases h : j = n
      · subst h; simp
      · rw [if_neg h, if_neg (Ne.symm h), if_neg h]
    · rw [if_neg hj]
      simp only [Env.get]
      by_cases h : j = n
      · subst h; rw [if_pos rfl, if_neg hj, if_pos rfl]
      · rw [if_neg h, ih, if_neg h]

theorem get_keep : ∀ (e : Env) (ks : List Nat) (n : Nat) (v : V), (e.keep ks).get n = some v → e.get n = some v := by
  intro e ks
  induction e with
  | nil => intro n v h; simpa [Env.keep] using h
  | cons p e ih =>
    intro n v h
    obtain ⟨j, y⟩ := p
    simp only [Env.keep, List.filter_cons] at h
    simp only [Env.get]
    by_cases hj : j = n
    · subst hj
      by_cases hk : ks.contains j = true
      · simp only [hk, if_true, Env.get] at h; rw [if_pos rfl]; exact h
      · exfalso
        simp only [hk, Bool.false_eq_true, if_false] at h
        have : ∀ (e : Env) (v : V), Env.get (e.filter fun p => ks.contains p.1) j = some v → ks.contains j = true := by
          intro e
          induction e with
          | nil => intro v h; cases h
          | cons q e ih =>
            intro v h
            simp only [List.filter_cons] at h
            split at h
            · rename_i hq
              simp only [Env.get] at h
              split at h
              · rename_i e1; rw [← e1]; exact hq
              · exact ih v h
            · exact ih v h
        exact hk (this e v h)
    · rw [if_neg hj]
      apply ih n v
      by_cases hk : ks.contains j = true
      · simp only [hk, if_true, Env.get, if_neg hj] at h; exact h
      · simp only [hk, Bool.false_eq_true, if_false] at h; exact h

theorem get_sel : ∀ (e : Env) (ks : List Nat) (n : Nat) (v : V), (e.sel ks).get n = some v → e.get n = some v := by
  intro e ks
  induction ks with
  | nil => intro n v h; simp only [Env.sel, Env.get, reduceCtorEq] at h
  | cons k ks ih =>
    intro n v h
    simp only [Env.sel] at h
    split at h
    · rename_i u hu
      simp only [Env.get] at h
      split at h
      · rename_i hk; subst hk; rw [hu]; exact h
      · exact ih n v h
    · exact ih n v h

theorem ER.sel (he : ER K σ e a) (ks : List Nat) : ER K σ (e.sel ks) a := fun k v hv => he k v (get_sel e ks k v hv)

theorem ER.keep (he : ER K σ e a) (ks : List Nat) : ER K σ (e.keep ks) a := fun k v hv => he k v (get_keep e ks k v hv)

theorem ER.put (he : ER K σ e a) {σ' : Sig} (hx : Ext σ σ') {dst : Option Nat} {v : V} {c : Value} (hd : ∀ d, dst = some d → d < a.tmps.size) (hv : VR K σ' v c) : ER K σ' (e.putO dst v) (a.put dst c) := by
  intro k x hk
  cases dst with
  | none => exact (he k x hk).ext hx
  | some d =>
    simp only [Env.putO, get_put] at hk
    have hlt := hd d rfl
    by_cases e1 : k = d
    · subst e1
      rw [if_pos rfl] at hk; injection hk with hk; subst hk
      have : (a.put (some k) c).tmps.getD k undef = c := by
        simp [Act.put, hlt]
      rw [this]; exact hv
    · rw [if_neg e1] at hk
      have : (a.put (some d) c).tmps.getD k undef = a.tmps.getD k undef := by
        simp [Act.put, Array.getElem?_setIfInBounds_ne (Ne.symm e1)]
      rw [this]; exact (he k x hk).ext hx

theorem put_size (a : Act) (d : Option Nat) (c : Value) : (a.put d c).tmps.size = a.tmps.size ∧ (a.put d c).defers = a.defers := by
  cases d <;> simp [Act.put]

def asB? : Option Value → Option Bool
  | some (.bool b) => some b
  | _ => none

theorem wanted_ok {N : Nat} {ops : Array Oper} {i : IOper} {o : Oper} (hok : OperOK K N ops i o) (he : ER K σ e a) {b : Bool} (hw : wantedV e i.guard = some b) :
    Region.wanted o (yielded ops a.tmps) = b := by
  obtain ⟨_, _, _, hg⟩ := hok
  unfold Region.wanted
  cases hi : i.guard with
  | none =>
    rw [hi] at hg hw
    cases ho : o.guard with
    | none => simp only [wantedV, Option.some.injEq] at hw; exact hw
    | some x => rw [ho] at hg; exact hg.elim
  | some p =>
    obtain ⟨t, bb⟩ := p
    rw [hi] at hg hw
    cases ho : o.guard with
    | none => rw [ho] at hg; exact hg.elim
    | some q =>
      obtain ⟨j, b'⟩ := q
      rw [ho] at hg
      obtain ⟨rfl, oj, hj, hd⟩ := hg
      simp only [wantedV] at hw
      have hy : yielded ops a.tmps j = asB? a.tmps[t]? := by
        unfold yielded
        rw [hj]; simp only [Option.bind_some, hd]
        cases a.tmps[t]? with
        | none => rfl
        | some y => cases y <;> rfl
      simp only [hy]
      split at hw
      · rename_i x hx
        have hv := vrb (he t _ hx)
        have : a.tmps[t]? = some (.bool x) := by
          cases h0 : a.tmps[t]? with
          | none => simp [h0] at hv; cases hv
          | some y => simp [h0] at hv; rw [hv]
        rw [this]
        simp only [Option.some.injEq] at hw
        rw [← hw]
        cases x <;> cases bb <;> rfl
      · rename_i l hx
        have hv := he t _ hx
        simp only [VR] at hv
        obtain ⟨arr, heq, _⟩ := hv
        simp only [Option.some.injEq] at hw
        subst hw
        have : asB? a.tmps[t]? = none := by
          cases h0 : a.tmps[t]? with
          | none => rfl
          | some y => simp [h0] at heq; subst heq; rfl
        rw [this]; rfl
      · cases hw

def exitOf : Ex → Exit
  | .norm => .normal
  | .exit id => .exit id
  | .goto l => .goto l
  | .ret => .ret

/-- What stands behind a piece of code. -/
def Post (K : Ctx) (N : Nat) (σ : Sig) (w : World) (x : Ex) (e' : Env) (h' : H) : Exit → Act → World → Prop :=
  fun E a' w' => E = exitOf x ∧ a'.defers = [] ∧ a'.tmps.size = N ∧ ∃ σ', ER K σ' e' a' ∧ R K σ' h' w' ∧ Ext σ σ' ∧ Fr σ w σ' w'

theorem Post.back {N : Nat} {σ1 : Sig} {w1 : World} {x : Ex} {e' : Env} {h' : H} (hE : Ext σ σ1) (hF : Fr σ w σ1 w1) {E : Exit} {a' : Act} {w' : World} (hp : Post K N σ1 w1 x e' h' E a' w') : Post K N σ w x e' h' E a' w' := by
  obtain ⟨h1, h2, h3, σ', h4, h5, h6, h7⟩ := hp
  exact ⟨h1, h2, h3, σ', h4, h5, hE.trans h6, hF.trans h7⟩

theorem run_ops (hK : K.flat) {C : Orc} (hC : SoundO K C) {N : Nat} {ops : Array Oper} {σ0 : Sig} {w0 : World} {keep : List Nat} {ef : Env} {hf : H} :
    ∀ (is : List IOper) (l : List Oper) (σ : Sig) (e : Env) (h : H) (a : Act) (w : World), All2 (OperOK K N ops) is l → run K.pure C e h is = some (ef, hf) →
      GL K σ w → ER K σ e a → R K σ h w → Ext σ0 σ → Fr σ0 w0 σ w → a.defers = [] → a.tmps.size = N → wpList K.P ops (Post K N σ0 w0 .norm (ef.sel keep) hf) l a w := by
  intro is l σ e h a w h2
  induction h2 generalizing σ e h a w with
  | nil =>
    intro hr hG he hR hE hF hd hs
    simp only [run, Option.some.injEq, Prod.mk.injEq] at hr
    obtain ⟨rfl, rfl⟩ := hr
    exact wpList_nil ⟨rfl, hd, hs, σ, he.sel keep, hR, hE, hF⟩
  | @cons i o is l hok _ ih =>
    intro hr hG he hR hE hF hd hs
    simp only [run] at hr
    refine wpList_step fun Kn hKn => ?_
    split at hr
    · rename_i hw
      rw [if_pos (wanted_ok hok he hw)]
      split at hr
      · rename_i v h' ha
        refine op_wp hK hok.2.2.1 ha hG hR he (fun f args _ v h' hr => call_ok hC hr) ?_
        intro c w' σ' hR' hE' hF' hV
        have hsz := put_size a o.dst c
        exact hKn _ _ (ih σ' _ _ _ _ hr (hG.fr hF') (by rw [hok.1]; exact he.put hE' (fun d hdd => by rw [hs]; exact hok.2.1 d hdd) hV) hR' (hE.trans hE') (hF.trans hF') (hsz.2.trans hd) (hsz.1.trans hs))
      · cases hr
    · rename_i hw
      rw [if_neg (by rw [wanted_ok hok he hw]; simp)]
      have hsz := put_size a o.dst undef
      have hu : VR K σ unit undef := by simp only [unit, VR]; exact ⟨#[], rfl, .nil⟩
      exact hKn _ _ (ih σ _ _ _ _ hr hG (by rw [hok.1]; exact he.put (Ext.refl σ) (fun d hdd => by rw [hs]; exact hok.2.1 d hdd) hu) hR hE hF (hsz.2.trans hd) (hsz.1.trans hs))
    · cases hr

end
end Go.Rae
