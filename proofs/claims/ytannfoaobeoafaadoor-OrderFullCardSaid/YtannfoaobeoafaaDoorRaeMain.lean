/- The evaluator of the intermediate code is the model's machine: codes, functions, calls in calls. -/
import Derived.Test.YtannfoaobeoafaaDoorRaeDrawJ
import Derived.LoopN
import Derived.Tactics
set_option linter.unusedVariables false
set_option linter.unusedSimpArgs false
namespace Go.Rae
open Go

section
variable (K : Ctx) (N : Nat)

/-- A code fits. -/
inductive CodeOK : IC → Code → Prop
  | skip : CodeOK .skip .skip
  | reg {is keep id ops} : All2 (OperOK K N ops) is ops.toList → CodeOK (.reg is keep) (.region id ops false)
  | drw {is bef keep id ops} : All2 (OperOK K N ops) is ops.toList → Bound ops is (fun i j => (bef.getD j 0).testBit i = true) → CodeOK (.drw is bef keep) (.region id ops true)
  | seq {a b c d} : CodeOK a c → CodeOK b d → CodeOK (.seq a b) (.seq c d)
  | cond {x y a b c d} : OdOK K x y → CodeOK a c → CodeOK b d → CodeOK (.cond x a b) (.cond y c d)
  | blk {id a c} : CodeOK a c → CodeOK (.blk id a) (.block id c)
  | loop {a c} : CodeOK a c → CodeOK (.loop a) (.loop c)
  | exit {id} : CodeOK (.exit id) (.exit id)
  | scope {a c} : CodeOK a c → CodeOK (.scope a) (.scope c)
  | label {l} : CodeOK (.label l) (.label l)
  | goto {l} : CodeOK (.goto l) (.goto l)
  | ret : CodeOK .ret .ret

end

section
variable {K : Ctx} {N : Nat} {C : Orc}

theorem find_ok {ic : IC} {c : Code} (h : CodeOK K N ic c) (l : Nat) :
    match ICfind ic l with
    | none => findLabel c l = none
    | some r => ∃ d, findLabel c l = some d ∧ CodeOK K N r d := by
  induction h with
  | seq h1 h2 ih1 ih2 =>
    simp only [ICfind, findLabel]
    split at ih1
    · rename_i e1
      rw [e1, ih1]
      exact ih2
    · rename_i r e1
      obtain ⟨d, e2, h3⟩ := ih1
      rw [e1, e2]
      exact ⟨_, rfl, .seq h3 h2⟩
  | @label k =>
    simp only [ICfind, findLabel]
    by_cases e : k = l
    · subst e; simp only [if_true, beq_self_eq_true]; exact ⟨_, rfl, .skip⟩
    · have : (k == l) = false := by simpa using e
      simp [e]
  | _ => simp only [ICfind, findLabel]

theorem ER.refl_none {σ : Sig} {a : Act} : ER K σ [] a := fun k v h => by cases h

theorem region_list {P : Program} {ops : Array Oper} {Q : Exit → Act → World → Prop} {id : Nat} {a : Act} {w : World} (h : wpList P ops Q ops.toList a w) : (Code.region id ops false).wp P Q a w := wp_region_list h

theorem drw_ok (hK : K.flat) (hC : SoundO K C) (hm : K.P.follows .mixedOrders = true) {ops : Array Oper} {is : List IOper} {bef keep : List Nat} {id : Nat} {cs : List Cls} {e e' : Env} {h h' : H} {σ : Sig} {a : Act} {w : World}
    (hok : All2 (OperOK K N ops) is ops.toList) (hb : Bound ops is (fun i j => (bef.getD j 0).testBit i = true)) (hr : runD K.pure C [] e h is = some (cs, e', h')) (hp : pairsOk [] bef cs = true)
    (hG : GL K σ w) (he : ER K σ e a) (hR : R K σ h w) (hd : a.defers = []) (hN : a.tmps.size = N) : (Code.region id ops true).wp K.P (Post K N σ w .norm (e'.sel keep) h') a w := by
  refine wp_region_any hm ?_
  obtain ⟨E, Hh, A, Vv, ht, h0, h1, h2, h3, h4, h5⟩ := runD_tr hr
  obtain ⟨hl, hps⟩ := pairsOk_spec hp
  have hsz : is.length = ops.size := by have := hok.len; simpa using this
  have hw : Fr σ w σ { w with drawn := w.drawn + 1 } := ⟨rfl, rfl, rfl, Nat.le_refl _, fun _ _ _ => rfl, fun id L hL => .inr ⟨id, L, hL, rfl, rfl⟩⟩
  have hno : ∀ i, ¬ inS (Array.replicate ops.size false) i := by
    intro i hi
    unfold inS at hi
    by_cases hlt : i < ops.size
    · simp [hlt] at hi
    · simp [hlt] at hi
  have hun : ∀ n, unl (Array.replicate ops.size false) n = n := by
    intro n
    induction n with
    | zero => rfl
    | succ n ih =>
      simp only [unl, ih]
      have := hno n
      unfold inS at this
      rw [if_neg this]
  refine any_ok (σ0 := σ) (w0 := w) hK hC hG ht hb hok ?_ ?_ _ _ 0 _ _ σ (fun _ => ⟨0, 0, 0, 0, 0, false⟩) ?_ (by rw [hun, hsz]; exact Nat.le_refl _)
  · intro i j hij hj
    have hjc : cs[j]? = some cs[j] := by simp [h5, hj]
    have hic : cs[i]? = some cs[i] := by simp [h5, show i < is.length by omega]
    have hbj : bef[j]? = some bef[j] := by simp [hl, h5, hj]
    have := hps j _ _ hjc hbj i _ (by rw [List.nil_append]; exact hic) (by simpa using hij)
    simp only [List.getD_eq_getElem?_getD, hjc, hic, hbj, Option.getD_some]
    exact this
  · intro a' w' σ' hR' hE hF hd' hN' hER
    refine ⟨rfl, hd', hN', σ', ?_, by rw [← h4]; exact hR', hE, hF⟩
    rw [← h3]; exact hER.sel keep
  · refine ⟨by simp [hsz], Nat.zero_le _, ?_, ?_, ?_, hd, hN, ?_, Ext.refl σ, hw, ?_, ?_, ?_⟩
    · intro i j _ hs; exact absurd hs (hno j)
    · intro k _ _; exact ⟨fun hs => absurd hs (hno k), fun hk => by omega⟩
    · intro g hg; omega
    · rw [h1]; exact hR.frame (fun _ _ _ => rfl)
    · intro j hj t hwr _ v hv
      have : ∀ k o, 0 ≤ k → k < j → is[k]? = some o → o.dst ≠ some t := by
        intro k o _ hk hko hdk
        exact hno k ((hwr k o hko hdk).2 hk)
      rw [ht.keep (Nat.zero_le j) hj this, h0] at hv
      exact he t v hv
    · intro g o _ _ _ hs; exact absurd hs (hno g)
    · intro g g' _ _ _ _ _ _ _ hs; exact absurd hs (hno g)

/-- What is shown of all runs of so much fuel. -/
structure AtFuel (K : Ctx) (N : Nat) (C : Orc) (n : Nat) : Prop where
  code : ∀ ic c x e e' h h' σ a w, CodeOK K N ic c → exec K.pure C n ic e h = some (x, e', h') → GL K σ w → ER K σ e a → R K σ h w → a.defers = [] → a.tmps.size = N → c.wp K.P (Post K N σ w x e' h') a w
  loop : ∀ ic c x e e' h h' σ0 w0 σ a w, CodeOK K N ic c → exec K.pure C n (.loop ic) e h = some (x, e', h') → GL K σ w → ER K σ e a → R K σ h w → a.defers = [] → a.tmps.size = N → Ext σ0 σ → Fr σ0 w0 σ w → Code.rounds K.P c (Post K N σ0 w0 x e' h') n a w
  jump : ∀ ic c l x e e' h h' σ0 w0 σ a w, CodeOK K N ic c → exec K.pure C n (.jump ic l) e h = some (x, e', h') → GL K σ w → ER K σ e a → R K σ h w → a.defers = [] → a.tmps.size = N → Ext σ0 σ → Fr σ0 w0 σ w → jrounds K.P c (Post K N σ0 w0 x e' h') n l a w

theorem at_fuel (hK : K.flat) (hC : SoundO K C) (hm : K.P.follows .mixedOrders = true) : ∀ n, AtFuel K N C n := by
  intro n
  induction n with
  | zero =>
    refine ⟨?_, ?_, ?_⟩
    · intro ic c x e e' h h' σ a w _ hr; simp [exec] at hr
    · intro ic c x e e' h h' σ0 w0 σ a w _ hr; simp [exec] at hr
    · intro ic c l x e e' h h' σ0 w0 σ a w _ hr; simp [exec] at hr
  | succ n ih =>
    have hloop : ∀ ic c x e e' h h' σ0 w0 σ a w, CodeOK K N ic c → exec K.pure C (n + 1) (.loop ic) e h = some (x, e', h') → GL K σ w → ER K σ e a → R K σ h w → a.defers = [] → a.tmps.size = N → Ext σ0 σ → Fr σ0 w0 σ w → Code.rounds K.P c (Post K N σ0 w0 x e' h') (n + 1) a w := by
      intro ic c x e e' h h' σ0 w0 σ a w hok hr hG he hR hd hN hE hF
      simp only [exec] at hr
      rw [rounds_succ]
      split at hr
      · rename_i e1 h1 h2
        refine wp_mono (ih.code ic c _ e e1 h h1 σ a w hok h2 hG he hR hd hN) ?_
        rintro ex a1 w1 ⟨rfl, hd1, hN1, σ1, he1, hR1, hE1, hF1⟩
        exact ih.loop ic c x e1 e' h1 h' σ0 w0 σ1 a1 w1 hok hr (hG.fr hF1) he1 hR1 hd1 hN1 (hE.trans hE1) (hF.trans hF1)
      · rename_i hnn
        refine wp_mono (ih.code ic c x e e' h h' σ a w hok hr hG he hR hd hN) ?_
        intro ex a1 w1 hp
        have hb := hp.back hE hF
        obtain ⟨rfl, _⟩ := hp
        cases x with
        | norm => exact absurd hr (hnn e' h')
        | _ => exact hb
    have hjump : ∀ ic c l x e e' h h' σ0 w0 σ a w, CodeOK K N ic c → exec K.pure C (n + 1) (.jump ic l) e h = some (x, e', h') → GL K σ w → ER K σ e a → R K σ h w → a.defers = [] → a.tmps.size = N → Ext σ0 σ → Fr σ0 w0 σ w → jrounds K.P c (Post K N σ0 w0 x e' h') (n + 1) l a w := by
      intro ic c l x e e' h h' σ0 w0 σ a w hok hr hG he hR hd hN hE hF
      simp only [exec] at hr
      have hf := find_ok hok l
      simp only [jrounds]
      split at hr
      · rename_i r hfr
        rw [hfr] at hf
        obtain ⟨d, hfd, hokd⟩ := hf
        rw [hfd]
        split at hr
        · rename_i l' e1 h1 h2
          refine wp_mono (ih.code r d _ e e1 h h1 σ a w hokd h2 hG he hR hd hN) ?_
          rintro ex a1 w1 ⟨rfl, hd1, hN1, σ1, he1, hR1, hE1, hF1⟩
          exact ih.jump ic c l' x e1 e' h1 h' σ0 w0 σ1 a1 w1 hok hr (hG.fr hF1) he1 hR1 hd1 hN1 (hE.trans hE1) (hF.trans hF1)
        · rename_i hnn
          refine wp_mono (ih.code r d x e e' h h' σ a w hokd hr hG he hR hd hN) ?_
          intro ex a1 w1 hp
          have hb := hp.back hE hF
          obtain ⟨rfl, _⟩ := hp
          cases x with
          | goto l' => exact absurd hr (hnn l' e' h')
          | _ => exact hb
      · rename_i hfr
        rw [hfr] at hf
        rw [hf]
        simp only [Option.some.injEq, Prod.mk.injEq] at hr
        obtain ⟨rfl, rfl, rfl⟩ := hr
        exact ⟨rfl, hd, hN, σ, he, hR, hE, hF⟩
    refine ⟨?_, hloop, hjump⟩
    intro ic c x e e' h h' σ a w hok hr hG he hR hd hN
    cases hok with
    | skip =>
      simp only [exec, Option.some.injEq, Prod.mk.injEq] at hr
      obtain ⟨rfl, rfl, rfl⟩ := hr
      exact wp_skip ⟨rfl, hd, hN, σ, he, hR, Ext.refl σ, Fr.refl σ w⟩
    | label =>
      simp only [exec, Option.some.injEq, Prod.mk.injEq] at hr
      obtain ⟨rfl, rfl, rfl⟩ := hr
      exact wp_label ⟨rfl, hd, hN, σ, he, hR, Ext.refl σ, Fr.refl σ w⟩
    | exit =>
      simp only [exec, Option.some.injEq, Prod.mk.injEq] at hr
      obtain ⟨rfl, rfl, rfl⟩ := hr
      exact wp_exit ⟨rfl, hd, hN, σ, he, hR, Ext.refl σ, Fr.refl σ w⟩
    | goto =>
      simp only [exec, Option.some.injEq, Prod.mk.injEq] at hr
      obtain ⟨rfl, rfl, rfl⟩ := hr
      exact wp_goto ⟨rfl, hd, hN, σ, he, hR, Ext.refl σ, Fr.refl σ w⟩
    | ret =>
      simp only [exec, Option.some.injEq, Prod.mk.injEq] at hr
      obtain ⟨rfl, rfl, rfl⟩ := hr
      exact wp_ret ⟨rfl, hd, hN, σ, he, hR, Ext.refl σ, Fr.refl σ w⟩
    | reg hops =>
      simp only [exec] at hr
      split at hr
      · rename_i e1 h1 h2
        simp only [Option.some.injEq, Prod.mk.injEq] at hr
        obtain ⟨rfl, rfl, rfl⟩ := hr
        exact region_list (run_ops hK hC _ _ σ e h a w hops h2 hG he hR (Ext.refl σ) (Fr.refl σ w) hd hN)
      · cases hr
    | drw hops hb =>
      simp only [exec] at hr
      split at hr
      · rename_i cs e1 h1 h2
        split at hr
        · rename_i hp
          simp only [Option.some.injEq, Prod.mk.injEq] at hr
          obtain ⟨rfl, rfl, rfl⟩ := hr
          exact drw_ok hK hC hm hops hb h2 hp hG he hR hd hN
        · cases hr
      · cases hr
    | @seq ia ib ca cb ha hb =>
      simp only [exec] at hr
      refine wp_seq ?_
      split at hr
      · rename_i e1 h1 h2
        refine wp_mono (ih.code _ _ _ e e1 h h1 σ a w ha h2 hG he hR hd hN) ?_
        rintro ex a1 w1 ⟨rfl, hd1, hN1, σ1, he1, hR1, hE1, hF1⟩
        exact wp_mono (ih.code _ _ x e1 e' h1 h' σ1 a1 w1 hb hr (hG.fr hF1) he1 hR1 hd1 hN1) (fun ex a2 w2 hp => hp.back hE1 hF1)
      · rename_i hnn
        refine wp_mono (ih.code _ _ x e e' h h' σ a w ha hr hG he hR hd hN) ?_
        intro ex a1 w1 hp
        have hp' := hp
        obtain ⟨rfl, _⟩ := hp
        cases x with
        | norm => exact absurd hr (hnn e' h')
        | _ => exact hp'
    | @cond xo yo ia ib ca cb hx ha hb =>
      simp only [exec] at hr
      split at hr
      · rename_i t ht
        refine wp_cond (t := t) (vrb (ev_ok he hx ht)) ?_
        cases t with
        | true => exact ih.code _ _ x e e' h h' σ a w ha (by simpa using hr) hG he hR hd hN
        | false => exact ih.code _ _ x e e' h h' σ a w hb (by simpa using hr) hG he hR hd hN
      · cases hr
    | @blk id ia ca ha =>
      simp only [exec] at hr
      refine wp_block ?_
      split at hr
      · rename_i j e1 h1 h2
        refine wp_mono (ih.code _ _ _ e e1 h h1 σ a w ha h2 hG he hR hd hN) ?_
        rintro ex a1 w1 ⟨rfl, hq⟩
        simp only [exitOf, Exit.inBlock]
        split at hr
        · rename_i hj
          simp only [Option.some.injEq, Prod.mk.injEq] at hr
          obtain ⟨rfl, rfl, rfl⟩ := hr
          rw [if_pos hj]; exact ⟨rfl, hq⟩
        · rename_i hj
          simp only [Option.some.injEq, Prod.mk.injEq] at hr
          obtain ⟨rfl, rfl, rfl⟩ := hr
          rw [if_neg hj]; exact ⟨rfl, hq⟩
      · rename_i hnn
        refine wp_mono (ih.code _ _ x e e' h h' σ a w ha hr hG he hR hd hN) ?_
        intro ex a1 w1 hp
        have hp' := hp
        obtain ⟨rfl, _⟩ := hp
        cases x with
        | exit j => exact absurd hr (hnn j e' h')
        | _ => exact hp'
    | @loop ia ca ha =>
      exact wp_loop_rounds (n + 1) (hloop ia ca x e e' h h' σ w σ a w ha hr hG he hR hd hN (Ext.refl σ) (Fr.refl σ w))
    | @scope ia ca ha =>
      simp only [exec] at hr
      refine wp_scope_rounds n ?_
      split at hr
      · rename_i l e1 h1 h2
        refine wp_mono (ih.code _ _ _ e e1 h h1 σ a w ha h2 hG he hR hd hN) ?_
        rintro ex a1 w1 ⟨rfl, hd1, hN1, σ1, he1, hR1, hE1, hF1⟩
        exact ih.jump ia ca l x e1 e' h1 h' σ w σ1 a1 w1 ha hr (hG.fr hF1) he1 hR1 hd1 hN1 hE1 hF1
      · rename_i hnn
        refine wp_mono (ih.code _ _ x e e' h h' σ a w ha hr hG he hR hd hN) ?_
        intro ex a1 w1 hp
        have hp' := hp
        obtain ⟨rfl, _⟩ := hp
        cases x with
        | goto l => exact absurd hr (hnn l e' h')
        | _ => exact hp'

end
end Go.Rae
