/- Runs without a bound: the limit of the evaluator's bounded runs. -/
import Derived.Test.YtannfoaobeoafaaDoorRaeSem
set_option linter.unusedVariables false
set_option linter.unusedSimpArgs false
namespace Go.Rae

/-! ### what a run asks of the oracle is finite -/

abbrev Fact := Nat × List V × H × (V × H)
def Facts (C : Orc) (S : List Fact) : Prop := ∀ q ∈ S, C q.1 q.2.1 q.2.2.1 = some q.2.2.2

theorem Facts.nil (C : Orc) : Facts C [] := fun _ h => by cases h
theorem Facts.app {C : Orc} {S T : List Fact} : Facts C (S ++ T) ↔ Facts C S ∧ Facts C T := by
  constructor
  · exact fun h => ⟨fun q hq => h q (List.mem_append.2 (.inl hq)), fun q hq => h q (List.mem_append.2 (.inr hq))⟩
  · rintro ⟨h1, h2⟩ q hq
    rcases List.mem_append.1 hq with hq | hq
    · exact h1 q hq
    · exact h2 q hq
theorem Facts.one {C : Orc} {f : Nat} {args : List V} {h : H} {r : V × H} : Facts C [(f, args, h, r)] ↔ C f args h = some r := by
  constructor
  · exact fun h => h _ (List.mem_singleton.2 rfl)
  · intro h q hq; rw [List.mem_singleton.1 hq]; exact h

/-- What comes of an oracle comes of finitely many of its answers. -/
def Cont {α : Type} (F : Orc → Option α) : Prop := ∀ C r, F C = some r → ∃ S, Facts C S ∧ ∀ C', Facts C' S → F C' = some r

theorem Cont.const {α : Type} {F : Orc → Option α} (h : ∀ C C', F C = F C') : Cont F := fun C _ hr => ⟨[], Facts.nil C, fun C' _ => (h C' C).trans hr⟩

theorem Cont.bind {α β : Type} {F : Orc → Option α} {G : α → Orc → Option β} (hF : Cont F) (hG : ∀ a, Cont (G a)) : Cont (fun C => match F C with | some a => G a C | none => none) := by
  intro C r hr
  simp only at hr
  cases hf : F C with
  | none => rw [hf] at hr; cases hr
  | some a =>
    rw [hf] at hr
    obtain ⟨S, hS, kS⟩ := hF C a hf
    obtain ⟨T, hT, kT⟩ := hG a C r hr
    refine ⟨S ++ T, Facts.app.2 ⟨hS, hT⟩, fun C' h' => ?_⟩
    obtain ⟨h1, h2⟩ := Facts.app.1 h'
    simp only [kS C' h1]; exact kT C' h2

theorem Cont.bind' {α β : Type} {F : Orc → Option α} (G : Option α → Orc → Option β) (hF : Cont F) (hn : ∀ C, G none C = none) (hG : ∀ a, Cont (G (some a))) : Cont (fun C => G (F C) C) := by
  intro C r hr
  simp only at hr
  cases hf : F C with
  | none => rw [hf, hn] at hr; cases hr
  | some a =>
    rw [hf] at hr
    obtain ⟨S, hS, kS⟩ := hF C a hf
    obtain ⟨T, hT, kT⟩ := hG a C r hr
    refine ⟨S ++ T, Facts.app.2 ⟨hS, hT⟩, fun C' h' => ?_⟩
    obtain ⟨h1, h2⟩ := Facts.app.1 h'
    simp only [kS C' h1]; exact kT C' h2

theorem Cont.call (f : Nat) (args : List V) (h : H) : Cont (fun C => C f args h) :=
  fun _ r hr => ⟨[(f, args, h, r)], Facts.one.2 hr, fun _ h' => Facts.one.1 h'⟩

theorem Cont.ite {α : Type} {F G : Orc → Option α} (c : Prop) [Decidable c] (hF : Cont F) (hG : Cont G) : Cont (fun C => if c then F C else G C) := by
  by_cases hc : c
  · simpa only [hc, if_true] using hF
  · simpa only [hc, if_false] using hG

section
variable (p : Nat → Bool)

theorem callV_cont (f : Nat) (args : List V) (h : H) : Cont (fun C => callV p C f args h) := by
  unfold callV
  refine Cont.ite _ ?_ (Cont.call f args h)
  refine Cont.bind' (fun a C => match a with | some (v, _) => if noRefR p v = true then some (v, h) else C f args h | none => none) (Cont.call f args H.empty) (fun _ => rfl) fun a => ?_
  exact Cont.ite _ (Cont.const fun _ _ => rfl) (Cont.call f args h)

theorem aop_cont (e : Env) (h : H) (o : IOp) : Cont (fun C => aop p C e h o) := by
  cases o with
  | call f args =>
    simp only [aop]
    cases ev e f with
    | none => exact Cont.const fun _ _ => rfl
    | some x =>
      cases evs e args with
      | none => exact Cont.const fun _ _ => by cases x <;> rfl
      | some vs =>
        cases x with
        | fn g caps => exact callV_cont p g (vs ++ caps) h
        | _ => exact Cont.const fun _ _ => rfl
  | _ => exact Cont.const fun _ _ => rfl

theorem run_cont : ∀ (ops : List IOper) (e : Env) (h : H), Cont (fun C => run p C e h ops) := by
  intro ops
  induction ops with
  | nil => intro e h; exact Cont.const fun _ _ => rfl
  | cons o r ih =>
    intro e h
    simp only [run]
    cases wantedV e o.guard with
    | none => exact Cont.const fun _ _ => rfl
    | some b =>
      cases b with
      | true => exact Cont.bind' (fun a C => match a with | some (v, h') => run p C (e.putO o.dst v) h' r | none => none) (aop_cont p e h o.op) (fun _ => rfl) fun a => ih _ _
      | false => exact ih _ _

/-- An operation that is no call to be made on the empty heap alone. -/
theorem pureCall_cont (e : Env) (h : H) (o : IOp) (C : Orc) (v : Option V) (a : V × H) (hv : pureCall p C e o = v) (ha : v = none → aop p C e h o = some a) :
    ∃ S, Facts C S ∧ ∀ C', Facts C' S → pureCall p C' e o = v := by
  cases o with
  | call f args =>
    simp only [pureCall] at hv ⊢
    cases hf : ev e f with
    | none => rw [hf] at hv; exact ⟨[], Facts.nil C, fun _ _ => hv⟩
    | some x =>
      cases hs : evs e args with
      | none => rw [hf, hs] at hv; refine ⟨[], Facts.nil C, fun _ _ => ?_⟩; cases x <;> exact hv
      | some vs =>
        rw [hf, hs] at hv
        cases x with
        | fn g caps =>
          simp only at hv ⊢
          by_cases hn : noRefs p (vs ++ caps) = true
          · rw [if_pos hn] at hv
            simp only [if_pos hn]
            cases hc : C g (vs ++ caps) H.empty with
            | some r =>
              rw [hc] at hv
              refine ⟨[(g, vs ++ caps, H.empty, r)], Facts.one.2 hc, fun C' h' => ?_⟩
              rw [Facts.one.1 h']; exact hv
            | none =>
              rw [hc] at hv
              have := ha hv.symm
              simp only [aop, hf, hs, callV, if_pos hn, hc] at this
              cases this
          · rw [if_neg hn] at hv
            simp only [if_neg hn]
            exact ⟨[], Facts.nil C, fun _ _ => hv⟩
        | _ => exact ⟨[], Facts.nil C, fun _ _ => hv⟩
  | _ => exact ⟨[], Facts.nil C, fun _ _ => hv⟩

theorem stepD_cont (al : List (Nat × Nat)) (e : Env) (h : H) (o : IOper) : Cont (fun C => stepD p C al e h o) := by
  intro C r hr
  simp only [stepD] at hr ⊢
  by_cases h1 : (hits al o.dst.toList || hits al (guardTm o.guard)) = true
  · rw [if_pos h1] at hr; cases hr
  · rw [if_neg h1] at hr
    simp only [if_neg h1]
    cases hw : wantedV (Env.keep e o.tms) o.guard with
    | none => rw [hw] at hr; cases hr
    | some b =>
      rw [hw] at hr
      cases b with
      | false => exact ⟨[], Facts.nil C, fun _ _ => hr⟩
      | true =>
        simp only at hr ⊢
        by_cases h2 : alCls o.op = true
        · rw [if_pos h2] at hr
          simp only [if_pos h2]
          cases hd : o.dst with
          | none => rw [hd] at hr; cases hr
          | some d =>
            rw [hd] at hr
            exact Cont.bind' (fun a _ => match some d, a with | some _, some (v, h') => some (v, h', Cls.al) | _, _ => none) (aop_cont p (Env.keep e o.tms) h o.op) (fun _ => rfl) (fun a => Cont.const fun _ _ => rfl) C r hr
        · rw [if_neg h2] at hr
          simp only [if_neg h2]
          cases hwr : wrId (Env.keep e o.tms) o.op with
          | some id =>
            rw [hwr] at hr
            simp only at hr ⊢
            exact Cont.bind' (fun a _ => match a with | some (v, h') => some (v, h', Cls.wr id) | none => none) (aop_cont p (Env.keep e o.tms) h o.op) (fun _ => rfl) (fun a => Cont.const fun _ _ => rfl) C r hr
          | none =>
            rw [hwr] at hr
            simp only at hr ⊢
            by_cases hh : hits al o.tms = true
            · simp only [if_pos hh] at hr ⊢
              exact Cont.bind' (fun a _ => match a with | some (v, h') => some (v, h', Cls.ge h h') | none => none) (aop_cont p (Env.keep e o.tms) h o.op) (fun _ => rfl) (fun a => Cont.const fun _ _ => rfl) C r hr
            · simp only [if_neg hh] at hr ⊢
              cases hp : pureCall p C (Env.keep e o.tms) o.op with
              | some v =>
                rw [hp] at hr
                obtain ⟨S, hS, kS⟩ := pureCall_cont p (Env.keep e o.tms) h o.op C (some v) (v, h) hp nofun
                exact ⟨S, hS, fun C' h' => by rw [kS C' h']; exact hr⟩
              | none =>
                rw [hp] at hr
                simp only at hr
                cases ha : aop p C (Env.keep e o.tms) h o.op with
                | none => rw [ha] at hr; cases hr
                | some a =>
                  obtain ⟨S, hS, kS⟩ := pureCall_cont p (Env.keep e o.tms) h o.op C none a hp (fun _ => ha)
                  obtain ⟨T, hT, kT⟩ := aop_cont p (Env.keep e o.tms) h o.op C a ha
                  refine ⟨S ++ T, Facts.app.2 ⟨hS, hT⟩, fun C' h' => ?_⟩
                  obtain ⟨h3, h4⟩ := Facts.app.1 h'
                  rw [kS C' h3]; simp only [kT C' h4]; rw [ha] at hr; exact hr

theorem runD_cont : ∀ (ops : List IOper) (al : List (Nat × Nat)) (e : Env) (h : H), Cont (fun C => runD p C al e h ops) := by
  intro ops
  induction ops with
  | nil => intro al e h; exact Cont.const fun _ _ => rfl
  | cons o r ih =>
    intro al e h
    simp only [runD]
    refine Cont.bind' (fun a C => match a with | some (v, h', c) => (match runD p C (alNext al h o.dst c) (e.putO o.dst v) h' r with | some (cs, e', h') => some (c :: cs, e', h') | none => none) | none => none) (stepD_cont p al e h o) (fun _ => rfl) fun a => ?_
    exact Cont.bind' (fun b _ => match b with | some (cs, e', h') => some (a.2.2 :: cs, e', h') | none => none) (ih _ _ _) (fun _ => rfl) fun b => Cont.const fun _ _ => rfl

theorem exec_cont : ∀ (n : Nat) (c : IC) (e : Env) (h : H), Cont (fun C => exec p C n c e h) := by
  intro n
  induction n with
  | zero => intro c e h; exact Cont.const fun _ _ => rfl
  | succ n ih =>
    intro c e h
    cases c with
    | skip => exact Cont.const fun _ _ => rfl
    | exit id => exact Cont.const fun _ _ => rfl
    | label l => exact Cont.const fun _ _ => rfl
    | goto l => exact Cont.const fun _ _ => rfl
    | ret => exact Cont.const fun _ _ => rfl
    | reg ops keep =>
      simp only [exec]
      exact Cont.bind' (fun a _ => match a with | some (e', h') => some (Ex.norm, e'.sel keep, h') | none => none) (run_cont p ops e h) (fun _ => rfl) fun a => Cont.const fun _ _ => rfl
    | drw ops bef keep =>
      simp only [exec]
      exact Cont.bind' (fun a _ => match a with | some (cs, e', h') => if pairsOk [] bef cs then some (Ex.norm, e'.sel keep, h') else none | none => none) (runD_cont p ops [] e h) (fun _ => rfl) fun a => Cont.const fun _ _ => rfl
    | seq a b =>
      intro C r hr
      simp only [exec] at hr ⊢
      cases ha : exec p C n a e h with
      | none => rw [ha] at hr; cases hr
      | some q =>
        obtain ⟨S, hS, kS⟩ := ih a e h C q ha
        have kS : ∀ C', Facts C' S → exec p C' n a e h = some q := kS
        obtain ⟨x, e', h'⟩ := q
        rw [ha] at hr
        cases x with
        | norm =>
          simp only at hr
          obtain ⟨T, hT, kT⟩ := ih b e' h' C r hr
          refine ⟨S ++ T, Facts.app.2 ⟨hS, hT⟩, fun C' h' => ?_⟩
          obtain ⟨h1, h2⟩ := Facts.app.1 h'
          rw [kS C' h1]; exact kT C' h2
        | _ => exact ⟨S, hS, fun C' h' => by rw [kS C' h']; exact hr⟩
    | cond c a b =>
      simp only [exec]
      cases ev e c with
      | none => exact Cont.const fun _ _ => rfl
      | some v =>
        cases v with
        | b t => cases t <;> exact ih _ _ _
        | _ => exact Cont.const fun _ _ => rfl
    | blk id a =>
      intro C r hr
      simp only [exec] at hr ⊢
      cases ha : exec p C n a e h with
      | none => rw [ha] at hr; cases hr
      | some q =>
        obtain ⟨S, hS, kS⟩ := ih a e h C q ha
        have kS : ∀ C', Facts C' S → exec p C' n a e h = some q := kS
        exact ⟨S, hS, fun C' h' => by rw [kS C' h']; rw [ha] at hr; exact hr⟩
    | loop a =>
      intro C r hr
      simp only [exec] at hr ⊢
      cases ha : exec p C n a e h with
      | none => rw [ha] at hr; cases hr
      | some q =>
        obtain ⟨S, hS, kS⟩ := ih a e h C q ha
        have kS : ∀ C', Facts C' S → exec p C' n a e h = some q := kS
        obtain ⟨x, e', h'⟩ := q
        rw [ha] at hr
        cases x with
        | norm =>
          simp only at hr
          obtain ⟨T, hT, kT⟩ := ih (.loop a) e' h' C r hr
          refine ⟨S ++ T, Facts.app.2 ⟨hS, hT⟩, fun C' h' => ?_⟩
          obtain ⟨h1, h2⟩ := Facts.app.1 h'
          rw [kS C' h1]; exact kT C' h2
        | _ => exact ⟨S, hS, fun C' h' => by rw [kS C' h']; exact hr⟩
    | scope a =>
      intro C r hr
      simp only [exec] at hr ⊢
      cases ha : exec p C n a e h with
      | none => rw [ha] at hr; cases hr
      | some q =>
        obtain ⟨S, hS, kS⟩ := ih a e h C q ha
        have kS : ∀ C', Facts C' S → exec p C' n a e h = some q := kS
        obtain ⟨x, e', h'⟩ := q
        rw [ha] at hr
        cases x with
        | goto l =>
          simp only at hr
          obtain ⟨T, hT, kT⟩ := ih (.jump a l) e' h' C r hr
          refine ⟨S ++ T, Facts.app.2 ⟨hS, hT⟩, fun C' h' => ?_⟩
          obtain ⟨h1, h2⟩ := Facts.app.1 h'
          rw [kS C' h1]; exact kT C' h2
        | _ => exact ⟨S, hS, fun C' h' => by rw [kS C' h']; exact hr⟩
    | jump a l =>
      simp only [exec]
      cases ICfind a l with
      | none => exact Cont.const fun _ _ => rfl
      | some q =>
        intro C r hr
        simp only at hr ⊢
        cases ha : exec p C n q e h with
        | none => rw [ha] at hr; cases hr
        | some z =>
          obtain ⟨S, hS, kS⟩ := ih q e h C z ha
          have kS : ∀ C', Facts C' S → exec p C' n q e h = some z := kS
          obtain ⟨x, e', h'⟩ := z
          rw [ha] at hr
          cases x with
          | goto l =>
            simp only at hr
            obtain ⟨T, hT, kT⟩ := ih (.jump a l) e' h' C r hr
            refine ⟨S ++ T, Facts.app.2 ⟨hS, hT⟩, fun C' h' => ?_⟩
            obtain ⟨h1, h2⟩ := Facts.app.1 h'
            rw [kS C' h1]; exact kT C' h2
          | _ => exact ⟨S, hS, fun C' h' => by rw [kS C' h']; exact hr⟩

theorem exec_succ (C : Orc) : ∀ (n : Nat) (c : IC) (e : Env) (h : H) (r : Ex × Env × H), exec p C n c e h = some r → exec p C (n + 1) c e h = some r := by
  intro n
  induction n with
  | zero => intro c e h r hr; cases hr
  | succ n ih =>
    intro c e h r hr
    cases c with
    | seq a b =>
      rw [exec] at hr; rw [exec]
      cases ha : exec p C n a e h with
      | none => rw [ha] at hr; cases hr
      | some q =>
        rw [ha] at hr; rw [ih _ _ _ _ ha]
        obtain ⟨x, e', h'⟩ := q
        cases x with
        | norm => exact ih _ _ _ _ hr
        | _ => exact hr
    | cond c a b =>
      rw [exec] at hr; rw [exec]
      cases hv : ev e c with
      | none => rw [hv] at hr; cases hr
      | some v =>
        rw [hv] at hr
        cases v with
        | b t => cases t <;> exact ih _ _ _ _ hr
        | _ => cases hr
    | blk id a =>
      rw [exec] at hr; rw [exec]
      cases ha : exec p C n a e h with
      | none => rw [ha] at hr; cases hr
      | some q => rw [ha] at hr; rw [ih _ _ _ _ ha]; exact hr
    | loop a =>
      rw [exec] at hr; rw [exec]
      cases ha : exec p C n a e h with
      | none => rw [ha] at hr; cases hr
      | some q =>
        rw [ha] at hr; rw [ih _ _ _ _ ha]
        obtain ⟨x, e', h'⟩ := q
        cases x with
        | norm => exact ih _ _ _ _ hr
        | _ => exact hr
    | scope a =>
      rw [exec] at hr; rw [exec]
      cases ha : exec p C n a e h with
      | none => rw [ha] at hr; cases hr
      | some q =>
        rw [ha] at hr; rw [ih _ _ _ _ ha]
        obtain ⟨x, e', h'⟩ := q
        cases x with
        | goto l => exact ih _ _ _ _ hr
        | _ => exact hr
    | jump a l =>
      rw [exec] at hr; rw [exec]
      cases hf : ICfind a l with
      | none => rw [hf] at hr; exact hr
      | some q =>
        rw [hf] at hr
        simp only at hr ⊢
        cases ha : exec p C n q e h with
        | none => rw [ha] at hr; cases hr
        | some z =>
          rw [ha] at hr; rw [ih _ _ _ _ ha]
          obtain ⟨x, e', h'⟩ := z
          cases x with
          | goto l => exact ih _ _ _ _ hr
          | _ => exact hr
    | _ => exact hr

theorem exec_mono {C : Orc} {n m : Nat} (hnm : n ≤ m) {c : IC} {e : Env} {h : H} {r : Ex × Env × H} (hr : exec p C n c e h = some r) : exec p C m c e h = some r := by
  induction hnm with
  | refl => exact hr
  | step _ ih => exact exec_succ p C _ _ _ _ _ ih

theorem exec_one {C : Orc} {n m : Nat} {c : IC} {e : Env} {h : H} {r s : Ex × Env × H} (hr : exec p C n c e h = some r) (hs : exec p C m c e h = some s) : r = s := by
  have h1 := exec_mono p (Nat.le_max_left n m) hr
  have h2 := exec_mono p (Nat.le_max_right n m) hs
  rw [h1] at h2; exact Option.some.inj h2

theorem fcall_cont (fn : IFn) (fuel : Nat) (args : List V) (h : H) : Cont (fun C => fcall p C fn fuel args h) := by
  unfold fcall
  refine Cont.ite _ ?_ (Cont.const fun _ _ => rfl)
  exact Cont.bind' (fun a _ => match a with
      | some (x, e, h') => (match x with
        | .norm | .ret => match getRess e h' fn.res with
          | some l => some (retV l, h')
          | none => none
        | _ => none)
      | none => none) (exec_cont p fuel fn.body (env0 0 args) h) (fun _ => rfl) fun a => Cont.const fun _ _ => rfl

theorem fcall_mono {C : Orc} {fn : IFn} {n m : Nat} (hnm : n ≤ m) {args : List V} {h : H} {r : V × H} (hr : fcall p C fn n args h = some r) : fcall p C fn m args h = some r := by
  unfold fcall at hr ⊢
  split at hr
  · rename_i hl
    rw [if_pos hl]
    cases hx : exec p C n fn.body (env0 0 args) h with
    | none => rw [hx] at hr; cases hr
    | some q => rw [hx] at hr; rw [exec_mono p hnm hx]; exact hr
  · cases hr

end

def OLe (C C' : Orc) : Prop := ∀ f args h r, C f args h = some r → C' f args h = some r

theorem Facts.mono {C C' : Orc} (h : OLe C C') {S : List Fact} (hS : Facts C S) : Facts C' S := fun q hq => h _ _ _ _ (hS q hq)

section
variable (p : Nat → Bool) (bodies : Nat → Option IFn) (ext : Orc)

theorem acall_up : ∀ {k k' n n' : Nat}, k ≤ k' → n ≤ n' → OLe (acall p bodies ext k n) (acall p bodies ext k' n') := by
  intro k k' n
  induction n with
  | zero => intro n' _ _ f args h r hr; cases hr
  | succ n ih =>
    intro n' hk hn f args h r hr
    cases n' with
    | zero => omega
    | succ n' =>
      have hle := ih hk (Nat.le_of_succ_le_succ hn)
      simp only [acall] at hr ⊢
      cases hb : bodies f with
      | none => rw [hb] at hr; exact hr
      | some fn =>
        rw [hb] at hr
        simp only at hr ⊢
        obtain ⟨S, hS, kS⟩ := fcall_cont p fn k args h _ _ hr
        exact fcall_mono p hk (kS _ (hS.mono hle))

open Classical in
/-- What a call answers, however long it runs. -/
noncomputable def lim : Orc := fun f args h =>
  if H : ∃ r, ∃ n, acall p bodies ext n n f args h = some r then some (Classical.choose H) else none

theorem lim_iff {f : Nat} {args : List V} {h : H} {r : V × H} : lim p bodies ext f args h = some r ↔ ∃ n, acall p bodies ext n n f args h = some r := by
  unfold lim
  constructor
  · intro hr
    split at hr
    · rename_i hx
      injection hr with hr; subst hr
      exact Classical.choose_spec hx
    · cases hr
  · rintro ⟨n, hn⟩
    have hx : ∃ r, ∃ n, acall p bodies ext n n f args h = some r := ⟨r, n, hn⟩
    rw [dif_pos hx]
    obtain ⟨m, hm⟩ := Classical.choose_spec hx
    have h1 := acall_up p bodies ext (Nat.le_max_left n m) (Nat.le_max_left n m) _ _ _ _ hn
    have h2 := acall_up p bodies ext (Nat.le_max_right n m) (Nat.le_max_right n m) _ _ _ _ hm
    rw [h1] at h2; rw [Option.some.inj h2]

theorem lim_of {k n f : Nat} {args : List V} {h : H} {r : V × H} (hr : acall p bodies ext k n f args h = some r) : lim p bodies ext f args h = some r :=
  (lim_iff p bodies ext).2 ⟨max k n, acall_up p bodies ext (Nat.le_max_left k n) (Nat.le_max_right k n) _ _ _ _ hr⟩

theorem facts_lim : ∀ {S : List Fact}, Facts (lim p bodies ext) S → ∃ n, Facts (acall p bodies ext n n) S := by
  intro S
  induction S with
  | nil => intro _; exact ⟨0, Facts.nil _⟩
  | cons q S ih =>
    intro hS
    obtain ⟨n, hn⟩ := ih fun q hq => hS q (List.mem_cons_of_mem _ hq)
    obtain ⟨m, hm⟩ := (lim_iff p bodies ext).1 (hS q (List.mem_cons_self ..))
    refine ⟨max n m, fun z hz => ?_⟩
    rcases List.mem_cons.1 hz with rfl | hz
    · exact acall_up p bodies ext (Nat.le_max_right n m) (Nat.le_max_right n m) _ _ _ _ hm
    · exact acall_up p bodies ext (Nat.le_max_left n m) (Nat.le_max_left n m) _ _ _ _ (hn z hz)

/-- A function's body, run with such calls. -/
theorem lim_body {f : Nat} {fn : IFn} (hb : bodies f = some fn) {k : Nat} {args : List V} {h : H} {r : V × H} (hr : fcall p (lim p bodies ext) fn k args h = some r) : lim p bodies ext f args h = some r := by
  obtain ⟨S, hS, kS⟩ := fcall_cont p fn k args h _ _ hr
  obtain ⟨n, hn⟩ := facts_lim p bodies ext hS
  have h1 := kS _ hn
  refine lim_of p bodies ext (k := max k n) (n := n + 1) ?_
  simp only [acall, hb]
  refine fcall_mono p (Nat.le_max_left k n) ?_
  exact kS _ (hn.mono (acall_up p bodies ext (Nat.le_max_right k n) (Nat.le_refl n)))

theorem lim_ext {f : Nat} (hb : bodies f = none) {args : List V} {h : H} {r : V × H} (hr : ext f args h = some r) : lim p bodies ext f args h = some r :=
  lim_of p bodies ext (k := 0) (n := 1) (by simp only [acall, hb]; exact hr)

end
end Go.Rae

/- Runs as conditions on what comes behind them, in a form that 'simp' steps through. -/
namespace Go.Rae

/-! ### the words -/

/-- A mark that keeps 'simp' from what comes behind. -/
inductive Tg {α : Sort _} (a : α) : Type
  | mk


def guardK (c P : Prop) (_ : Tg P := .mk) : Prop := c ∧ P
def optK {α : Type} (o : Option α) (k : α → Prop) (_ : Tg k := .mk) : Prop := match o with | some a => k a | none => False
def getK (e : Env) (n : Nat) (k : V → Prop) (_ : Tg k := .mk) : Prop := optK (e.get n) k
def evK (e : Env) (o : Od) (k : V → Prop) (_ : Tg k := .mk) : Prop := optK (ev e o) k
def evoK (e : Env) (o : Option Od) (k : Option V → Prop) (_ : Tg k := .mk) : Prop := optK (evo e o) k
def evsK (e : Env) (l : List Od) (k : List V → Prop) (_ : Tg k := .mk) : Prop := optK (evs e l) k
def evpK (e : Env) (l : List (Nat × Od)) (k : List (Nat × V) → Prop) (_ : Tg k := .mk) : Prop := optK (evp e l) k
def keepK : List Nat → Nat → Prop → Prop
  | [], _, _ => False
  | m :: l, n, P => if m = n then P else keepK l n P
def getOK (e : Env) (n : Nat) (k : V → Prop) (B : Prop) (_ : Tg (k, B) := .mk) : Prop := match e.get n with | some v => k v | none => B
def selK (e : Env) (ks : List Nat) (k : Env → Prop) (_ : Tg k := .mk) : Prop := k (e.sel ks)
def condK (v : V) (A B : Prop) (_ : Tg (A, B) := .mk) : Prop := match v with | .b true => A | .b false => B | _ => False
def wantK (v : V) (w : Bool) (A B : Prop) (_ : Tg (A, B) := .mk) : Prop := match v with | .b x => if x = w then A else B | .tup _ => B | _ => False
def seqK (x : Ex) (A B : Prop) : Prop := match x with | .norm => B | _ => A
def blkK (id : Nat) (x : Ex) (A B : Prop) : Prop := match x with | .exit j => if j = id then A else B | _ => B
def gotoK (x : Ex) (A : Nat → Prop) (B : Prop) : Prop := match x with | .goto l => A l | _ => B
def endK (x : Ex) (A : Prop) : Prop := match x with | .norm => A | .ret => A | _ => False
def nthK (l : List V) (i : Nat) (k : V → Prop) (_ : Tg k := .mk) : Prop := optK l[i]? k
def subK (v : V) (p : List Nat) (k : V → Prop) (_ : Tg k := .mk) : Prop := optK (sub v p) k
def putK (v : V) (p : List Nat) (x : V) (k : V → Prop) (_ : Tg k := .mk) : Prop := optK (put v p x) k
def fillK (l : List V) (ps : List (Nat × V)) (k : List V → Prop) (_ : Tg k := .mk) : Prop := optK (fillV l ps) k
def objK (h : H) (id : Nat) (k : Obj → Prop) (_ : Tg k := .mk) : Prop := optK (h.get id) k
def readK (h : H) (id st : Nat) (p : List Nat) (k : V → Prop) (_ : Tg k := .mk) : Prop := optK (h.read id st p) k
def cellsK (o : Obj) (st : Nat) (k : V → Prop) (_ : Tg k := .mk) : Prop := match o with | .cells v g r => guardK (stampOf (.cells v g r) = st) (k v) | _ => False
def writeK (h : H) (id st : Nat) (p : List Nat) (x : V) (k : H → Prop) (_ : Tg k := .mk) : Prop := optK (h.write id st p x) k
def loadK (sh : Nat) (h : H) (v : V) (k : V → Prop) (_ : Tg k := .mk) : Prop := match v with | .ptr id st p sh' => guardK (sh' = sh) (readK h id st p k) | _ => False
def storeK (sh : Nat) (h : H) (a x : V) (k : H → Prop) (_ : Tg k := .mk) : Prop := match a with | .ptr id st p sh' => guardK (sh' = sh ∧ x.sh = sh ∧ x.isTup = false) (writeK h id st p x k) | _ => False
def binK (op : BinOp) (x y : V) (k : V → Prop) (_ : Tg k := .mk) : Prop := optK (binV op x y) k
def unK (op : UnOp) (x : V) (k : V → Prop) (_ : Tg k := .mk) : Prop := optK (unV op x) k
def eqnK (n : Nat) (x y : V) (k : Bool → Prop) (_ : Tg k := .mk) : Prop := optK (eqn n x y) k
def elemsK (h : H) (v : V) (k : List V → Prop) (_ : Tg k := .mk) : Prop := optK (h.elems v) k
def boundsK (len : Nat) (cap : Option Nat) (lo hi mx : Option V) (k : Nat × Nat × Option Nat → Prop) (_ : Tg k := .mk) : Prop := optK (bounds len cap lo hi mx) k
def appK (h : H) (d e bytes : Nat) (x : V) (ys : List V) (k : V → H → Prop) (_ : Tg k := .mk) : Prop := optK (appendV h d e bytes x ys) fun r => k r.1 r.2
def layK (h : H) (x : V) (ys : List V) (k : H → Prop) (_ : Tg k := .mk) : Prop := optK (layV h x ys) k
def intK (v : V) (k : IntKind → Int → Prop) (_ : Tg k := .mk) : Prop := match v with | .i t n => k t n | _ => False
def strK (v : V) (k : List UInt8 → Prop) (_ : Tg k := .mk) : Prop := match v with | .s l => k l | _ => False
def fnK (v : V) (k : Nat → List V → Prop) (_ : Tg k := .mk) : Prop := match v with | .fn f c => k f c | _ => False
def tupK (v : V) (k : List V → Prop) (_ : Tg k := .mk) : Prop := match v with | .tup l => k l | _ => False
def nckK (v : V) (k : V → Prop) (_ : Tg k := .mk) : Prop := match v with | .ptr .. | .ifc .. | .fn .. => k v | _ => False
def ptrK (v : V) (k : Nat → Nat → List Nat → Nat → Prop) (_ : Tg k := .mk) : Prop := match v with | .ptr a b c d => k a b c d | _ => False
def aggK (v : V) (k : Nat → List V → Prop) (_ : Tg k := .mk) : Prop := match v with | .agg s l => k s l | _ => False
def slLK (el : Nat) (v : V) (lo hi mx : Option V) (k : V → Prop) (_ : Tg k := .mk) : Prop := match v with
  | .nilsl => boundsK 0 (some 0) lo hi mx fun _ => k .nilsl
  | .sl id st path el' off len cap => guardK (el' = el) (boundsK len cap lo hi mx fun r => k (.sl id st path el (off + r.1) (r.2.1 - r.1) (r.2.2.map fun m => m - r.1)))
  | _ => False
def lenLK (v : V) (k : V → Prop) (_ : Tg k := .mk) : Prop := match v with
  | .nilsl => k (.i .i64 0)
  | .sl _ _ _ _ _ len _ => k (.i .i64 len)
  | _ => False
def iaLK (el : Nat) (v : V) (j : Int) (k : V → Prop) (_ : Tg k := .mk) : Prop := match v with
  | .sl id st path el' off len _ => guardK (el' = el ∧ 0 ≤ j ∧ j < (len : Int)) (k (.ptr id st (path ++ [off + j.toNat]) el))
  | _ => False
def byteK (l : List V) (k : List UInt8 → Prop) (_ : Tg k := .mk) : Prop := optK (toBytes? l) k
def iterK (o : Obj) (k : List UInt8 → Nat → Prop) (_ : Tg k := .mk) : Prop := match o with | .iter l n => k l n | _ => False

section
variable (p : Nat → Bool) (C : Orc)

/-- A code's run ends, so. -/
def W (c : IC) (e : Env) (h : H) (Q : Ex → Env → H → Prop) : Prop := ∃ n x e' h', exec p C n c e h = some (x, e', h') ∧ Q x e' h'
def WR (ops : List IOper) (e : Env) (h : H) (Q : Env → H → Prop) : Prop := optK (run p C e h ops) fun r => Q r.1 r.2
def WO (o : IOp) (e : Env) (h : H) (k : V → H → Prop) : Prop := optK (aop p C e h o) fun r => k r.1 r.2
def callK (f : Nat) (args : List V) (h : H) (k : V → H → Prop) (_ : Tg k := .mk) : Prop := optK (callV p C f args h) fun r => k r.1 r.2
def ressK (e : Env) (h : H) (l : List IRes) (k : List V → Prop) (_ : Tg k := .mk) : Prop := optK (getRess e h l) k
/-- A function's call ends, so. -/
def Runs (f : Nat) (args : List V) (h : H) (Q : V → H → Prop) : Prop := optK (C f args h) fun r => Q r.1 r.2
end

/-! ### small rules -/

theorem guardK_true (P : Prop) : guardK True P = P := by simp [guardK]
theorem optK_some {α : Type} (a : α) (k : α → Prop) : optK (some a) k = k a := rfl
theorem optK_none {α : Type} (k : α → Prop) : optK none k = False := rfl

theorem Env.get_put (e : Env) (m : Nat) (v : V) (n : Nat) : (e.put m v).get n = if m = n then some v else e.get n := by
  induction e with
  | nil => simp only [Env.put, Env.get]
  | cons x e ih =>
    obtain ⟨k, u⟩ := x
    simp only [Env.put]
    by_cases h1 : k = m
    · subst h1; simp only [if_true, Env.get]; by_cases h2 : k = n <;> simp [h2]
    · rw [if_neg h1]; simp only [Env.get, ih]
      by_cases h2 : k = n
      · subst h2; rw [if_pos rfl, if_neg (Ne.symm h1), if_pos rfl]
      · rw [if_neg h2, if_neg h2]

theorem Env.get_keep (e : Env) (ks : List Nat) (n : Nat) : (e.keep ks).get n = if ks.contains n then e.get n else none := by
  induction e with
  | nil => simp [Env.keep, Env.get]
  | cons x e ih =>
    obtain ⟨k, u⟩ := x
    unfold Env.keep at ih ⊢
    by_cases h1 : ks.contains k = true
    · rw [List.filter_cons]
      simp only [h1, if_true, Env.get, ih]
      by_cases h2 : k = n
      · subst h2; simp only [if_true, h1]
      · simp only [if_neg h2]
    · rw [List.filter_cons]
      simp only [h1, Bool.false_eq_true, if_false, ih]
      simp only [Env.get]
      by_cases h2 : k = n
      · subst h2; simp only [if_true]; rw [if_neg h1, if_neg h1]
      · simp only [if_neg h2]

theorem getK_put (e : Env) (m : Nat) (v : V) (n : Nat) (k : V → Prop) : getK (e.put m v) n k = if m = n then k v else getK e n k := by
  unfold getK; rw [Env.get_put]; split <;> rfl
theorem getK_nil (n : Nat) (k : V → Prop) : getK [] n k = False := rfl
theorem getK_cons (e : Env) (m : Nat) (v : V) (n : Nat) (k : V → Prop) : getK ((m, v) :: e) n k = if m = n then k v else getK e n k := by
  unfold getK; simp only [Env.get]; split <;> rfl
theorem keepK_eq (ks : List Nat) (n : Nat) (P : Prop) : keepK ks n P = (ks.contains n = true ∧ P) := by
  induction ks with
  | nil => simp [keepK]
  | cons m l ih =>
    simp only [keepK]
    by_cases h : m = n
    · subst h; simp
    · rw [if_neg h, ih]
      have : (n == m) = false := by simpa using Ne.symm h
      simp only [List.contains_cons, this, Bool.false_or]
theorem getK_keep (e : Env) (ks : List Nat) (n : Nat) (k : V → Prop) : getK (e.keep ks) n k = keepK ks n (getK e n k) := by
  rw [keepK_eq]; unfold getK; rw [Env.get_keep]
  by_cases h : ks.contains n = true
  · rw [if_pos h]; exact propext ⟨fun x => ⟨h, x⟩, fun x => x.2⟩
  · rw [if_neg h]; exact propext ⟨fun x => x.elim, fun x => h x.1⟩
theorem keepK_cons (m : Nat) (l : List Nat) (n : Nat) (P : Prop) : keepK (m :: l) n P = if m = n then P else keepK l n P := rfl
theorem getK_of {e : Env} {n : Nat} {v : V} (h : e.get n = some v) (k : V → Prop) : getK e n k = k v := by unfold getK; rw [h]; rfl
theorem get_of_getK {e : Env} {n : Nat} {v : V} (h : getK e n fun x => x = v) : e.get n = some v := by
  unfold getK at h; cases hg : e.get n with
  | none => rw [hg] at h; exact h.elim
  | some x => rw [hg] at h; exact congrArg some h

theorem getOK_put (e : Env) (m : Nat) (v : V) (n : Nat) (k : V → Prop) (B : Prop) : getOK (e.put m v) n k B = if m = n then k v else getOK e n k B := by
  unfold getOK; rw [Env.get_put]; by_cases h : m = n <;> simp only [h, if_true, if_false]
theorem getOK_cons (e : Env) (m : Nat) (v : V) (n : Nat) (k : V → Prop) (B : Prop) : getOK ((m, v) :: e) n k B = if m = n then k v else getOK e n k B := by
  unfold getOK; simp only [Env.get]; by_cases h : m = n <;> simp only [h, if_true, if_false]
theorem getOK_nil (n : Nat) (k : V → Prop) (B : Prop) : getOK [] n k B = B := rfl
theorem getOK_of {e : Env} {n : Nat} {v : V} (h : e.get n = some v) (k : V → Prop) (B : Prop) : getOK e n k B = k v := by unfold getOK; rw [h]
theorem selK_nil (e : Env) (k : Env → Prop) : selK e [] k = k [] := rfl
theorem selK_cons (e : Env) (n : Nat) (ks : List Nat) (k : Env → Prop) : selK e (n :: ks) k = getOK e n (fun v => selK e ks fun l => k ((n, v) :: l)) (selK e ks k) := by
  unfold selK getOK; simp only [Env.sel]; cases e.get n <;> rfl
theorem evK_t (e : Env) (n : Nat) (k : V → Prop) : evK e (.t n) k = getK e n k := rfl
theorem evK_c (e : Env) (v : V) (k : V → Prop) : evK e (.c v) k = k v := rfl
theorem evK_f (e : Env) (f : Nat) (k : V → Prop) : evK e (.f f) k = k (.fn f []) := rfl
theorem evoK_none (e : Env) (k : Option V → Prop) : evoK e none k = k none := rfl
theorem evoK_some (e : Env) (o : Od) (k : Option V → Prop) : evoK e (some o) k = evK e o fun v => k (some v) := by
  unfold evoK evK; simp only [evo]; cases ev e o <;> rfl
theorem evsK_nil (e : Env) (k : List V → Prop) : evsK e [] k = k [] := rfl
theorem evsK_cons (e : Env) (o : Od) (l : List Od) (k : List V → Prop) : evsK e (o :: l) k = evK e o fun v => guardK (v.isTup = false) (evsK e l fun vs => k (v :: vs)) := by
  unfold evsK evK guardK
  rw [evs]
  cases ev e o with
  | none => rfl
  | some v => cases evs e l with
    | none => simp [optK]
    | some vs => cases hv : v.isTup <;> simp [optK, hv]
theorem evpK_nil (e : Env) (k : List (Nat × V) → Prop) : evpK e [] k = k [] := rfl
theorem evpK_cons (e : Env) (i : Nat) (o : Od) (l : List (Nat × Od)) (k : List (Nat × V) → Prop) : evpK e ((i, o) :: l) k = evK e o fun v => guardK (v.isTup = false) (evpK e l fun vs => k ((i, v) :: vs)) := by
  unfold evpK evK guardK
  rw [evp]
  cases ev e o with
  | none => rfl
  | some v => cases evp e l with
    | none => simp [optK]
    | some vs => cases hv : v.isTup <;> simp [optK, hv]

theorem condK_true (A B : Prop) : condK (.b true) A B = A := rfl
theorem condK_false (A B : Prop) : condK (.b false) A B = B := rfl
theorem condK_not (x : Bool) (A B : Prop) : condK (.b (!x)) A B = condK (.b x) B A := by cases x <;> rfl
theorem condK_of {c : Bool} {A B : Prop} (h1 : c = true → A) (h2 : c = false → B) : condK (.b c) A B := by cases c; exact h2 rfl; exact h1 rfl
theorem condK_dec {c : Prop} [Decidable c] {A B : Prop} (h1 : c → A) (h2 : ¬ c → B) : condK (.b (decide c)) A B := by
  by_cases h : c
  · simp only [h, decide_true]; exact h1 h
  · simp only [h, decide_false]; exact h2 h
theorem wantK_tt (A B : Prop) : wantK (.b true) true A B = A := rfl
theorem wantK_tf (A B : Prop) : wantK (.b true) false A B = B := rfl
theorem wantK_ft (A B : Prop) : wantK (.b false) true A B = B := rfl
theorem wantK_ff (A B : Prop) : wantK (.b false) false A B = A := rfl
theorem wantK_tup (l : List V) (w : Bool) (A B : Prop) : wantK (.tup l) w A B = B := rfl
theorem wantK_cond (x : Bool) (A B : Prop) : wantK (.b x) true A B = condK (.b x) A B := by cases x <;> rfl
theorem wantK_condn (x : Bool) (A B : Prop) : wantK (.b x) false A B = condK (.b x) B A := by cases x <;> rfl
theorem seqK_norm (A B : Prop) : seqK .norm A B = B := rfl
theorem seqK_exit (i : Nat) (A B : Prop) : seqK (.exit i) A B = A := rfl
theorem seqK_goto (i : Nat) (A B : Prop) : seqK (.goto i) A B = A := rfl
theorem seqK_ret (A B : Prop) : seqK .ret A B = A := rfl
theorem blkK_norm (i : Nat) (A B : Prop) : blkK i .norm A B = B := rfl
theorem blkK_exit (i j : Nat) (A B : Prop) : blkK i (.exit j) A B = if j = i then A else B := rfl
theorem blkK_goto (i j : Nat) (A B : Prop) : blkK i (.goto j) A B = B := rfl
theorem blkK_ret (i : Nat) (A B : Prop) : blkK i .ret A B = B := rfl
theorem gotoK_norm (A : Nat → Prop) (B : Prop) : gotoK .norm A B = B := rfl
theorem gotoK_exit (j : Nat) (A : Nat → Prop) (B : Prop) : gotoK (.exit j) A B = B := rfl
theorem gotoK_goto (j : Nat) (A : Nat → Prop) (B : Prop) : gotoK (.goto j) A B = A j := rfl
theorem gotoK_ret (A : Nat → Prop) (B : Prop) : gotoK .ret A B = B := rfl
theorem endK_norm (A : Prop) : endK .norm A = A := rfl
theorem endK_ret (A : Prop) : endK .ret A = A := rfl
theorem nthK_zero (x : V) (l : List V) (k : V → Prop) : nthK (x :: l) 0 k = k x := rfl
theorem nthK_succ (x : V) (l : List V) (n : Nat) (k : V → Prop) : nthK (x :: l) (n + 1) k = nthK l n k := by unfold nthK; rw [List.getElem?_cons_succ]
theorem nthK_of {l : List V} {i : Nat} {x : V} (h : l[i]? = some x) (k : V → Prop) : nthK l i k = k x := by unfold nthK; rw [h]; rfl
theorem nthK_map {α : Type} (l : List α) (f : α → V) (i : Nat) (k : V → Prop) (h : i < l.length) : nthK (l.map f) i k = k (f l[i]) := nthK_of (by simp [h]) k
theorem subK_nil (v : V) (k : V → Prop) : subK v [] k = k v := by unfold subK; rw [sub]; rfl
theorem subK_cons (s : Nat) (l : List V) (i : Nat) (q : List Nat) (k : V → Prop) : subK (.agg s l) (i :: q) k = nthK l i fun x => subK x q k := by
  unfold subK nthK; simp only [sub]; cases l[i]? <;> rfl
theorem putK_nil (v x : V) (k : V → Prop) : putK v [] x k = guardK (v.sh = x.sh) (k x) := by
  unfold putK guardK; rw [put]; split <;> simp_all [optK]
theorem putK_cons (s : Nat) (l : List V) (i : Nat) (q : List Nat) (x : V) (k : V → Prop) : putK (.agg s l) (i :: q) x k = nthK l i fun y => putK y q x fun z => k (.agg s (l.set i z)) := by
  unfold putK nthK; simp only [put]
  cases l[i]? with
  | none => rfl
  | some y => simp only [optK_some]; cases put y q x <;> rfl
theorem fillK_nil (l : List V) (k : List V → Prop) : fillK l [] k = k l := rfl
theorem fillK_cons (l : List V) (i : Nat) (x : V) (r : List (Nat × V)) (k : List V → Prop) : fillK l ((i, x) :: r) k = nthK l i fun y => guardK (y.sh = x.sh) (fillK (l.set i x) r k) := by
  unfold fillK nthK; simp only [fillV]
  cases l[i]? with
  | none => rfl
  | some y => simp only [optK_some, guardK]; split <;> simp_all [optK]

/-! ### shapes -/
theorem sh_b (x : Bool) : (V.b x).sh = 0 := rfl
theorem sh_s (l : List UInt8) : (V.s l).sh = 2 := rfl
theorem sh_agg (k : Nat) (l : List V) : (V.agg k l).sh = k := rfl
theorem sh_i8 (n : Int) : (V.i .i8 n).sh = 3 := rfl
theorem sh_i16 (n : Int) : (V.i .i16 n).sh = 4 := rfl
theorem sh_i32 (n : Int) : (V.i .i32 n).sh = 5 := rfl
theorem sh_i64 (n : Int) : (V.i .i64 n).sh = 6 := rfl
theorem sh_u8 (n : Int) : (V.i .u8 n).sh = 7 := rfl
theorem sh_u16 (n : Int) : (V.i .u16 n).sh = 8 := rfl
theorem sh_u32 (n : Int) : (V.i .u32 n).sh = 9 := rfl
theorem sh_u64 (n : Int) : (V.i .u64 n).sh = 10 := rfl
theorem sh_nilp  : V.sh V.nilp = 1 := rfl
theorem isTup_nilp  : V.isTup V.nilp = false := rfl
theorem sh_ptr (a b : Nat) (c : List Nat) (d : Nat) : V.sh (V.ptr a b c d) = 1 := rfl
theorem isTup_ptr (a b : Nat) (c : List Nat) (d : Nat) : V.isTup (V.ptr a b c d) = false := rfl
theorem sh_nilsl  : V.sh V.nilsl = 1 := rfl
theorem isTup_nilsl  : V.isTup V.nilsl = false := rfl
theorem sh_sl (a b : Nat) (c : List Nat) (d e f : Nat) (g : Option Nat) : V.sh (V.sl a b c d e f g) = 1 := rfl
theorem isTup_sl (a b : Nat) (c : List Nat) (d e f : Nat) (g : Option Nat) : V.isTup (V.sl a b c d e f g) = false := rfl
theorem sh_nilm  : V.sh V.nilm = 1 := rfl
theorem isTup_nilm  : V.isTup V.nilm = false := rfl
theorem sh_mp (a : Nat) : V.sh (V.mp a) = 1 := rfl
theorem isTup_mp (a : Nat) : V.isTup (V.mp a) = false := rfl
theorem sh_nilc  : V.sh V.nilc = 1 := rfl
theorem isTup_nilc  : V.isTup V.nilc = false := rfl
theorem sh_ch (a : Nat) : V.sh (V.ch a) = 1 := rfl
theorem isTup_ch (a : Nat) : V.isTup (V.ch a) = false := rfl
theorem sh_nilf  : V.sh V.nilf = 1 := rfl
theorem isTup_nilf  : V.isTup V.nilf = false := rfl
theorem sh_fn (a : Nat) (l : List V) : V.sh (V.fn a l) = 1 := rfl
theorem isTup_fn (a : Nat) (l : List V) : V.isTup (V.fn a l) = false := rfl
theorem sh_nili  : V.sh V.nili = 1 := rfl
theorem isTup_nili  : V.isTup V.nili = false := rfl
theorem sh_ifc (a : Nat) (x : V) : V.sh (V.ifc a x) = 1 := rfl
theorem isTup_ifc (a : Nat) (x : V) : V.isTup (V.ifc a x) = false := rfl
theorem sh_sym (k : IntKind) (a : Nat) : V.sh (V.sym k a) = 1 := rfl
theorem isTup_sym (k : IntKind) (a : Nat) : V.isTup (V.sym k a) = false := rfl
theorem isTup_b (x : Bool) : V.isTup (V.b x) = false := rfl
theorem isTup_s (l : List UInt8) : V.isTup (V.s l) = false := rfl
theorem isTup_agg (k : Nat) (l : List V) : V.isTup (V.agg k l) = false := rfl
theorem isTup_i (k : IntKind) (n : Int) : V.isTup (V.i k n) = false := rfl
theorem isTup_tup (l : List V) : V.isTup (V.tup l) = true := rfl
theorem slOf_nil (e : Nat) : V.slOf e .nilsl = true := rfl
theorem slOf_sl (e a b : Nat) (c : List Nat) (d f g : Nat) (i : Option Nat) : V.slOf e (.sl a b c d f g i) = (d == e) := rfl
theorem retV_one (v : V) : retV [v] = v := rfl
theorem retV_two (a b : V) (l : List V) : retV (a :: b :: l) = .tup (a :: b :: l) := rfl
theorem retV_nil : retV [] = .tup [] := rfl

/-! ### heaps -/

theorem H.push_n (h : H) (o : Obj) : (h.push o).n = h.n + 1 := rfl
theorem H.set_n (h : H) (i : Nat) (o : Obj) : (h.set i o).n = h.n := rfl
theorem H.empty_n : H.empty.n = 0 := rfl
def H.ok (h : H) : Prop := h.l.length = h.n
theorem H.ok_push {h : H} (o : Obj) (k : h.ok) : (h.push o).ok := by unfold H.ok H.push at *; simp [k]
theorem H.ok_set {h : H} (i : Nat) (o : Obj) (k : h.ok) : (h.set i o).ok := by unfold H.ok H.set at *; simp [k]
theorem H.ok_empty : H.empty.ok := rfl
theorem H.get_push' (h : H) (o : Obj) (id : Nat) : (h.push o).get id = if id = h.n then some o else h.get id := by
  unfold H.push H.get
  simp only
  by_cases e : id = h.n
  · subst e; simp
  · by_cases hlt : id < h.n
    · have : h.n + 1 - 1 - id = (h.n - 1 - id) + 1 := by omega
      rw [if_pos (by omega), if_neg e, if_pos hlt, this, List.getElem?_cons_succ]
    · rw [if_neg (by omega), if_neg e, if_neg hlt]
theorem H.get_set' (h : H) (hl : h.ok) (i : Nat) (o : Obj) (id : Nat) (hi : i < h.n) : (h.set i o).get id = if id = i then some o else h.get id := by
  unfold H.set H.get H.ok at *
  simp only
  by_cases e : id = i
  · subst e; rw [if_pos hi, if_pos rfl, List.getElem?_set_self (by omega)]
  · by_cases hlt : id < h.n
    · rw [if_pos hlt, if_neg e, if_pos hlt, List.getElem?_set_ne (by omega)]
    · rw [if_neg hlt, if_neg e, if_neg hlt]
theorem H.get_lt' {h : H} {id : Nat} {o : Obj} (hg : h.get id = some o) : id < h.n := by
  unfold H.get at hg
  split at hg
  · assumption
  · cases hg
theorem objK_push (h : H) (o : Obj) (id : Nat) (k : Obj → Prop) : objK (h.push o) id k = if id = h.n then k o else objK h id k := by
  unfold objK; rw [H.get_push']; split <;> rfl
def H.has (h : H) (id : Nat) : Prop := ∃ o, h.get id = some o
theorem H.has_of {h : H} {id : Nat} {o : Obj} (hg : h.get id = some o) : h.has id := ⟨o, hg⟩
theorem H.has_push (h : H) (o : Obj) (id : Nat) : (h.push o).has id = (id = h.n ∨ h.has id) := by
  unfold H.has; rw [H.get_push']
  by_cases e : id = h.n
  · rw [if_pos e]; exact propext ⟨fun _ => .inl e, fun _ => ⟨o, rfl⟩⟩
  · rw [if_neg e]; exact propext ⟨.inr, fun k => k.resolve_left e⟩
theorem H.has_in {h : H} {i : Nat} (hi : h.has i) : h.n - 1 - i < h.l.length ∧ i < h.n := by
  obtain ⟨o, hg⟩ := hi
  have hlt := H.get_lt' hg
  unfold H.get at hg
  rw [if_pos hlt] at hg
  exact ⟨(List.getElem?_eq_some_iff.1 hg).1, hlt⟩
theorem H.get_set2 (h : H) (i : Nat) (o : Obj) (id : Nat) (hi : h.has i) : (h.set i o).get id = if id = i then some o else h.get id := by
  obtain ⟨h1, h2⟩ := H.has_in hi
  unfold H.set H.get
  simp only
  by_cases e : id = i
  · subst e; rw [if_pos h2, if_pos rfl, List.getElem?_set_self h1]
  · by_cases hlt : id < h.n
    · rw [if_pos hlt, if_neg e, if_pos hlt, List.getElem?_set_ne (by omega)]
    · rw [if_neg hlt, if_neg e, if_neg hlt]
theorem H.has_iff (h : H) (id : Nat) : h.has id ↔ id < h.n ∧ h.n - 1 - id < h.l.length := by
  constructor
  · exact fun k => ⟨(H.has_in k).2, (H.has_in k).1⟩
  · intro ⟨h1, h2⟩
    refine ⟨h.l[h.n - 1 - id], ?_⟩
    unfold H.get; rw [if_pos h1, List.getElem?_eq_getElem h2]
theorem H.has_set (h : H) (i : Nat) (o : Obj) (id : Nat) : (h.set i o).has id = h.has id := by
  refine propext ?_
  rw [H.has_iff, H.has_iff]
  unfold H.set; simp
theorem H.lt_of {h : H} {id : Nat} {o : Obj} (hg : h.get id = some o) : id < h.n := H.get_lt' hg
theorem objK_set (h : H) (i : Nat) (o : Obj) (id : Nat) (k : Obj → Prop) (hi : h.has i) : objK (h.set i o) id k = if id = i then k o else objK h id k := by
  unfold objK; rw [H.get_set2 h i o id hi]; split <;> rfl
theorem objK_of {h : H} {id : Nat} {o : Obj} (hg : h.get id = some o) (k : Obj → Prop) : objK h id k = k o := by unfold objK; rw [hg]; rfl
theorem cellsK_cells (v : V) (g r : Bool) (st : Nat) (k : V → Prop) : cellsK (.cells v g r) st k = guardK (stampOf (.cells v g r) = st) (k v) := rfl
theorem stampOf_false (v : V) (r : Bool) : stampOf (.cells v false r) = 0 := by cases v <;> rfl
theorem stampOf_true (d : Nat) (l : List V) (r : Bool) : stampOf (.cells (.agg d l) true r) = l.length := rfl
theorem readK_eq (h : H) (id st : Nat) (q : List Nat) (k : V → Prop) : readK h id st q k = objK h id fun o => cellsK o st fun v => subK v q k := by
  unfold readK objK H.read H.root
  cases h.get id with
  | none => rfl
  | some o =>
    cases o with
    | cells v g r =>
      simp only [optK_some, cellsK, guardK]
      by_cases hs : stampOf (.cells v g r) = st
      · simp [hs, subK]
      · simp [hs, optK]
    | _ => rfl
def wcellK (o : Obj) (st : Nat) (q : List Nat) (x : V) (k : Obj → Prop) (_ : Tg k := .mk) : Prop := match o, q with
  | .cells v g false, i :: q => guardK (stampOf (.cells v g false) = st) (putK v (i :: q) x fun v' => k (.cells v' g false))
  | .cells v false false, [] => guardK (stampOf (.cells v false false) = st) (putK v [] x fun v' => k (.cells v' false false))
  | _, _ => False
theorem wcellK_cons (v : V) (g : Bool) (st i : Nat) (q : List Nat) (x : V) (k : Obj → Prop) : wcellK (.cells v g false) st (i :: q) x k = guardK (stampOf (.cells v g false) = st) (putK v (i :: q) x fun v' => k (.cells v' g false)) := rfl
theorem wcellK_nil (v : V) (st : Nat) (x : V) (k : Obj → Prop) : wcellK (.cells v false false) st [] x k = guardK (stampOf (.cells v false false) = st) (putK v [] x fun v' => k (.cells v' false false)) := rfl
theorem writeK_eq (h : H) (id st i : Nat) (q : List Nat) (x : V) (k : H → Prop) : writeK h id st (i :: q) x k = objK h id fun o => match o with
    | .cells v g false => guardK (stampOf (.cells v g false) = st) (putK v (i :: q) x fun v' => k (h.set id (.cells v' g false)))
    | _ => False := by
  unfold writeK objK H.write
  cases h.get id with
  | none => rfl
  | some o =>
    cases o with
    | cells v g r =>
      cases r with
      | true => rfl
      | false =>
        simp only [optK_some, guardK, putK]
        by_cases hs : stampOf (.cells v g false) = st
        · simp only [hs, if_true, true_and]; cases put v (i :: q) x <;> rfl
        · simp [hs, optK]
    | _ => rfl
theorem writeK_nil (h : H) (id st : Nat) (x : V) (k : H → Prop) : writeK h id st [] x k = objK h id fun o => match o with
    | .cells v false false => guardK (stampOf (.cells v false false) = st) (putK v [] x fun v' => k (h.set id (.cells v' false false)))
    | _ => False := by
  unfold writeK objK H.write
  cases h.get id with
  | none => rfl
  | some o =>
    cases o with
    | cells v g r =>
      cases r with
      | true => cases g <;> rfl
      | false =>
        cases g with
        | true => simp only [optK_some]; split <;> rfl
        | false =>
          simp only [optK_some, guardK, putK]
          by_cases hs : stampOf (.cells v false false) = st
          · simp only [hs, if_true, true_and]; cases put v [] x <;> rfl
          · simp [hs, optK]
    | _ => rfl

theorem writeK_w (h : H) (id st : Nat) (q : List Nat) (x : V) (k : H → Prop) : writeK h id st q x k = objK h id fun o => wcellK o st q x fun o' => k (h.set id o') := by
  cases q with
  | nil =>
    rw [writeK_nil]; unfold objK
    cases h.get id with
    | none => rfl
    | some o =>
      cases o with
      | cells v g r => cases r <;> cases g <;> rfl
      | _ => rfl
  | cons i q =>
    rw [writeK_eq]; unfold objK
    cases h.get id with
    | none => rfl
    | some o =>
      cases o with
      | cells v g r => cases r <;> rfl
      | _ => rfl
theorem loadK_ptr (sh : Nat) (h : H) (id st : Nat) (q : List Nat) (sh' : Nat) (k : V → Prop) : loadK sh h (.ptr id st q sh') k = guardK (sh' = sh) (readK h id st q k) := rfl
theorem storeK_ptr (sh : Nat) (h : H) (id st : Nat) (q : List Nat) (sh' : Nat) (x : V) (k : H → Prop) : storeK sh h (.ptr id st q sh') x k = guardK (sh' = sh ∧ x.sh = sh ∧ x.isTup = false) (writeK h id st q x k) := rfl
theorem intK_i (t : IntKind) (n : Int) (k : IntKind → Int → Prop) : intK (.i t n) k = k t n := rfl
theorem strK_s (l : List UInt8) (k : List UInt8 → Prop) : strK (.s l) k = k l := rfl
theorem fnK_fn (f : Nat) (c : List V) (k : Nat → List V → Prop) : fnK (.fn f c) k = k f c := rfl
theorem tupK_tup (l : List V) (k : List V → Prop) : tupK (.tup l) k = k l := rfl
theorem nckK_ptr (a b : Nat) (c : List Nat) (d : Nat) (k : V → Prop) : nckK (.ptr a b c d) k = k (.ptr a b c d) := rfl
theorem nckK_ifc (a : Nat) (x : V) (k : V → Prop) : nckK (.ifc a x) k = k (.ifc a x) := rfl
theorem nckK_fn (a : Nat) (x : List V) (k : V → Prop) : nckK (.fn a x) k = k (.fn a x) := rfl
theorem ptrK_ptr (a b : Nat) (c : List Nat) (d : Nat) (k : Nat → Nat → List Nat → Nat → Prop) : ptrK (.ptr a b c d) k = k a b c d := rfl
theorem aggK_agg (s : Nat) (l : List V) (k : Nat → List V → Prop) : aggK (.agg s l) k = k s l := rfl
theorem slLK_nil (el : Nat) (lo hi mx : Option V) (k : V → Prop) : slLK el .nilsl lo hi mx k = boundsK 0 (some 0) lo hi mx fun _ => k .nilsl := rfl
theorem slLK_sl (el id st : Nat) (path : List Nat) (el' off len : Nat) (cap : Option Nat) (lo hi mx : Option V) (k : V → Prop) : slLK el (.sl id st path el' off len cap) lo hi mx k =
    guardK (el' = el) (boundsK len cap lo hi mx fun r => k (.sl id st path el (off + r.1) (r.2.1 - r.1) (r.2.2.map fun m => m - r.1))) := rfl
theorem lenLK_nil (k : V → Prop) : lenLK .nilsl k = k (.i .i64 0) := rfl
theorem lenLK_sl (id st : Nat) (path : List Nat) (el off len : Nat) (cap : Option Nat) (k : V → Prop) : lenLK (.sl id st path el off len cap) k = k (.i .i64 len) := rfl
theorem iaLK_sl (el id st : Nat) (path : List Nat) (el' off len : Nat) (cap : Option Nat) (j : Int) (k : V → Prop) : iaLK el (.sl id st path el' off len cap) j k =
    guardK (el' = el ∧ 0 ≤ j ∧ j < (len : Int)) (k (.ptr id st (path ++ [off + j.toNat]) el)) := rfl
theorem iterK_iter (l : List UInt8) (n : Nat) (k : List UInt8 → Nat → Prop) : iterK (.iter l n) k = k l n := rfl

theorem elemsK_nil (h : H) (k : List V → Prop) : elemsK h .nilsl k = k [] := rfl
theorem elemsK_of {h : H} {v : V} {l : List V} (hv : h.elems v = some l) (k : List V → Prop) : elemsK h v k = k l := by unfold elemsK; rw [hv]; rfl
theorem elemsK_sl (h : H) (id st : Nat) (path : List Nat) (e off len : Nat) (cap : Option Nat) (k : List V → Prop) : elemsK h (.sl id st path e off len cap) k =
    readK h id st path fun v => aggK v fun _ l => guardK (off + len ≤ l.length) (k ((l.drop off).take len)) := by
  unfold elemsK readK
  simp only [H.elems]
  cases h.read id st path with
  | none => rfl
  | some v =>
    cases v with
    | agg s l =>
      simp only [optK_some, aggK, guardK]
      by_cases hb : off + len ≤ l.length
      · rw [if_pos hb]; exact propext ⟨fun x => ⟨hb, x⟩, fun x => x.2⟩
      · rw [if_neg hb]; exact propext ⟨fun x => x.elim, fun x => hb x.1⟩
    | _ => rfl

/-! ### integers and texts -/
theorem binK_add (t : IntKind) (a b : Int) (k : V → Prop) : binK .add (.i t a) (.i t b) k = k (.i t (t.wrap (a + b))) := by unfold binK binV; simp [binI, optK]
theorem binK_sub (t : IntKind) (a b : Int) (k : V → Prop) : binK .sub (.i t a) (.i t b) k = k (.i t (t.wrap (a - b))) := by unfold binK binV; simp [binI, optK]
theorem binK_mul (t : IntKind) (a b : Int) (k : V → Prop) : binK .mul (.i t a) (.i t b) k = k (.i t (t.wrap (a * b))) := by unfold binK binV; simp [binI, optK]
theorem binK_quo (t : IntKind) (a b : Int) (k : V → Prop) : binK .quo (.i t a) (.i t b) k = guardK (b ≠ 0) (k (.i t (t.wrap (a.tdiv b)))) := by
  unfold binK binV; simp only [binI, if_true, guardK]; by_cases h : b = 0 <;> simp [h, optK]
theorem binK_rem (t : IntKind) (a b : Int) (k : V → Prop) : binK .rem (.i t a) (.i t b) k = guardK (b ≠ 0) (k (.i t (a.tmod b))) := by
  unfold binK binV; simp only [binI, if_true, guardK]; by_cases h : b = 0 <;> simp [h, optK]
theorem binK_eql (t : IntKind) (a b : Int) (k : V → Prop) : binK .eql (.i t a) (.i t b) k = k (.b (decide (a = b))) := by unfold binK binV; simp [binI, cmpI, optK]; rw [Bool.beq_eq_decide_eq]
theorem binK_neq (t : IntKind) (a b : Int) (k : V → Prop) : binK .neq (.i t a) (.i t b) k = k (.b (!decide (a = b))) := by unfold binK binV; simp [binI, cmpI, optK, bne]; rw [Bool.beq_eq_decide_eq]
theorem binK_lss (t : IntKind) (a b : Int) (k : V → Prop) : binK .lss (.i t a) (.i t b) k = k (.b (decide (a < b))) := by unfold binK binV; simp [binI, cmpI, optK]
theorem binK_leq (t : IntKind) (a b : Int) (k : V → Prop) : binK .leq (.i t a) (.i t b) k = k (.b (decide (a ≤ b))) := by unfold binK binV; simp [binI, cmpI, optK]
theorem binK_gtr (t : IntKind) (a b : Int) (k : V → Prop) : binK .gtr (.i t a) (.i t b) k = k (.b (decide (b < a))) := by unfold binK binV; simp [binI, cmpI, optK]
theorem binK_geq (t : IntKind) (a b : Int) (k : V → Prop) : binK .geq (.i t a) (.i t b) k = k (.b (decide (b ≤ a))) := by unfold binK binV; simp [binI, cmpI, optK]
theorem binK_shl (t t' : IntKind) (a b : Int) (k : V → Prop) : binK .shl (.i t a) (.i t' b) k = guardK (0 ≤ b) (k (.i t (t.wrap (a * 2 ^ (min b.toNat t.bits))))) := by
  unfold binK binV; simp only [shI, guardK]; by_cases h : b < 0 <;> simp [h, optK] <;> omega
theorem binK_shr (t t' : IntKind) (a b : Int) (k : V → Prop) : binK .shr (.i t a) (.i t' b) k = guardK (0 ≤ b) (k (.i t (a.fdiv (2 ^ (min b.toNat t.bits))))) := by
  unfold binK binV; simp only [shI, guardK]; by_cases h : b < 0 <;> simp [h, optK] <;> omega
def bitF (op : BinOp) (t : IntKind) (a b : Int) : Int := match op with
  | .and => t.wrap (BitVec.ofInt t.bits a &&& BitVec.ofInt t.bits b).toNat
  | .or => t.wrap (BitVec.ofInt t.bits a ||| BitVec.ofInt t.bits b).toNat
  | .xor => t.wrap (BitVec.ofInt t.bits a ^^^ BitVec.ofInt t.bits b).toNat
  | _ => t.wrap (BitVec.ofInt t.bits a &&& ~~~ BitVec.ofInt t.bits b).toNat
theorem binK_and (t : IntKind) (a b : Int) (k : V → Prop) : binK .and (.i t a) (.i t b) k = k (.i t (bitF .and t a b)) := by unfold binK binV; simp [binI, bitI, bitF, optK]
theorem binK_or (t : IntKind) (a b : Int) (k : V → Prop) : binK .or (.i t a) (.i t b) k = k (.i t (bitF .or t a b)) := by unfold binK binV; simp [binI, bitI, bitF, optK]
theorem binK_xor (t : IntKind) (a b : Int) (k : V → Prop) : binK .xor (.i t a) (.i t b) k = k (.i t (bitF .xor t a b)) := by unfold binK binV; simp [binI, bitI, bitF, optK]
theorem binK_andNot (t : IntKind) (a b : Int) (k : V → Prop) : binK .andNot (.i t a) (.i t b) k = k (.i t (bitF .andNot t a b)) := by unfold binK binV; simp [binI, bitI, bitF, optK]
theorem binK_sadd (a b : List UInt8) (k : V → Prop) : binK .add (.s a) (.s b) k = guardK (a.length + b.length < 2 ^ 60) (k (.s (a ++ b))) := by
  unfold binK binV; simp only [binS, guardK]
  by_cases hb : a.length + b.length < 2 ^ 60
  · rw [if_pos hb]; exact propext ⟨fun x => ⟨hb, x⟩, fun x => x.2⟩
  · rw [if_neg hb]; exact propext ⟨fun x => x.elim, fun x => hb x.1⟩
theorem binK_seql (a b : List UInt8) (k : V → Prop) : binK .eql (.s a) (.s b) k = k (.b (decide (a = b))) := by unfold binK binV; simp [binS, optK]; rw [Bool.beq_eq_decide_eq]
theorem binK_sneq (a b : List UInt8) (k : V → Prop) : binK .neq (.s a) (.s b) k = k (.b (!decide (a = b))) := by unfold binK binV; simp [binS, optK]; rw [Bool.beq_eq_decide_eq]
theorem unK_not (x : Bool) (k : V → Prop) : unK .not (.b x) k = k (.b (!x)) := rfl
theorem unK_neg (t : IntKind) (n : Int) (k : V → Prop) : unK .neg (.i t n) k = k (.i t (t.wrap (0 - n))) := rfl
theorem eqnK_ev {n : Nat} {x y : V} {r : Bool} (h : eqn n x y = some r) (k : Bool → Prop) : eqnK n x y k = k r := by unfold eqnK; rw [h]; rfl

end Go.Rae

/- Runs as conditions on what comes behind them: the rules of the codes and of the operations. -/
namespace Go.Rae

section
variable {p : Nat → Bool} {C : Orc}

theorem W_skip (e : Env) (h : H) (Q : Ex → Env → H → Prop) : W p C .skip e h Q = Q .norm e h :=
  propext ⟨fun ⟨n, x, e', h', hx, hq⟩ => by cases n with | zero => cases hx | succ n => cases hx; exact hq, fun hq => ⟨1, _, _, _, rfl, hq⟩⟩
theorem W_exit (id : Nat) (e : Env) (h : H) (Q : Ex → Env → H → Prop) : W p C (.exit id) e h Q = Q (.exit id) e h :=
  propext ⟨fun ⟨n, x, e', h', hx, hq⟩ => by cases n with | zero => cases hx | succ n => cases hx; exact hq, fun hq => ⟨1, _, _, _, rfl, hq⟩⟩
theorem W_label (id : Nat) (e : Env) (h : H) (Q : Ex → Env → H → Prop) : W p C (.label id) e h Q = Q .norm e h :=
  propext ⟨fun ⟨n, x, e', h', hx, hq⟩ => by cases n with | zero => cases hx | succ n => cases hx; exact hq, fun hq => ⟨1, _, _, _, rfl, hq⟩⟩
theorem W_goto (id : Nat) (e : Env) (h : H) (Q : Ex → Env → H → Prop) : W p C (.goto id) e h Q = Q (.goto id) e h :=
  propext ⟨fun ⟨n, x, e', h', hx, hq⟩ => by cases n with | zero => cases hx | succ n => cases hx; exact hq, fun hq => ⟨1, _, _, _, rfl, hq⟩⟩
theorem W_ret (e : Env) (h : H) (Q : Ex → Env → H → Prop) : W p C .ret e h Q = Q .ret e h :=
  propext ⟨fun ⟨n, x, e', h', hx, hq⟩ => by cases n with | zero => cases hx | succ n => cases hx; exact hq, fun hq => ⟨1, _, _, _, rfl, hq⟩⟩
theorem W_reg (ops : List IOper) (ks : List Nat) (e : Env) (h : H) (Q : Ex → Env → H → Prop) : W p C (.reg ops ks) e h Q = WR p C ops e h (fun e' h' => selK e' ks fun e' => Q .norm e' h') := by
  simp only [selK]
  refine propext ⟨fun ⟨n, x, e', h', hx, hq⟩ => ?_, fun hw => ?_⟩
  · cases n with
    | zero => cases hx
    | succ n =>
      rw [exec] at hx
      unfold WR
      cases hr : run p C e h ops with
      | none => rw [hr] at hx; cases hx
      | some r => rw [hr] at hx; cases hx; exact hq
  · unfold WR at hw
    cases hr : run p C e h ops with
    | none => rw [hr] at hw; exact hw.elim
    | some r => rw [hr] at hw; exact ⟨1, _, _, _, by rw [exec, hr], hw⟩
theorem W_seq (a b : IC) (e : Env) (h : H) (Q : Ex → Env → H → Prop) : W p C (.seq a b) e h Q = W p C a e h (fun x e' h' => seqK x (Q x e' h') (W p C b e' h' Q)) := by
  refine propext ⟨fun ⟨n, x, e', h', hx, hq⟩ => ?_, fun ⟨n, x, e', h', hx, hq⟩ => ?_⟩
  · cases n with
    | zero => cases hx
    | succ n =>
      rw [exec] at hx
      cases ha : exec p C n a e h with
      | none => rw [ha] at hx; cases hx
      | some r =>
        obtain ⟨y, e1, h1⟩ := r
        rw [ha] at hx
        refine ⟨n, y, e1, h1, ha, ?_⟩
        cases y with
        | norm => exact ⟨n, _, _, _, hx, hq⟩
        | _ => cases hx; exact hq
  · cases x with
    | norm =>
      obtain ⟨m, y, e1, h1, hy, hq⟩ := hq
      refine ⟨max n m + 1, y, e1, h1, ?_, hq⟩
      rw [exec, exec_mono p (Nat.le_max_left n m) hx]
      exact exec_mono p (Nat.le_max_right n m) hy
    | _ => exact ⟨n + 1, _, _, _, by rw [exec, hx], hq⟩
theorem W_cond (c : Od) (a b : IC) (e : Env) (h : H) (Q : Ex → Env → H → Prop) : W p C (.cond c a b) e h Q = evK e c fun v => condK v (W p C a e h Q) (W p C b e h Q) := by
  unfold evK
  refine propext ⟨fun ⟨n, x, e', h', hx, hq⟩ => ?_, fun hw => ?_⟩
  · cases n with
    | zero => cases hx
    | succ n =>
      rw [exec] at hx
      cases hv : ev e c with
      | none => rw [hv] at hx; cases hx
      | some v =>
        rw [hv] at hx
        cases v with
        | b t => cases t <;> exact ⟨n, _, _, _, hx, hq⟩
        | _ => cases hx
  · cases hv : ev e c with
    | none => rw [hv] at hw; exact hw.elim
    | some v =>
      rw [hv] at hw
      cases v with
      | b t => cases t <;> (obtain ⟨n, x, e', h', hx, hq⟩ := hw; exact ⟨n + 1, _, _, _, by rw [exec, hv]; exact hx, hq⟩)
      | _ => exact hw.elim
theorem W_blk (id : Nat) (a : IC) (e : Env) (h : H) (Q : Ex → Env → H → Prop) : W p C (.blk id a) e h Q = W p C a e h (fun x e' h' => blkK id x (Q .norm e' h') (Q x e' h')) := by
  refine propext ⟨fun ⟨n, x, e', h', hx, hq⟩ => ?_, fun ⟨n, x, e', h', hx, hq⟩ => ?_⟩
  · cases n with
    | zero => cases hx
    | succ n =>
      rw [exec] at hx
      cases ha : exec p C n a e h with
      | none => rw [ha] at hx; cases hx
      | some r =>
        obtain ⟨y, e1, h1⟩ := r
        rw [ha] at hx
        refine ⟨n, y, e1, h1, ha, ?_⟩
        cases y with
        | exit j =>
          simp only at hx; simp only [blkK]
          by_cases e : j = id
          · rw [if_pos e] at hx ⊢; cases hx; exact hq
          · rw [if_neg e] at hx ⊢; cases hx; exact hq
        | _ => cases hx; exact hq
  · cases x with
    | exit j =>
      simp only [blkK] at hq
      by_cases e : j = id
      · rw [if_pos e] at hq; exact ⟨n + 1, _, _, _, by rw [exec, hx]; simp only [if_pos e], hq⟩
      · rw [if_neg e] at hq; exact ⟨n + 1, _, _, _, by rw [exec, hx]; simp only [if_neg e], hq⟩
    | _ => exact ⟨n + 1, _, _, _, by rw [exec, hx], hq⟩
theorem W_loop (a : IC) (e : Env) (h : H) (Q : Ex → Env → H → Prop) : W p C (.loop a) e h Q = W p C a e h (fun x e' h' => seqK x (Q x e' h') (W p C (.loop a) e' h' Q)) := by
  refine propext ⟨fun ⟨n, x, e', h', hx, hq⟩ => ?_, fun ⟨n, x, e', h', hx, hq⟩ => ?_⟩
  · cases n with
    | zero => cases hx
    | succ n =>
      rw [exec] at hx
      cases ha : exec p C n a e h with
      | none => rw [ha] at hx; cases hx
      | some r =>
        obtain ⟨y, e1, h1⟩ := r
        rw [ha] at hx
        refine ⟨n, y, e1, h1, ha, ?_⟩
        cases y with
        | norm => exact ⟨n, _, _, _, hx, hq⟩
        | _ => cases hx; exact hq
  · cases x with
    | norm =>
      obtain ⟨m, y, e1, h1, hy, hq⟩ := hq
      refine ⟨max n m + 1, y, e1, h1, ?_, hq⟩
      rw [exec, exec_mono p (Nat.le_max_left n m) hx]
      exact exec_mono p (Nat.le_max_right n m) hy
    | _ => exact ⟨n + 1, _, _, _, by rw [exec, hx], hq⟩
theorem W_scope (a : IC) (e : Env) (h : H) (Q : Ex → Env → H → Prop) : W p C (.scope a) e h Q = W p C a e h (fun x e' h' => gotoK x (fun l => W p C (.jump a l) e' h' Q) (Q x e' h')) := by
  refine propext ⟨fun ⟨n, x, e', h', hx, hq⟩ => ?_, fun ⟨n, x, e', h', hx, hq⟩ => ?_⟩
  · cases n with
    | zero => cases hx
    | succ n =>
      rw [exec] at hx
      cases ha : exec p C n a e h with
      | none => rw [ha] at hx; cases hx
      | some r =>
        obtain ⟨y, e1, h1⟩ := r
        rw [ha] at hx
        refine ⟨n, y, e1, h1, ha, ?_⟩
        cases y with
        | goto l => exact ⟨n, _, _, _, hx, hq⟩
        | _ => cases hx; exact hq
  · cases x with
    | goto l =>
      obtain ⟨m, y, e1, h1, hy, hq⟩ := hq
      refine ⟨max n m + 1, y, e1, h1, ?_, hq⟩
      rw [exec, exec_mono p (Nat.le_max_left n m) hx]
      exact exec_mono p (Nat.le_max_right n m) hy
    | _ => exact ⟨n + 1, _, _, _, by rw [exec, hx], hq⟩
theorem W_jump {a : IC} {l : Nat} {r : IC} (hf : ICfind a l = some r) (e : Env) (h : H) (Q : Ex → Env → H → Prop) : W p C (.jump a l) e h Q = W p C r e h (fun x e' h' => gotoK x (fun l => W p C (.jump a l) e' h' Q) (Q x e' h')) := by
  refine propext ⟨fun ⟨n, x, e', h', hx, hq⟩ => ?_, fun ⟨n, x, e', h', hx, hq⟩ => ?_⟩
  · cases n with
    | zero => cases hx
    | succ n =>
      rw [exec, hf] at hx
      simp only at hx
      cases ha : exec p C n r e h with
      | none => rw [ha] at hx; cases hx
      | some r =>
        obtain ⟨y, e1, h1⟩ := r
        rw [ha] at hx
        refine ⟨n, y, e1, h1, ha, ?_⟩
        cases y with
        | goto l => exact ⟨n, _, _, _, hx, hq⟩
        | _ => cases hx; exact hq
  · cases x with
    | goto l' =>
      obtain ⟨m, y, e1, h1, hy, hq⟩ := hq
      refine ⟨max n m + 1, y, e1, h1, ?_, hq⟩
      rw [exec, hf]
      simp only
      rw [exec_mono p (Nat.le_max_left n m) hx]
      exact exec_mono p (Nat.le_max_right n m) hy
    | _ => refine ⟨n + 1, _, _, _, ?_, hq⟩; rw [exec, hf]; simp only; rw [hx]
theorem W_jump_none {a : IC} {l : Nat} (hf : ICfind a l = none) (e : Env) (h : H) (Q : Ex → Env → H → Prop) : W p C (.jump a l) e h Q = Q (.goto l) e h := by
  refine propext ⟨fun ⟨n, x, e', h', hx, hq⟩ => ?_, fun hq => ⟨1, _, _, _, by rw [exec, hf], hq⟩⟩
  cases n with
  | zero => cases hx
  | succ n => rw [exec, hf] at hx; cases hx; exact hq

theorem W_mono {c : IC} {e : Env} {h : H} {Q Q' : Ex → Env → H → Prop} (hw : W p C c e h Q) (hq : ∀ x e' h', Q x e' h' → Q' x e' h') : W p C c e h Q' :=
  let ⟨n, x, e', h', hx, q⟩ := hw; ⟨n, x, e', h', hx, hq _ _ _ q⟩

/-- Rounds: what holds at their head, and how many are to come at most. -/
theorem W_rounds {a : IC} {Q : Ex → Env → H → Prop} (I : Nat → Env → H → Prop)
    (step : ∀ k e h, I k e h → W p C a e h (fun x e' h' => seqK x (Q x e' h') (∃ j, j < k ∧ I j e' h'))) : ∀ (k : Nat) (e : Env) (h : H), I k e h → W p C (.loop a) e h Q := by
  intro k
  induction k using Nat.strongRecOn with
  | _ k ih =>
    intro e h hi
    rw [W_loop]
    refine W_mono (step k e h hi) fun x e' h' hq => ?_
    cases x with
    | norm => obtain ⟨j, hj, hij⟩ := hq; exact ih j hj e' h' hij
    | _ => exact hq

/-- Rounds that count up to a bound. -/
theorem W_up {a : IC} {Q : Ex → Env → H → Prop} (N : Nat) (I : Nat → Env → H → Prop)
    (step : ∀ i e h, i ≤ N → I i e h → W p C a e h (fun x e' h' => seqK x (Q x e' h') (i < N ∧ I (i + 1) e' h'))) (i : Nat) (hi : i ≤ N) (e : Env) (h : H) (h0 : I i e h) : W p C (.loop a) e h Q := by
  refine W_rounds (fun k e h => ∃ i, i + k = N ∧ I i e h) (fun k e h ⟨i, hk, hi⟩ => ?_) (N - i) e h ⟨i, by omega, h0⟩
  refine W_mono (step i e h (by omega) hi) fun x e' h' hq => ?_
  cases x with
  | norm => obtain ⟨hlt, hn⟩ := hq; exact ⟨k - 1, by omega, i + 1, by omega, hn⟩
  | _ => exact hq

/-! ### operations -/

def replK (n : Nat) (z : V) : List V := List.replicate n z
theorem replK_zero (z : V) : replK 0 z = [] := rfl
theorem replK_succ (n : Nat) (z : V) : replK (n + 1) z = z :: replK n z := rfl

theorem WR_nil (e : Env) (h : H) (Q : Env → H → Prop) : WR p C [] e h Q = Q e h := rfl
theorem WR_cons (d : Nat) (o : IOp) (r : List IOper) (e : Env) (h : H) (Q : Env → H → Prop) : WR p C (⟨some d, o, none⟩ :: r) e h Q = WO p C o e h fun v h' => WR p C r (e.put d v) h' Q := by
  unfold WR WO; simp only [run, wantedV]; cases aop p C e h o <;> rfl
theorem WR_cons0 (o : IOp) (r : List IOper) (e : Env) (h : H) (Q : Env → H → Prop) : WR p C (⟨none, o, none⟩ :: r) e h Q = WO p C o e h fun _ h' => WR p C r e h' Q := by
  unfold WR WO; simp only [run, wantedV]; cases aop p C e h o <;> rfl
theorem WR_consg (d t : Nat) (w : Bool) (o : IOp) (r : List IOper) (e : Env) (h : H) (Q : Env → H → Prop) : WR p C (⟨some d, o, some (t, w)⟩ :: r) e h Q =
    getK e t fun x => wantK x w (WO p C o e h fun v h' => WR p C r (e.put d v) h' Q) (WR p C r (e.put d unit) h Q) := by
  unfold WR WO getK; simp only [run, wantedV]
  cases e.get t with
  | none => rfl
  | some x =>
    cases x with
    | b x =>
      simp only [optK_some, wantK]
      by_cases hx : x = w
      · subst hx; simp only [beq_self_eq_true, if_true]; cases aop p C e h o <;> rfl
      · have : (x == w) = false := by simpa using hx
        simp only [this, hx, if_false]; rfl
    | tup l => rfl
    | _ => rfl
theorem WR_cons0g (t : Nat) (w : Bool) (o : IOp) (r : List IOper) (e : Env) (h : H) (Q : Env → H → Prop) : WR p C (⟨none, o, some (t, w)⟩ :: r) e h Q =
    getK e t fun x => wantK x w (WO p C o e h fun _ h' => WR p C r e h' Q) (WR p C r e h Q) := by
  unfold WR WO getK; simp only [run, wantedV]
  cases e.get t with
  | none => rfl
  | some x =>
    cases x with
    | b x =>
      simp only [optK_some, wantK]
      by_cases hx : x = w
      · subst hx; simp only [beq_self_eq_true, if_true]; cases aop p C e h o <;> rfl
      · have : (x == w) = false := by simpa using hx
        simp only [this, hx, if_false]; rfl
    | tup l => rfl
    | _ => rfl

theorem if_guard (c : Prop) [Decidable c] {α : Type} (x : α) (k : α → Prop) : optK (if c then some x else none) k = guardK c (k x) := by
  unfold guardK; by_cases h : c
  · rw [if_pos h]; exact propext ⟨fun x => ⟨h, x⟩, fun x => x.2⟩
  · rw [if_neg h]; exact propext ⟨fun x => x.elim, fun x => h x.1⟩

variable (e : Env) (h : H) (k : V → H → Prop)

theorem WO_mv (x : Od) : WO p C (.mv x) e h k = evK e x fun v => k v h := by
  unfold WO evK; simp only [aop]; cases ev e x <;> rfl
theorem WO_pick (c a b : Od) : WO p C (.pick c a b) e h k = evK e c fun v => condK v (evK e a fun v => k v h) (evK e b fun v => k v h) := by
  unfold WO evK; simp only [aop]
  cases ev e c with
  | none => rfl
  | some v => cases v with
    | b t => cases t with
      | true => simp only [if_true, optK_some, condK]; cases ev e a <;> rfl
      | false => simp only [Bool.false_eq_true, if_false, optK_some, condK]; cases ev e b <;> rfl
    | _ => rfl
theorem WO_box (sh : Nat) (x : Od) : WO p C (.box sh x) e h k = evK e x fun v => guardK (v.sh = sh ∧ v.isTup = false) (k (.ptr h.n 0 [] sh) (h.push (.cells v false false))) := by
  unfold WO evK; simp only [aop]
  cases ev e x with
  | none => rfl
  | some v => exact if_guard _ _ _
theorem WO_build (sh : Nat) (z : List V) (ps : List (Nat × Od)) : WO p C (.build sh z ps) e h k = evpK e ps fun l => fillK z l fun l => k (.agg sh l) h := by
  unfold WO evpK fillK; simp only [aop]
  cases evp e ps with
  | none => rfl
  | some l => simp only [optK_some]; cases fillV z l <;> rfl
theorem WO_bsl (d el : Nat) (z : V) (n : Nat) (ps : List (Nat × Od)) : WO p C (.bsl d el z n ps) e h k = evpK e ps fun l => fillK (replK n z) l fun l => k (.sl h.n 0 [] el 0 n (some n)) (h.push (.cells (.agg d l) false false)) := by
  unfold WO evpK fillK; simp only [aop]
  cases evp e ps with
  | none => rfl
  | some l => simp only [optK_some, replK]; cases fillV (List.replicate n z) l <;> rfl
theorem WO_load (sh : Nat) (x : Od) : WO p C (.load sh x) e h k = evK e x fun v => loadK sh h v fun v => k v h := by
  unfold WO evK loadK readK; simp only [aop]
  cases ev e x with
  | none => rfl
  | some v => cases v with
    | ptr id st q sh' =>
      simp only [optK_some, guardK]
      by_cases hs : sh' = sh
      · simp only [hs, if_true, true_and]; cases h.read id st q <;> rfl
      · simp [hs, optK]
    | _ => rfl
theorem WO_store (sh : Nat) (a x : Od) : WO p C (.store sh a x) e h k = evK e a fun a => evK e x fun x => storeK sh h a x fun h' => k unit h' := by
  unfold WO evK storeK writeK; simp only [aop]
  cases ev e a with
  | none => rfl
  | some v =>
    cases ev e x with
    | none => cases v <;> rfl
    | some y =>
      cases v with
      | ptr id st q sh' =>
        simp only [optK_some, guardK]
        by_cases hs : sh' = sh ∧ y.sh = sh ∧ y.isTup = false
        · rw [if_pos hs]
          cases h.write id st q y with
          | none => simp [optK]
          | some h' => simp [optK, hs]
        · rw [if_neg hs]; exact propext ⟨fun x => x.elim, fun x => hs x.1⟩
      | _ => rfl
theorem WO_nilck (x : Od) : WO p C (.nilck x) e h k = evK e x fun v => nckK v fun v => k v h := by
  unfold WO evK; simp only [aop]
  cases ev e x with
  | none => rfl
  | some v => cases v <;> rfl
theorem WO_bin (op : BinOp) (x y : Od) : WO p C (.bin op x y) e h k = evK e x fun a => evK e y fun b => binK op a b fun v => k v h := by
  unfold WO evK binK; simp only [aop]
  cases ev e x with
  | none => rfl
  | some a => cases ev e y with
    | none => rfl
    | some b => simp only [optK_some]; cases binV op a b <;> rfl
theorem WO_eqv (sh : Nat) (neg : Bool) (x y : Od) : WO p C (.eqv sh neg x y) e h k = evK e x fun a => evK e y fun b => guardK (a.sh = sh ∧ b.sh = sh) (k (.b (if neg then !veq a b else veq a b)) h) := by
  unfold WO evK; simp only [aop]
  cases ev e x with
  | none => rfl
  | some a => cases ev e y with
    | none => rfl
    | some b => exact if_guard _ _ _
theorem WO_eqb (neg : Bool) (x y : Od) : WO p C (.eqb neg x y) e h k = evK e x fun a => evK e y fun b => match a, b with | .b a, .b b => k (.b (if neg then !(a == b) else a == b)) h | _, _ => False := by
  unfold WO evK; simp only [aop]
  cases ev e x with
  | none => rfl
  | some a => cases ev e y with
    | none => cases a <;> rfl
    | some b => cases a <;> cases b <;> rfl
theorem WO_eqn (n : Nat) (neg : Bool) (x y : Od) : WO p C (.eqn n neg x y) e h k = evK e x fun a => evK e y fun b => eqnK n a b fun r => k (.b (if neg then !r else r)) h := by
  unfold WO evK eqnK; simp only [aop]
  cases ev e x with
  | none => rfl
  | some a => cases ev e y with
    | none => rfl
    | some b => simp only [optK_some]; cases eqn n a b <;> rfl
theorem WO_un (op : UnOp) (x : Od) : WO p C (.un op x) e h k = evK e x fun a => unK op a fun v => k v h := by
  unfold WO evK unK; simp only [aop]
  cases ev e x with
  | none => rfl
  | some a => simp only [optK_some]; cases unV op a <;> rfl
theorem WO_cint (t : IntKind) (x : Od) : WO p C (.cint t x) e h k = evK e x fun a => intK a fun _ n => k (.i t (t.wrap n)) h := by
  unfold WO evK; simp only [aop]
  cases ev e x with
  | none => rfl
  | some a => cases a <;> rfl
theorem WO_cid (x : Od) : WO p C (.cid x) e h k = evK e x fun a => strK a fun l => k (.s l) h := by
  unfold WO evK; simp only [aop]
  cases ev e x with
  | none => rfl
  | some a => cases a <;> rfl
theorem WO_cbs (x : Od) : WO p C (.cbs x) e h k = evK e x fun v => guardK (v.slOf 7 = true) (elemsK h v fun l => byteK l fun r => k (.s r) h) := by
  unfold WO evK elemsK byteK guardK; simp only [aop]
  cases ev e x with
  | none => rfl
  | some v =>
    simp only [optK_some]
    by_cases hs : v.slOf 7 = true
    · simp only [hs, if_true, true_and]
      cases h.elems v with
      | none => rfl
      | some l => simp only [optK_some]; cases toBytes? l <;> rfl
    · simp [hs, optK]
theorem WO_csb (d : Nat) (x : Od) : WO p C (.csb d x) e h k = evK e x fun v => strK v fun l => guardK (l.length ≤ 2 ^ 46) (k (.sl h.n l.length [] 7 0 l.length none) (h.push (.cells (.agg d (l.map byteV)) true false))) := by
  unfold WO evK; simp only [aop]
  cases ev e x with
  | none => rfl
  | some v => cases v with
    | s l => exact if_guard _ _ _
    | _ => rfl
theorem WO_ifc (t : Nat) (x : Od) : WO p C (.ifc t x) e h k = evK e x fun v => guardK (v.sc0 = true) (k (.ifc t v) h) := by
  unfold WO evK; simp only [aop]
  cases ev e x with
  | none => rfl
  | some v => exact if_guard _ _ _
theorem WO_mkf (f : Nat) (xs : List Od) : WO p C (.mkf f xs) e h k = evsK e xs fun vs => guardK (vs.all V.sc0 = true) (k (.fn f vs) h) := by
  unfold WO evsK; simp only [aop]
  cases evs e xs with
  | none => rfl
  | some v => exact if_guard _ _ _
theorem WO_msl (d el : Nat) (z : V) (bytes : Nat) (l c : Od) : WO p C (.msl d el z bytes l c) e h k = evK e l fun l => evK e c fun c => intK l fun tl l => intK c fun tc c =>
    guardK (tl = .i64 ∧ tc = .i64 ∧ 0 ≤ l ∧ l ≤ c ∧ c * bytes ≤ 2 ^ 46 ∧ c ≤ 2 ^ 46) (k (.sl h.n 0 [] el 0 l.toNat (some c.toNat)) (h.push (.cells (.agg d (List.replicate c.toNat z)) false false))) := by
  unfold WO evK; simp only [aop]
  cases ev e l with
  | none => rfl
  | some a => cases ev e c with
    | none => cases a with
      | i t n => cases t <;> rfl
      | _ => rfl
    | some b =>
      cases a with
      | i t n =>
        cases b with
        | i t' n' =>
          cases t <;> cases t' <;> simp only [optK_some, intK, guardK, reduceCtorEq, false_and, true_and, and_false, if_guard, and_assoc] <;> first | rfl | (simp [optK]; done)
        | _ => cases t <;> rfl
      | _ => rfl
theorem WO_slS (x : Od) (lo hi : Option Od) : WO p C (.slS x lo hi) e h k = evK e x fun v => evoK e lo fun lo => evoK e hi fun hi => strK v fun l => boundsK l.length (some l.length) lo hi none fun r => k (.s ((l.drop r.1).take (r.2.1 - r.1))) h := by
  unfold WO evK evoK; simp only [aop]
  cases ev e x with
  | none => rfl
  | some v => cases evo e lo with
    | none => cases v <;> rfl
    | some a => cases evo e hi with
      | none => cases v <;> rfl
      | some b =>
        cases v with
        | s l => simp only [optK_some, strK, boundsK]; cases bounds l.length (some l.length) a b none <;> rfl
        | _ => rfl
theorem WO_slL (el : Nat) (x : Od) (lo hi mx : Option Od) : WO p C (.slL el x lo hi mx) e h k = evK e x fun v => evoK e lo fun lo => evoK e hi fun hi => evoK e mx fun mx => slLK el v lo hi mx fun v => k v h := by
  unfold WO evK evoK; simp only [aop]
  cases ev e x with
  | none => rfl
  | some v => cases evo e lo with
    | none => cases v <;> rfl
    | some a => cases evo e hi with
      | none => cases v <;> rfl
      | some b => cases evo e mx with
        | none => cases v <;> rfl
        | some c =>
          cases v with
          | nilsl => simp only [optK_some, slLK, boundsK]; cases bounds 0 (some 0) a b c <;> rfl
          | sl id st path el' off len cap =>
            simp only [optK_some, slLK, boundsK, guardK]
            by_cases hs : el' = el
            · simp only [hs, if_true, true_and]; cases bounds len cap a b c <;> rfl
            · simp [hs, optK]
          | _ => rfl
theorem WO_slA (a el n : Nat) (x : Od) (lo hi mx : Option Od) : WO p C (.slA a el n x lo hi mx) e h k = evK e x fun v => evoK e lo fun lo => evoK e hi fun hi => evoK e mx fun mx =>
    ptrK v fun id st q sh => guardK (sh = a ∧ h.isAt id st q a = true) (boundsK n (some n) lo hi mx fun r => k (.sl id st q el r.1 (r.2.1 - r.1) (r.2.2.map fun m => m - r.1)) h) := by
  unfold WO evK evoK; simp only [aop]
  cases ev e x with
  | none => rfl
  | some v => cases evo e lo with
    | none => cases v <;> rfl
    | some a => cases evo e hi with
      | none => cases v <;> rfl
      | some b => cases evo e mx with
        | none => cases v <;> rfl
        | some c =>
          cases v with
          | ptr id st q sh =>
            simp only [optK_some, ptrK, boundsK, guardK]
            rename_i a0
            by_cases hs : sh = a0 ∧ h.isAt id st q a0 = true
            · rw [if_pos hs]; cases bounds n (some n) a b c with
              | none => simp [optK]
              | some r => simp [optK, hs]
            · rw [if_neg hs]; exact propext ⟨fun x => x.elim, fun x => hs x.1⟩
          | _ => rfl
theorem WO_fa (sh i fsh : Nat) (x : Od) : WO p C (.fa sh i fsh x) e h k = evK e x fun v => ptrK v fun id st q sh' => guardK (sh' = sh) (k (.ptr id st (q ++ [i]) fsh) h) := by
  unfold WO evK; simp only [aop]
  cases ev e x with
  | none => rfl
  | some v => cases v with
    | ptr id st q sh' => exact if_guard _ _ _
    | _ => rfl
theorem WO_fld (sh i : Nat) (x : Od) : WO p C (.fld sh i x) e h k = evK e x fun v => aggK v fun sh' l => guardK (sh' = sh) (nthK l i fun v => k v h) := by
  unfold WO evK nthK; simp only [aop]
  cases ev e x with
  | none => rfl
  | some v => cases v with
    | agg sh' l =>
      simp only [optK_some, aggK, guardK]
      by_cases hs : sh' = sh
      · simp only [hs, if_true, true_and]; cases l[i]? <;> rfl
      · simp [hs, optK]
    | _ => rfl
theorem WO_iaA (a el n : Nat) (x i : Od) : WO p C (.iaA a el n x i) e h k = evK e x fun v => evK e i fun j => ptrK v fun id st q sh => intK j fun _ j => guardK (sh = a ∧ 0 ≤ j ∧ j < (n : Int)) (k (.ptr id st (q ++ [j.toNat]) el) h) := by
  unfold WO evK; simp only [aop]
  cases ev e x with
  | none => rfl
  | some v => cases ev e i with
    | none => cases v <;> rfl
    | some j => cases v with
      | ptr id st q sh => cases j with
        | i t j => exact if_guard _ _ _
        | _ => rfl
      | _ => rfl
theorem WO_iaL (el : Nat) (x i : Od) : WO p C (.iaL el x i) e h k = evK e x fun v => evK e i fun j => intK j fun _ j => iaLK el v j fun v => k v h := by
  unfold WO evK; simp only [aop]
  cases ev e x with
  | none => rfl
  | some v => cases ev e i with
    | none => cases v <;> rfl
    | some j => cases j with
      | i t j => cases v with
        | sl id st q el' off len cap => exact if_guard _ _ _
        | _ => rfl
      | _ => cases v <;> rfl
theorem WO_ixA (a n : Nat) (x i : Od) : WO p C (.ixA a n x i) e h k = evK e x fun v => evK e i fun j => intK j fun _ j => aggK v fun sh l => guardK (sh = a ∧ 0 ≤ j ∧ j < (n : Int)) (nthK l j.toNat fun v => k v h) := by
  unfold WO evK nthK; simp only [aop]
  cases ev e x with
  | none => rfl
  | some v => cases ev e i with
    | none => cases v <;> rfl
    | some j => cases j with
      | i t j => cases v with
        | agg sh l =>
          simp only [optK_some, intK, aggK, guardK]
          by_cases hs : sh = a ∧ 0 ≤ j ∧ j < (n : Int)
          · rw [if_pos hs]; cases l[j.toNat]? with
            | none => simp [optK]
            | some r => simp [optK, hs]
          · rw [if_neg hs]; exact propext ⟨fun x => x.elim, fun x => hs x.1⟩
        | _ => rfl
      | _ => cases v <;> rfl
theorem WO_ixS (x i : Od) : WO p C (.ixS x i) e h k = evK e x fun v => evK e i fun j => intK j fun _ j => strK v fun l => guardK (0 ≤ j) (optK l[j.toNat]? fun c => k (byteV c) h) := by
  unfold WO evK; simp only [aop]
  cases ev e x with
  | none => rfl
  | some v => cases ev e i with
    | none => cases v <;> rfl
    | some j => cases j with
      | i t j => cases v with
        | s l =>
          simp only [optK_some, intK, strK, guardK]
          by_cases hs : 0 ≤ j
          · rw [if_pos hs]; cases l[j.toNat]? with
            | none => simp [optK]
            | some r => simp [optK, hs]
          · rw [if_neg hs]; exact propext ⟨fun x => x.elim, fun x => hs x.1⟩
        | _ => rfl
      | _ => cases v <;> rfl
theorem WO_ext (x : Od) (i : Nat) : WO p C (.ext x i) e h k = evK e x fun v => tupK v fun l => nthK l i fun v => k v h := by
  unfold WO evK nthK; simp only [aop]
  cases ev e x with
  | none => rfl
  | some v => cases v with
    | tup l => simp only [optK_some, tupK]; cases l[i]? <;> rfl
    | _ => rfl
theorem WO_call (f : Od) (args : List Od) : WO p C (.call f args) e h k = evK e f fun fv => evsK e args fun vs => fnK fv fun f caps => callK p C f (vs ++ caps) h k := by
  unfold WO evK evsK callK; simp only [aop]
  cases ev e f with
  | none => rfl
  | some v => cases evs e args with
    | none => cases v <;> rfl
    | some l => cases v <;> rfl
theorem WO_lenS (x : Od) : WO p C (.lenS x) e h k = evK e x fun v => strK v fun l => k (.i .i64 l.length) h := by
  unfold WO evK; simp only [aop]
  cases ev e x with
  | none => rfl
  | some v => cases v <;> rfl
theorem WO_lenL (x : Od) : WO p C (.lenL x) e h k = evK e x fun v => lenLK v fun v => k v h := by
  unfold WO evK; simp only [aop]
  cases ev e x with
  | none => rfl
  | some v => cases v <;> rfl
theorem WO_app (d el bytes : Nat) (x y : Od) : WO p C (.app d el bytes x y) e h k = evK e x fun a => evK e y fun b => guardK (b.slOf el = true) (elemsK h b fun ys => appK h d el bytes a ys k) := by
  unfold WO evK elemsK appK guardK; simp only [aop]
  cases ev e x with
  | none => rfl
  | some a => cases ev e y with
    | none => rfl
    | some b =>
      simp only [optK_some]
      by_cases hs : b.slOf el = true
      · simp only [hs, if_true, true_and]
        cases h.elems b with
        | none => rfl
        | some ys => rfl
      · simp [hs, optK]
theorem WO_appS (d bytes : Nat) (x y : Od) : WO p C (.appS d bytes x y) e h k = evK e x fun a => evK e y fun b => strK b fun l => appK h d 7 bytes a (l.map byteV) k := by
  unfold WO evK appK; simp only [aop]
  cases ev e x with
  | none => rfl
  | some a => cases ev e y with
    | none => rfl
    | some b => cases b <;> rfl
theorem WO_cpy (el : Nat) (x y : Od) : WO p C (.cpy el x y) e h k = evK e x fun a => evK e y fun b => guardK (a.slOf el = true ∧ b.slOf el = true) (elemsK h a fun xs => elemsK h b fun ys => layK h a (ys.take (min ys.length xs.length)) fun h' => k (.i .i64 (min ys.length xs.length : Nat)) h') := by
  unfold WO evK elemsK layK guardK; simp only [aop]
  cases ev e x with
  | none => rfl
  | some a => cases ev e y with
    | none => rfl
    | some b =>
      simp only [optK_some]
      by_cases hs : a.slOf el = true ∧ b.slOf el = true
      · rw [if_pos hs]
        cases h.elems a with
        | none => simp [optK]
        | some xs => cases h.elems b with
          | none => simp [optK]
          | some ys =>
            simp only [optK_some]
            cases layV h a (ys.take (min ys.length xs.length)) with
            | none => simp [optK]
            | some h' => simp [optK, hs]
      · rw [if_neg hs]; exact propext ⟨fun x => x.elim, fun x => hs x.1⟩
theorem WO_cpyS (x y : Od) : WO p C (.cpyS x y) e h k = evK e x fun a => evK e y fun b => strK b fun l => guardK (a.slOf 7 = true) (elemsK h a fun xs => layK h a ((l.take (min l.length xs.length)).map byteV) fun h' => k (.i .i64 (min l.length xs.length : Nat)) h') := by
  unfold WO evK elemsK layK guardK; simp only [aop]
  cases ev e x with
  | none => rfl
  | some a => cases ev e y with
    | none => rfl
    | some b =>
      cases b with
      | s l =>
        simp only [optK_some, strK]
        by_cases hs : a.slOf 7 = true
        · rw [if_pos hs]
          cases h.elems a with
          | none => simp [optK]
          | some xs =>
            simp only [optK_some]
            cases layV h a ((l.take (min l.length xs.length)).map byteV) with
            | none => simp [optK]
            | some h' => simp [optK, hs]
        · rw [if_neg hs]; exact propext ⟨fun x => x.elim, fun x => hs x.1⟩
      | _ => rfl
theorem WO_mx (xs : List Od) : WO p C (.mx xs) e h k = evsK e xs fun vs => optK (maxI vs) fun v => k v h := by
  unfold WO evsK; simp only [aop]
  cases evs e xs with
  | none => rfl
  | some vs => simp only [optK_some]; cases maxI vs <;> rfl
theorem WO_mn (xs : List Od) : WO p C (.mn xs) e h k = evsK e xs fun vs => optK (minI vs) fun v => k v h := by
  unfold WO evsK; simp only [aop]
  cases evs e xs with
  | none => rfl
  | some vs => simp only [optK_some]; cases minI vs <;> rfl
theorem WO_rngS (x : Od) : WO p C (.rngS x) e h k = evK e x fun v => strK v fun l => k (.ptr h.n 0 [] 65535) (h.push (.iter l 0)) := by
  unfold WO evK; simp only [aop]
  cases ev e x with
  | none => rfl
  | some v => cases v <;> rfl
end

/-! ### calls -/
section
variable (p : Nat → Bool) (bodies : Nat → Option IFn) (ext : Orc)

theorem ressK_nil (e : Env) (h : H) (k : List V → Prop) : ressK e h [] k = k [] := rfl
theorem ressK_t (e : Env) (h : H) (n : Nat) (l : List IRes) (k : List V → Prop) : ressK e h (.t n :: l) k = getK e n fun v => guardK (v.isTup = false) (ressK e h l fun vs => k (v :: vs)) := by
  unfold ressK getK guardK; simp only [getRess, getRes]
  cases e.get n with
  | none => rfl
  | some v =>
    simp only [optK_some]
    cases hv : v.isTup with
    | true => simp [optK]
    | false => cases getRess e h l <;> simp [optK]
theorem ressK_c (e : Env) (h : H) (n sh : Nat) (l : List IRes) (k : List V → Prop) : ressK e h (.c n sh :: l) k = getK e n fun v => loadK sh h v fun v => guardK (v.isTup = false) (ressK e h l fun vs => k (v :: vs)) := by
  unfold ressK getK loadK guardK readK; simp only [getRess, getRes]
  cases e.get n with
  | none => rfl
  | some v =>
    simp only [optK_some]
    cases v with
    | ptr id st q sh' =>
      simp only
      by_cases hs : sh' = sh
      · simp only [hs, if_true, true_and]
        cases h.read id st q with
        | none => rfl
        | some v =>
          simp only [optK_some]
          cases hv : v.isTup with
          | true => simp [optK]
          | false => cases getRess e h l <;> simp [optK]
      · simp [hs, optK]
    | _ => rfl

theorem Runs.of {f : Nat} {fn : IFn} (hb : bodies f = some fn) {args : List V} (hl : args.length = fn.nargs) {h : H} {Q : V → H → Prop}
    (hw : W p (lim p bodies ext) fn.body (env0 0 args) h fun x e' h' => endK x (ressK e' h' fn.res fun l => Q (retV l) h')) : Runs (lim p bodies ext) f args h Q := by
  obtain ⟨n, x, e', h', hx, hq⟩ := hw
  have key : ∀ l, getRess e' h' fn.res = some l → (x = .norm ∨ x = .ret) → Q (retV l) h' → Runs (lim p bodies ext) f args h Q := by
    intro l hg hxx hq
    have : fcall p (lim p bodies ext) fn n args h = some (retV l, h') := by
      unfold fcall
      rw [if_pos hl, hx]
      rcases hxx with rfl | rfl <;> simp only [hg]
    unfold Runs; rw [lim_body p bodies ext hb this]; exact hq
  cases x with
  | norm =>
    simp only [endK, ressK] at hq
    cases hg : getRess e' h' fn.res with
    | none => rw [hg] at hq; exact hq.elim
    | some l => rw [hg] at hq; exact key l hg (.inl rfl) hq
  | ret =>
    simp only [endK, ressK] at hq
    cases hg : getRess e' h' fn.res with
    | none => rw [hg] at hq; exact hq.elim
    | some l => rw [hg] at hq; exact key l hg (.inr rfl) hq
  | _ => exact hq.elim

theorem Runs.ofExt {f : Nat} (hb : bodies f = none) {args : List V} {h : H} {v : V} {h' : H} (hx : ext f args h = some (v, h')) {Q : V → H → Prop} (hq : Q v h') : Runs (lim p bodies ext) f args h Q := by
  unfold Runs; rw [lim_ext p bodies ext hb hx]; exact hq

variable {p} {C : Orc}
theorem Runs.mono {f : Nat} {args : List V} {h : H} {Q Q' : V → H → Prop} (hr : Runs C f args h Q) (hq : ∀ v h', Q v h' → Q' v h') : Runs C f args h Q' := by
  unfold Runs at *; cases hc : C f args h with
  | none => rw [hc] at hr; exact hr.elim
  | some r => rw [hc] at hr; exact hq _ _ hr

/-- A call of data alone whose answer is data alone. -/
theorem callK_pure {f : Nat} {args : List V} {v : V} (hr : Runs C f args H.empty fun v' _ => v' = v) (ha : noRefs p args = true) (hv : noRefR p v = true) (h : H) (k : V → H → Prop) : callK p C f args h k = k v h := by
  unfold Runs at hr
  unfold callK callV
  rw [if_pos ha]
  cases hc : C f args H.empty with
  | none => rw [hc] at hr; exact hr.elim
  | some r => obtain ⟨v', h'⟩ := r; rw [hc] at hr; cases hr; simp only [hv, if_true]; rfl

/-- A call of a reference. -/
theorem callK_refs {f : Nat} {args : List V} {h : H} {k : V → H → Prop} (ha : noRefs p args = false) : callK p C f args h k = Runs C f args h k := by
  unfold callK callV Runs; rw [if_neg (by simp [ha])]

/-- A call of data alone whose answer is a reference. -/
theorem callK_new {f : Nat} {args : List V} {h : H} {k : V → H → Prop} (hr : Runs C f args H.empty fun v _ => noRefR p v = false) : callK p C f args h k = Runs C f args h k := by
  unfold Runs at hr
  unfold callK callV
  by_cases ha : noRefs p args = true
  · rw [if_pos ha]
    cases hc : C f args H.empty with
    | none => rw [hc] at hr; exact hr.elim
    | some r => obtain ⟨v', h'⟩ := r; rw [hc] at hr; simp only [optK_some] at hr; simp only [hr, Bool.false_eq_true, if_false]; rfl
  · rw [if_neg ha]; rfl

end
end Go.Rae

/- Regions in any order, as conditions on what comes behind them. -/
namespace Go.Rae

/-! ### only an operation's own operands count -/
section
variable {p : Nat → Bool} {C : Orc}

theorem ev_keep {e : Env} {ts : List Nat} : ∀ {x : Od}, (∀ n ∈ odsTm [x], ts.contains n = true) → ev (e.keep ts) x = ev e x := by
  intro x hx
  cases x with
  | t n => simp only [ev]; rw [Env.get_keep, if_pos (hx n (by simp [odsTm]))]
  | _ => rfl

theorem odsTm_app (l m : List Od) : odsTm (l ++ m) = odsTm l ++ odsTm m := by
  induction l with
  | nil => rfl
  | cons x l ih => cases x <;> simp [odsTm, ih]

theorem odsTm_mem {l : List Od} {x : Od} (hx : x ∈ l) : ∀ n ∈ odsTm [x], n ∈ odsTm l := by
  induction l with
  | nil => cases hx
  | cons y l ih =>
    intro n hn
    rcases List.mem_cons.1 hx with rfl | hx
    · cases x <;> simp_all [odsTm]
    · have := ih hx n hn
      cases y <;> simp_all [odsTm]

def Same (e e' : Env) (l : List Od) : Prop := ∀ x ∈ l, ev e' x = ev e x

theorem Same.evs {e e' : Env} : ∀ {l : List Od}, Same e e' l → evs e' l = evs e l := by
  intro l
  induction l with
  | nil => intro _; rfl
  | cons x l ih => intro h; simp only [Rae.evs, h x (List.mem_cons_self ..), ih fun y hy => h y (List.mem_cons_of_mem _ hy)]

theorem Same.evp {e e' : Env} : ∀ {l : List (Nat × Od)}, Same e e' (l.map (·.2)) → evp e' l = evp e l := by
  intro l
  induction l with
  | nil => intro _; rfl
  | cons x l ih => intro h; obtain ⟨i, x⟩ := x; simp only [Rae.evp, h x (by simp), ih fun y hy => h y (by simp at hy ⊢; exact .inr hy)]

theorem Same.evo {e e' : Env} {x : Option Od} (h : Same e e' (oods x)) : evo e' x = evo e x := by
  cases x with
  | none => rfl
  | some x => simp only [Rae.evo, h x (by simp [oods])]

theorem aop_same {e e' : Env} {h : H} {o : IOp} (hs : Same e e' o.ods) : aop p C e' h o = aop p C e h o := by
  cases o with
  | build sh z ps => have h1 := Same.evp (l := ps) hs; simp only [aop, h1]
  | bsl d e' z n ps => have h1 := Same.evp (l := ps) hs; simp only [aop, h1]
  | mkf f xs => have h1 := Same.evs (l := xs) hs; simp only [aop, h1]
  | mx xs => have h1 := Same.evs (l := xs) hs; simp only [aop, h1]
  | mn xs => have h1 := Same.evs (l := xs) hs; simp only [aop, h1]
  | call f xs => simp only [aop, hs f (by simp [IOp.ods]), Same.evs fun y hy => hs y (by simp [IOp.ods]; exact .inr hy)]
  | slS x a b => simp only [aop, hs x (by simp [IOp.ods]), Same.evo (x := a) fun y hy => hs y (show y ∈ x :: (oods a ++ oods b) by simp [hy]), Same.evo (x := b) fun y hy => hs y (show y ∈ x :: (oods a ++ oods b) by simp [hy])]
  | slL el x a b c => simp only [aop, hs x (by simp [IOp.ods]), Same.evo (x := a) fun y hy => hs y (show y ∈ x :: (oods a ++ oods b ++ oods c) by simp [hy]), Same.evo (x := b) fun y hy => hs y (show y ∈ x :: (oods a ++ oods b ++ oods c) by simp [hy]), Same.evo (x := c) fun y hy => hs y (show y ∈ x :: (oods a ++ oods b ++ oods c) by simp [hy])]
  | slA ar el n x a b c => simp only [aop, hs x (by simp [IOp.ods]), Same.evo (x := a) fun y hy => hs y (show y ∈ x :: (oods a ++ oods b ++ oods c) by simp [hy]), Same.evo (x := b) fun y hy => hs y (show y ∈ x :: (oods a ++ oods b ++ oods c) by simp [hy]), Same.evo (x := c) fun y hy => hs y (show y ∈ x :: (oods a ++ oods b ++ oods c) by simp [hy])]
  | no => rfl
  | pick c a b => simp only [aop, hs c (by simp [IOp.ods]), hs a (by simp [IOp.ods]), hs b (by simp [IOp.ods])]
  | mv x | box _ x | load _ x | nilck x | un _ x | cint _ x | cid x | cbs x | csb _ x | ifc _ x | fa _ _ _ x | fld _ _ x | ext x _ | lenS x | lenL x | rngS x | nxtS x => simp only [aop, hs x (by simp [IOp.ods])]
  | store _ x y | bin _ x y | eqv _ _ x y | eqb _ x y | eqn _ _ x y | msl _ _ _ _ x y | iaA _ _ _ x y | iaL _ x y | ixA _ _ x y | ixS x y | app _ _ _ x y | appS _ _ x y | cpy _ x y | cpyS x y => simp only [aop, hs x (by simp [IOp.ods]), hs y (by simp [IOp.ods])]

theorem wrId_same {e e' : Env} {o : IOp} (hs : Same e e' o.ods) : wrId e' o = wrId e o := by
  cases o with
  | store sh x y => simp only [wrId, hs x (by simp [IOp.ods])]
  | _ => rfl

theorem rdId_same {e e' : Env} {o : IOp} (hs : Same e e' o.ods) : rdId e' o = rdId e o := by
  cases o with
  | load sh x => simp only [rdId, hs x (by simp [IOp.ods])]
  | slA ar el n x a b c => simp only [rdId, hs x (by simp [IOp.ods])]
  | cbs x => simp only [rdId, hs x (by simp [IOp.ods])]
  | _ => rfl

theorem pureCall_same {e e' : Env} {o : IOp} (hs : Same e e' o.ods) : pureCall p C e' o = pureCall p C e o := by
  cases o with
  | call f xs => simp only [pureCall, hs f (by simp [IOp.ods]), Same.evs fun y hy => hs y (by simp [IOp.ods]; exact .inr hy)]
  | _ => rfl

theorem tms_same (e : Env) (o : IOper) : Same e (e.keep o.tms) o.op.ods := by
  intro x hx
  refine ev_keep fun n hn => ?_
  have := odsTm_mem hx n hn
  simp only [IOper.tms, List.contains_iff_mem, List.mem_append]
  exact .inr this

theorem tms_want (e : Env) (o : IOper) : wantedV (e.keep o.tms) o.guard = wantedV e o.guard := by
  cases hg : o.guard with
  | none => rfl
  | some q =>
    obtain ⟨t, w⟩ := q
    simp only [wantedV]
    rw [Env.get_keep, if_pos]
    simp [IOper.tms, hg, guardTm]
end

/-! ### the words -/

def clsH (b : Bool) (h h' : H) (c : Cls) : Cls := if b then .ge h h' else c
def wantG (e : Env) (g : Option (Nat × Bool)) (A B : Prop) (_ : Tg (A, B) := .mk) : Prop := match g with
  | none => A
  | some (t, w) => getK e t fun x => wantK x w A B
def pairLK (b : Nat) (c : Cls) (i : Nat) (pre : List Cls) (P : Prop) (_ : Tg P := .mk) : Prop := pairOk b c i pre = true ∧ P
def pairK (b : Nat) (c : Cls) (pre : List Cls) (P : Prop) (_ : Tg P := .mk) : Prop := (match c with | .pu => true | _ => pairOk b c 0 pre) = true ∧ P

section
variable (p : Nat → Bool) (C : Orc)
def WD (al : List (Nat × Nat)) (pre : List Cls) (bs : List Nat) (ops : List IOper) (e : Env) (h : H) (Q : Env → H → Prop) : Prop :=
  optK (runD p C al e h ops) fun r => pairsOk pre bs r.1 = true ∧ Q r.2.1 r.2.2
def SD (al : List (Nat × Nat)) (e : Env) (h : H) (o : IOper) (k : V → H → Cls → Prop) : Prop := optK (stepD p C al e h o) fun r => k r.1 r.2.1 r.2.2
def SE (al : List (Nat × Nat)) (e : Env) (h : H) (d : Option Nat) (op : IOp) (ts : List Nat) (k : V → H → Cls → Prop) (_ : Tg k := .mk) : Prop :=
  if alCls op then (match d with | some _ => WO p C op e h fun v h' => k v h' .al | none => False)
  else match wrId e op with
  | some id => WO p C op e h fun v h' => k v h' (.wr id)
  | none => match (if hits al ts then none else pureCall p C e op) with
    | some v => k v h .pu
    | none => WO p C op e h fun v h' => k v h' (if hits al ts then .ge h h' else if isPu op then .pu else match rdId e op with
      | some id => if al.any (fun p => p.2 == id) then .ge h h' else .rd id
      | none => .ge h h')
/-- A call in such a region. -/
def callD (hit : Bool) (f : Nat) (args : List V) (h : H) (k : V → H → Cls → Prop) (_ : Tg k := .mk) : Prop :=
  match (if hit then none else if noRefs p args then (match C f args H.empty with | some (v, _) => if noRefR p v then some v else none | none => none) else none) with
  | some v => k v h .pu
  | none => callK p C f args h fun v h' => k v h' (.ge h h')
end

section
variable {p : Nat → Bool} {C : Orc}

theorem W_drw (ops : List IOper) (bef ks : List Nat) (e : Env) (h : H) (Q : Ex → Env → H → Prop) : W p C (.drw ops bef ks) e h Q = WD p C [] [] bef ops e h fun e' h' => selK e' ks fun e' => Q .norm e' h' := by
  simp only [selK]
  refine propext ⟨fun ⟨n, x, e', h', hx, hq⟩ => ?_, fun hw => ?_⟩
  · cases n with
    | zero => cases hx
    | succ n =>
      rw [exec] at hx
      unfold WD
      cases hr : runD p C [] e h ops with
      | none => rw [hr] at hx; cases hx
      | some r =>
        obtain ⟨cs, e1, h1⟩ := r
        rw [hr] at hx
        simp only at hx
        split at hx
        · rename_i hp; cases hx; exact ⟨hp, hq⟩
        · cases hx
  · unfold WD at hw
    cases hr : runD p C [] e h ops with
    | none => rw [hr] at hw; exact hw.elim
    | some r =>
      obtain ⟨cs, e1, h1⟩ := r
      rw [hr] at hw
      exact ⟨1, _, _, _, by rw [exec, hr]; simp only [hw.1, if_true], hw.2⟩

theorem WD_nil (al : List (Nat × Nat)) (pre : List Cls) (e : Env) (h : H) (Q : Env → H → Prop) : WD p C al pre [] [] e h Q = Q e h := by
  unfold WD; simp [runD, optK, pairsOk]
theorem WD_cons (al : List (Nat × Nat)) (pre : List Cls) (b : Nat) (bs : List Nat) (o : IOper) (r : List IOper) (e : Env) (h : H) (Q : Env → H → Prop) : WD p C al pre (b :: bs) (o :: r) e h Q =
    SD p C al e h o fun v h' c => pairK b c pre (WD p C (alNext al h o.dst c) (pre ++ [c]) bs r (e.putO o.dst v) h' Q) := by
  unfold WD SD pairK; simp only [runD]
  cases stepD p C al e h o with
  | none => rfl
  | some s =>
    obtain ⟨v, h', c⟩ := s
    simp only [optK_some]
    cases runD p C (alNext al h o.dst c) (e.putO o.dst v) h' r with
    | none => simp [optK]
    | some t =>
      obtain ⟨cs, e2, h2⟩ := t
      simp only [optK_some, pairsOk, Bool.and_eq_true, and_assoc]
      rfl

theorem SD_eq (al : List (Nat × Nat)) (e : Env) (h : H) (d : Option Nat) (op : IOp) (g : Option (Nat × Bool)) (k : V → H → Cls → Prop) : SD p C al e h ⟨d, op, g⟩ k =
    guardK ((hits al d.toList || hits al (guardTm g)) = false) (wantG e g (SE p C al e h d op (guardTm g ++ odsTm op.ods) k) (k unit h .pu)) := by
  have key : (optK (if alCls op = true then (match d, aop p C e h op with | some _, some (v, h') => some (v, h', Cls.al) | _, _ => none)
      else match wrId e op with
      | some id => match aop p C e h op with | some (v, h') => some (v, h', Cls.wr id) | none => none
      | none => match (if hits al (IOper.tms ⟨d, op, g⟩) = true then none else pureCall p C e op) with
        | some v => some (v, h, Cls.pu)
        | none => match aop p C e h op with
          | some (v, h') => if hits al (IOper.tms ⟨d, op, g⟩) = true then some (v, h', Cls.ge h h') else if isPu op = true then some (v, h', Cls.pu) else match rdId e op with
            | some id => if al.any (fun p => p.2 == id) = true then some (v, h', Cls.ge h h') else some (v, h', Cls.rd id)
            | none => some (v, h', Cls.ge h h')
          | none => none) fun r => k r.1 r.2.1 r.2.2) = SE p C al e h d op (guardTm g ++ odsTm op.ods) k := by
    have e1 : IOper.tms ⟨d, op, g⟩ = guardTm g ++ odsTm op.ods := rfl
    rw [e1]; unfold SE WO
    by_cases h1 : alCls op = true
    · rw [if_pos h1, if_pos h1]
      cases d with
      | none => rfl
      | some d => cases aop p C e h op <;> rfl
    · rw [if_neg h1, if_neg h1]
      cases wrId e op with
      | some id => cases aop p C e h op <;> rfl
      | none =>
        simp only
        cases (if hits al (guardTm g ++ odsTm op.ods) = true then none else pureCall p C e op) with
        | some v => rfl
        | none =>
          simp only
          cases aop p C e h op with
          | none => rfl
          | some r =>
            obtain ⟨v, h'⟩ := r
            simp only [optK_some]
            by_cases h2 : hits al (guardTm g ++ odsTm op.ods) = true
            · simp only [h2, if_true]; rfl
            · simp only [h2]
              by_cases h3 : isPu op = true
              · simp only [h3, if_true]; rfl
              · simp only [h3]
                cases rdId e op with
                | none => rfl
                | some id =>
                  simp only
                  by_cases h4 : al.any (fun p => p.2 == id) = true
                  · simp only [h4, if_true]; rfl
                  · simp only [h4]; rfl
  have hsame := tms_same e ⟨d, op, g⟩
  have hw := tms_want e ⟨d, op, g⟩
  unfold SD guardK
  simp only [stepD, hw, aop_same hsame, wrId_same hsame, rdId_same hsame, pureCall_same hsame]
  by_cases h0 : (hits al d.toList || hits al (guardTm g)) = true
  · rw [if_pos h0]
    simp [h0, optK]
  · rw [if_neg h0]
    have h0' : (hits al d.toList || hits al (guardTm g)) = false := by simpa using h0
    simp only [h0', true_and]
    unfold wantG
    cases g with
    | none => simp only [wantedV]; exact key
    | some q =>
      obtain ⟨t, w⟩ := q
      simp only [wantedV, getK]
      cases e.get t with
      | none => rfl
      | some x =>
        cases x with
        | b x =>
          simp only [optK_some, wantK]
          by_cases hx : x = w
          · subst hx; simp only [beq_self_eq_true, if_true]; exact key
          · have : (x == w) = false := by simpa using hx
            simp only [this, hx, if_false]; rfl
        | tup l => rfl
        | _ => rfl

theorem SE_pure {al : List (Nat × Nat)} {e : Env} {h : H} {d : Option Nat} {op : IOp} {ts : List Nat} {k : V → H → Cls → Prop}
    (h1 : isPu op = true) (h2 : alCls op = false) (h3 : wrId e op = none) (h4 : pureCall p C e op = none) : SE p C al e h d op ts k = WO p C op e h fun v h' => k v h' (clsH (hits al ts) h h' .pu) := by
  unfold SE clsH
  rw [if_neg (by simp [h2]), h3]
  simp only [h4, ite_self, h1, if_true]

theorem SE_other {al : List (Nat × Nat)} {e : Env} {h : H} {d : Option Nat} {op : IOp} {ts : List Nat} {k : V → H → Cls → Prop}
    (h1 : isPu op = false) (h2 : alCls op = false) (h3 : wrId e op = none) (h4 : pureCall p C e op = none) (h5 : rdId e op = none) : SE p C al e h d op ts k = WO p C op e h fun v h' => k v h' (.ge h h') := by
  unfold SE
  rw [if_neg (by simp [h2]), h3]
  simp only [h4, ite_self, h1, h5, Bool.false_eq_true, if_false]

variable (al : List (Nat × Nat)) (e : Env) (h : H) (d : Option Nat) (ts : List Nat) (k : V → H → Cls → Prop)
theorem SE_mv (x : Od) : SE p C al e h d (.mv x) ts k = WO p C (.mv x) e h fun v h' => k v h' (clsH (hits al ts) h h' .pu) := SE_pure rfl rfl rfl rfl
theorem SE_pick (a b c : Od) : SE p C al e h d (.pick a b c) ts k = WO p C (.pick a b c) e h fun v h' => k v h' (clsH (hits al ts) h h' .pu) := SE_pure rfl rfl rfl rfl
theorem SE_build (a : Nat) (z : List V) (ps : List (Nat × Od)) : SE p C al e h d (.build a z ps) ts k = WO p C (.build a z ps) e h fun v h' => k v h' (clsH (hits al ts) h h' .pu) := SE_pure rfl rfl rfl rfl
theorem SE_nilck (x : Od) : SE p C al e h d (.nilck x) ts k = WO p C (.nilck x) e h fun v h' => k v h' (clsH (hits al ts) h h' .pu) := SE_pure rfl rfl rfl rfl
theorem SE_bin (o : BinOp) (x y : Od) : SE p C al e h d (.bin o x y) ts k = WO p C (.bin o x y) e h fun v h' => k v h' (clsH (hits al ts) h h' .pu) := SE_pure rfl rfl rfl rfl
theorem SE_eqv (a : Nat) (b : Bool) (x y : Od) : SE p C al e h d (.eqv a b x y) ts k = WO p C (.eqv a b x y) e h fun v h' => k v h' (clsH (hits al ts) h h' .pu) := SE_pure rfl rfl rfl rfl
theorem SE_eqb (b : Bool) (x y : Od) : SE p C al e h d (.eqb b x y) ts k = WO p C (.eqb b x y) e h fun v h' => k v h' (clsH (hits al ts) h h' .pu) := SE_pure rfl rfl rfl rfl
theorem SE_eqn (a : Nat) (b : Bool) (x y : Od) : SE p C al e h d (.eqn a b x y) ts k = WO p C (.eqn a b x y) e h fun v h' => k v h' (clsH (hits al ts) h h' .pu) := SE_pure rfl rfl rfl rfl
theorem SE_un (o : UnOp) (x : Od) : SE p C al e h d (.un o x) ts k = WO p C (.un o x) e h fun v h' => k v h' (clsH (hits al ts) h h' .pu) := SE_pure rfl rfl rfl rfl
theorem SE_cint (t : IntKind) (x : Od) : SE p C al e h d (.cint t x) ts k = WO p C (.cint t x) e h fun v h' => k v h' (clsH (hits al ts) h h' .pu) := SE_pure rfl rfl rfl rfl
theorem SE_cid (x : Od) : SE p C al e h d (.cid x) ts k = WO p C (.cid x) e h fun v h' => k v h' (clsH (hits al ts) h h' .pu) := SE_pure rfl rfl rfl rfl
theorem SE_ifc (a : Nat) (x : Od) : SE p C al e h d (.ifc a x) ts k = WO p C (.ifc a x) e h fun v h' => k v h' (clsH (hits al ts) h h' .pu) := SE_pure rfl rfl rfl rfl
theorem SE_mkf (a : Nat) (xs : List Od) : SE p C al e h d (.mkf a xs) ts k = WO p C (.mkf a xs) e h fun v h' => k v h' (clsH (hits al ts) h h' .pu) := SE_pure rfl rfl rfl rfl
theorem SE_slS (x : Od) (a b : Option Od) : SE p C al e h d (.slS x a b) ts k = WO p C (.slS x a b) e h fun v h' => k v h' (clsH (hits al ts) h h' .pu) := SE_pure rfl rfl rfl rfl
theorem SE_slL (n : Nat) (x : Od) (a b c : Option Od) : SE p C al e h d (.slL n x a b c) ts k = WO p C (.slL n x a b c) e h fun v h' => k v h' (clsH (hits al ts) h h' .pu) := SE_pure rfl rfl rfl rfl
theorem SE_fa (a b c : Nat) (x : Od) : SE p C al e h d (.fa a b c x) ts k = WO p C (.fa a b c x) e h fun v h' => k v h' (clsH (hits al ts) h h' .pu) := SE_pure rfl rfl rfl rfl
theorem SE_fld (a b : Nat) (x : Od) : SE p C al e h d (.fld a b x) ts k = WO p C (.fld a b x) e h fun v h' => k v h' (clsH (hits al ts) h h' .pu) := SE_pure rfl rfl rfl rfl
theorem SE_iaA (a b c : Nat) (x y : Od) : SE p C al e h d (.iaA a b c x y) ts k = WO p C (.iaA a b c x y) e h fun v h' => k v h' (clsH (hits al ts) h h' .pu) := SE_pure rfl rfl rfl rfl
theorem SE_iaL (a : Nat) (x y : Od) : SE p C al e h d (.iaL a x y) ts k = WO p C (.iaL a x y) e h fun v h' => k v h' (clsH (hits al ts) h h' .pu) := SE_pure rfl rfl rfl rfl
theorem SE_ixA (a b : Nat) (x y : Od) : SE p C al e h d (.ixA a b x y) ts k = WO p C (.ixA a b x y) e h fun v h' => k v h' (clsH (hits al ts) h h' .pu) := SE_pure rfl rfl rfl rfl
theorem SE_ixS (x y : Od) : SE p C al e h d (.ixS x y) ts k = WO p C (.ixS x y) e h fun v h' => k v h' (clsH (hits al ts) h h' .pu) := SE_pure rfl rfl rfl rfl
theorem SE_ext (x : Od) (i : Nat) : SE p C al e h d (.ext x i) ts k = WO p C (.ext x i) e h fun v h' => k v h' (clsH (hits al ts) h h' .pu) := SE_pure rfl rfl rfl rfl
theorem SE_lenS (x : Od) : SE p C al e h d (.lenS x) ts k = WO p C (.lenS x) e h fun v h' => k v h' (clsH (hits al ts) h h' .pu) := SE_pure rfl rfl rfl rfl
theorem SE_lenL (x : Od) : SE p C al e h d (.lenL x) ts k = WO p C (.lenL x) e h fun v h' => k v h' (clsH (hits al ts) h h' .pu) := SE_pure rfl rfl rfl rfl
theorem SE_mx (xs : List Od) : SE p C al e h d (.mx xs) ts k = WO p C (.mx xs) e h fun v h' => k v h' (clsH (hits al ts) h h' .pu) := SE_pure rfl rfl rfl rfl
theorem SE_mn (xs : List Od) : SE p C al e h d (.mn xs) ts k = WO p C (.mn xs) e h fun v h' => k v h' (clsH (hits al ts) h h' .pu) := SE_pure rfl rfl rfl rfl
theorem SE_bsl (a b : Nat) (z : V) (n : Nat) (ps : List (Nat × Od)) : SE p C al e h d (.bsl a b z n ps) ts k = WO p C (.bsl a b z n ps) e h fun v h' => k v h' (.ge h h') := SE_other rfl rfl rfl rfl rfl
theorem SE_boxt (a : Nat) (n : Nat) : SE p C al e h d (.box a (.t n)) ts k = WO p C (.box a (.t n)) e h fun v h' => k v h' (.ge h h') := SE_other rfl rfl rfl rfl rfl
theorem SE_app (a b c : Nat) (x y : Od) : SE p C al e h d (.app a b c x y) ts k = WO p C (.app a b c x y) e h fun v h' => k v h' (.ge h h') := SE_other rfl rfl rfl rfl rfl
theorem SE_appS (a b : Nat) (x y : Od) : SE p C al e h d (.appS a b x y) ts k = WO p C (.appS a b x y) e h fun v h' => k v h' (.ge h h') := SE_other rfl rfl rfl rfl rfl
theorem SE_csb (a : Nat) (x : Od) : SE p C al e h d (.csb a x) ts k = WO p C (.csb a x) e h fun v h' => k v h' (.ge h h') := SE_other rfl rfl rfl rfl rfl
theorem SE_msl (a b : Nat) (z : V) (c : Nat) (x y : Od) : SE p C al e h d (.msl a b z c x y) ts k = WO p C (.msl a b z c x y) e h fun v h' => k v h' (.ge h h') := SE_other rfl rfl rfl rfl rfl
theorem SE_cpy (a : Nat) (x y : Od) : SE p C al e h d (.cpy a x y) ts k = WO p C (.cpy a x y) e h fun v h' => k v h' (.ge h h') := SE_other rfl rfl rfl rfl rfl
theorem SE_cpyS (x y : Od) : SE p C al e h d (.cpyS x y) ts k = WO p C (.cpyS x y) e h fun v h' => k v h' (.ge h h') := SE_other rfl rfl rfl rfl rfl
theorem SE_boxc (a n : Nat) (z : V) (hz : (noId z && z.sh == a) = true) : SE p C al e h (some n) (.box a (.c z)) ts k = guardK (z.isTup = false) (k (.ptr h.n 0 [] a) (h.push (.cells z false false)) .al) := by
  have h2 : z.sh = a := by simp at hz; exact hz.2
  unfold SE
  rw [if_pos (show alCls (.box a (.c z)) = true from hz)]
  simp only [WO_box, evK_c, guardK, h2, true_and]
theorem SE_load (sh : Nat) (a : Od) : SE p C al e h d (.load sh a) ts k = evK e a fun v => ptrK v fun id st q sh' => guardK (sh' = sh) (readK h id st q fun v => k v h (clsH (hits al ts) h h (clsH (al.any fun p => p.2 == id) h h (.rd id)))) := by
  unfold SE
  simp only [alCls, wrId, pureCall, ite_self, WO_load, rdId, isPu, Bool.false_eq_true, if_false]
  unfold evK
  cases ev e a with
  | none => rfl
  | some v =>
    cases v with
    | ptr id st q sh' => simp only [optK_some, loadK, ptrK, clsH]
    | _ => rfl
theorem SE_store (sh : Nat) (a x : Od) : SE p C al e h d (.store sh a x) ts k = evK e a fun a => evK e x fun x => ptrK a fun id _ _ _ => storeK sh h a x fun h' => k unit h' (.wr id) := by
  have h0 : pureCall p C e (.store sh a x) = none := rfl
  unfold SE
  simp only [alCls, wrId, WO_store, Bool.false_eq_true, if_false, h0, ite_self]
  unfold evK
  cases ev e a with
  | none => rfl
  | some v =>
    cases ev e x with
    | none => cases v <;> rfl
    | some y => cases v <;> rfl
theorem SE_call (f : Od) (args : List Od) : SE p C al e h d (.call f args) ts k = evK e f fun fv => evsK e args fun vs => fnK fv fun f caps => callD p C (hits al ts) f (vs ++ caps) h k := by
  unfold SE callD
  simp only [alCls, wrId, WO_call, pureCall, isPu, rdId, ite_self, Bool.false_eq_true, if_false]
  unfold evK evsK
  cases ev e f with
  | none => simp [optK]
  | some v =>
    cases evs e args with
    | none => cases v <;> simp [optK]
    | some l =>
      cases v with
      | fn g caps => simp only [optK_some, fnK]; rfl
      | _ => simp [optK, fnK]

theorem callD_pure {f : Nat} {args : List V} {v : V} (hr : Runs C f args H.empty fun v' _ => v' = v) (ha : noRefs p args = true) (hv : noRefR p v = true) : callD p C false f args h k = k v h .pu := by
  unfold Runs at hr
  unfold callD
  cases hc : C f args H.empty with
  | none => rw [hc] at hr; exact hr.elim
  | some r => obtain ⟨v', h'⟩ := r; rw [hc] at hr; cases hr; simp only [ha, hv, if_true, Bool.false_eq_true, if_false]
theorem callD_refs {f : Nat} {args : List V} (ha : noRefs p args = false) : callD p C false f args h k = Runs C f args h fun v h' => k v h' (.ge h h') := by
  unfold callD; simp only [ha, Bool.false_eq_true, if_false]; exact callK_refs ha
theorem callD_new {f : Nat} {args : List V} (hr : Runs C f args H.empty fun v _ => noRefR p v = false) : callD p C false f args h k = Runs C f args h fun v h' => k v h' (.ge h h') := by
  unfold callD
  rw [callK_new hr]
  unfold Runs at hr
  cases hc : C f args H.empty with
  | none => rw [hc] at hr; exact hr.elim
  | some r =>
    obtain ⟨v', h'⟩ := r; rw [hc] at hr
    simp only [optK_some] at hr
    simp only [hr, Bool.false_eq_true, if_false, ite_self]

theorem clsH_false (h h' : H) (c : Cls) : clsH false h h' c = c := rfl
theorem clsH_true (h h' : H) (c : Cls) : clsH true h h' c = .ge h h' := rfl
theorem hits_nil (ts : List Nat) : hits [] ts = false := rfl
def memN (l : List Nat) (a : Nat) : Bool := l.contains a
theorem memN_nil (a : Nat) : memN [] a = false := rfl
theorem memN_cons (x a : Nat) (l : List Nat) : memN (x :: l) a = (decide (a = x) || memN l a) := by unfold memN; rw [List.contains_cons, Bool.beq_eq_decide_eq]
theorem hits_cons (a b : Nat) (l : List (Nat × Nat)) (ts : List Nat) : hits ((a, b) :: l) ts = (memN ts a || hits l ts) := rfl
theorem odsTm_nil : odsTm [] = [] := rfl
theorem odsTm_t (n : Nat) (l : List Od) : odsTm (.t n :: l) = n :: odsTm l := rfl
theorem odsTm_c (v : V) (l : List Od) : odsTm (.c v :: l) = odsTm l := rfl
theorem odsTm_f (f : Nat) (l : List Od) : odsTm (.f f :: l) = odsTm l := rfl
theorem ods_mv (x : Od) : (IOp.mv x).ods = [x] := rfl
theorem ods_load (s : Nat) (x : Od) : (IOp.load s x).ods = [x] := rfl
theorem ods_ext (x : Od) (i : Nat) : (IOp.ext x i).ods = [x] := rfl
theorem ods_un (o : UnOp) (x : Od) : (IOp.un o x).ods = [x] := rfl
theorem ods_bin (o : BinOp) (x y : Od) : (IOp.bin o x y).ods = [x, y] := rfl
theorem ods_pick (x y z : Od) : (IOp.pick x y z).ods = [x, y, z] := rfl
theorem ods_fa (a b c : Nat) (x : Od) : (IOp.fa a b c x).ods = [x] := rfl
theorem ods_fld (a b : Nat) (x : Od) : (IOp.fld a b x).ods = [x] := rfl
theorem ods_iaA (a b c : Nat) (x y : Od) : (IOp.iaA a b c x y).ods = [x, y] := rfl
theorem ods_iaL (a : Nat) (x y : Od) : (IOp.iaL a x y).ods = [x, y] := rfl
theorem ods_lenL (x : Od) : (IOp.lenL x).ods = [x] := rfl
theorem ods_lenS (x : Od) : (IOp.lenS x).ods = [x] := rfl
theorem ods_call (f : Od) (l : List Od) : (IOp.call f l).ods = f :: l := rfl
theorem ods_cint (k : IntKind) (x : Od) : (IOp.cint k x).ods = [x] := rfl
theorem alany_nil (id : Nat) : (([] : List (Nat × Nat)).any fun p => p.2 == id) = false := rfl
theorem alany_cons (a b id : Nat) (l : List (Nat × Nat)) : (((a, b) :: l).any fun p => p.2 == id) = (decide (b = id) || l.any fun p => p.2 == id) := by simp [List.any_cons]; rfl
theorem wantG_none (e : Env) (A B : Prop) : wantG e none A B = A := rfl
theorem wantG_some (e : Env) (t : Nat) (w : Bool) (A B : Prop) : wantG e (some (t, w)) A B = getK e t fun x => wantK x w A B := rfl
theorem guardTm_none : guardTm none = [] := rfl
theorem guardTm_some (t : Nat) (w : Bool) : guardTm (some (t, w)) = [t] := rfl
theorem alNext_pu (d : Option Nat) : alNext al h d .pu = al := rfl
theorem alNext_rd (d : Option Nat) (id : Nat) : alNext al h d (.rd id) = al := rfl
theorem alNext_wr (d : Option Nat) (id : Nat) : alNext al h d (.wr id) = al := rfl
theorem alNext_ge (d : Option Nat) (a b : H) : alNext al h d (.ge a b) = al := rfl
theorem alNext_al (d : Nat) : alNext al h (some d) .al = (d, h.n) :: al := rfl
theorem putO_some (d : Nat) (v : V) : e.putO (some d) v = e.put d v := rfl
theorem putO_none (v : V) : e.putO none v = e := rfl
theorem pairK_pu (b : Nat) (pre : List Cls) (P : Prop) : pairK b .pu pre P = P := by simp [pairK]
theorem pairK_rd (b : Nat) (id : Nat) (pre : List Cls) (P : Prop) : pairK b (.rd id) pre P = pairLK b (.rd id) 0 pre P := rfl
theorem pairK_wr (b : Nat) (id : Nat) (pre : List Cls) (P : Prop) : pairK b (.wr id) pre P = pairLK b (.wr id) 0 pre P := rfl
theorem pairK_al (b : Nat) (pre : List Cls) (P : Prop) : pairK b .al pre P = pairLK b .al 0 pre P := rfl
theorem pairK_ge (b : Nat) (a c : H) (pre : List Cls) (P : Prop) : pairK b (.ge a c) pre P = pairLK b (.ge a c) 0 pre P := rfl
theorem pairLK_nil (b : Nat) (c : Cls) (i : Nat) (P : Prop) : pairLK b c i [] P = P := by simp [pairLK, pairOk]
theorem pairLK_cons (b : Nat) (c d : Cls) (i : Nat) (l : List Cls) (P : Prop) : pairLK b c i (d :: l) P = guardK (swapOk d c = true ∨ b.testBit i = true) (pairLK b c (i + 1) l P) := by
  simp only [pairLK, pairOk, guardK, Bool.and_eq_true, Bool.or_eq_true, and_assoc]
theorem swap_pu (c : Cls) : swapOk .pu c = true := rfl
theorem swap_rdrd (a b : Nat) : swapOk (.rd a) (.rd b) = true := rfl
theorem swap_rdwr (a b : Nat) : swapOk (.rd a) (.wr b) = !decide (a = b) := by show (a != b) = _; simp [bne, Bool.beq_eq_decide_eq]
theorem swap_wrrd (a b : Nat) : swapOk (.wr a) (.rd b) = !decide (a = b) := by show (a != b) = _; simp [bne, Bool.beq_eq_decide_eq]
theorem swap_rdge (a : Nat) (h h' : H) : swapOk (.rd a) (.ge h h') = osame (h.get a) (h'.get a) := rfl
theorem swap_gerd (a : Nat) (h h' : H) : swapOk (.ge h h') (.rd a) = osame (h.get a) (h'.get a) := rfl
theorem swap_rdal (a : Nat) : swapOk (.rd a) .al = true := rfl
theorem swap_alrd (a : Nat) : swapOk .al (.rd a) = true := rfl
theorem swap_alal : swapOk .al .al = true := rfl
theorem swap_wral (a : Nat) : swapOk (.wr a) .al = true := rfl
theorem swap_geal (h h' : H) : swapOk (.ge h h') .al = true := rfl

mutual
theorem vsame_refl (v : V) : vsame v v = true := by
  cases v with
  | agg k l => simp [vsame, vsames_refl l]
  | tup l => simp [vsame, vsames_refl l]
  | fn f l => simp [vsame, vsames_refl l]
  | ifc t x => simp [vsame, vsame_refl x]
  | _ => simp [vsame]
  termination_by SizeOf.sizeOf v
theorem vsames_refl (l : List V) : vsames l l = true := by
  cases l with
  | nil => rfl
  | cons x l => simp [vsames, vsame_refl x, vsames_refl l]
  termination_by SizeOf.sizeOf l
end
theorem osame_cells {h h' : H} {a : Nat} {v : V} {g r : Bool} (h1 : h.get a = some (.cells v g r)) (h2 : h'.get a = some (.cells v g r)) : osame (h.get a) (h'.get a) = true := by
  rw [h1, h2]; simp [osame, vsame_refl]

end
end Go.Rae

/- The rules by which 'simp' steps, in two rows. -/
namespace Go.Rae
theorem setV_zero (x a : V) (l : List V) : (x :: l).set 0 a = a :: l := rfl
theorem setV_succ (x a : V) (l : List V) (i : Nat) : (x :: l).set (i + 1) a = x :: l.set i a := rfl
theorem nilN_app (l : List Nat) : [] ++ l = l := rfl
theorem consN_app (a : Nat) (l m : List Nat) : a :: l ++ m = a :: (l ++ m) := rfl
theorem nilV_app (l : List V) : [] ++ l = l := rfl
theorem consV_app (a : V) (l m : List V) : a :: l ++ m = a :: (l ++ m) := rfl
theorem appV_nil (l : List V) : l ++ [] = l := List.append_nil l
theorem getDN_some (a b : Nat) : (some a).getD b = a := rfl
theorem getDN_none (b : Nat) : (none : Option Nat).getD b = b := rfl
theorem beqN_self (a : Nat) : (a == a) = true := by simp
theorem orB_af (a : Bool) : (a || false) = a := by simp
theorem orB_ff (a : Bool) : (false || a) = a := rfl
theorem orB_tt (a : Bool) : (true || a) = true := rfl
theorem optTo_none : (none : Option Nat).toList = [] := rfl
theorem optTo_some (d : Nat) : (some d).toList = [d] := rfl
theorem nE1 (n k : Nat) : (n = n + k) = (k = 0) := propext ⟨fun h => by omega, fun h => by omega⟩
theorem nE2 (n k : Nat) : (n + k = n) = (k = 0) := propext ⟨fun h => by omega, fun h => by omega⟩
theorem nE3 (n a b : Nat) : (n + a = n + b) = (a = b) := propext ⟨fun h => by omega, fun h => by omega⟩
theorem nA (n a b : Nat) : n + a + b = n + (a + b) := Nat.add_assoc n a b
theorem nilC_app (l : List Cls) : [] ++ l = l := rfl
theorem consC_app (a : Cls) (l m : List Cls) : a :: l ++ m = a :: (l ++ m) := rfl
theorem wantK_unit (w : Bool) (A B : Prop) : wantK unit w A B = B := rfl
theorem neI (a b : Int) : (a ≠ b) = ¬ (a = b) := rfl
theorem nZ (n : Nat) : 0 + n = n := Nat.zero_add n
theorem lenV_nil : ([] : List V).length = 0 := rfl
theorem lenV_cons (x : V) (l : List V) : (x :: l).length = l.length + 1 := rfl
theorem dropV_zero (l : List V) : l.drop 0 = l := rfl
theorem dropV_succ (n : Nat) (x : V) (l : List V) : (x :: l).drop (n + 1) = l.drop n := rfl
theorem takeV_zero (l : List V) : l.take 0 = [] := by simp
theorem takeV_succ (n : Nat) (x : V) (l : List V) : (x :: l).take (n + 1) = x :: l.take n := rfl
theorem env0_nil (i : Nat) : env0 i [] = [] := rfl
theorem env0_cons (i : Nat) (v : V) (l : List V) : env0 i (v :: l) = (i, v) :: env0 (i + 1) l := rfl
/-- Rules for what stands at the head. -/
theorem stepR : (((((((∀ {p : Nat → Bool} {C : Orc} (a b : IC) (e : Env) (h : H) (Q : Ex → Env → H → Prop), W p C (a.seq b) e h Q = W p C a e h fun x e' h' => seqK x (Q x e' h') (W p C b e' h' Q)) ∧ (∀ {p : Nat → Bool} {C : Orc} (e : Env) (h : H) (Q : Ex → Env → H → Prop), W p C IC.skip e h Q = Q Ex.norm e h) ∧ ∀ {p : Nat → Bool} {C : Orc} (id : Nat) (e : Env) (h : H) (Q : Ex → Env → H → Prop), W p C (IC.exit id) e h Q = Q (Ex.exit id) e h) ∧ (∀ {p : Nat → Bool} {C : Orc} (id : Nat) (e : Env) (h : H) (Q : Ex → Env → H → Prop), W p C (IC.label id) e h Q = Q Ex.norm e h) ∧ (∀ {p : Nat → Bool} {C : Orc} (id : Nat) (e : Env) (h : H) (Q : Ex → Env → H → Prop), W p C (IC.goto id) e h Q = Q (Ex.goto id) e h) ∧ ∀ {p : Nat → Bool} {C : Orc} (e : Env) (h : H) (Q : Ex → Env → H → Prop), W p C IC.ret e h Q = Q Ex.ret e h) ∧ ((∀ {p : Nat → Bool} {C : Orc} (ops : List IOper) (ks : List Nat) (e : Env) (h : H) (Q : Ex → Env → H → Prop), W p C (IC.reg ops ks) e h Q = WR p C ops e h fun e' h' => selK e' ks fun e' => Q Ex.norm e' h') ∧ (∀ {p : Nat → Bool} {C : Orc} (c : Od) (a b : IC) (e : Env) (h : H) (Q : Ex → Env → H → Prop), W p C (IC.cond c a b) e h Q = evK e c fun v => condK v (W p C a e h Q) (W p C b e h Q)) ∧ ∀ {p : Nat → Bool} {C : Orc} (id : Nat) (a : IC) (e : Env) (h : H) (Q : Ex → Env → H → Prop), W p C (IC.blk id a) e h Q = W p C a e h fun x e' h' => blkK id x (Q Ex.norm e' h') (Q x e' h')) ∧ ((∀ {p : Nat → Bool} {C : Orc} (a : IC) (e : Env) (h : H) (Q : Ex → Env → H → Prop), W p C a.scope e h Q = W p C a e h fun x e' h' => gotoK x (fun l => W p C (a.jump l) e' h' Q) (Q x e' h')) ∧ ∀ {p : Nat → Bool} {C : Orc} (e : Env) (h : H) (Q : Env → H → Prop), WR p C [] e h Q = Q e h) ∧ (∀ {p : Nat → Bool} {C : Orc} (d : Nat) (o : IOp) (r : List IOper) (e : Env) (h : H) (Q : Env → H → Prop), WR p C ({ dst := some d, op := o, guard := none } :: r) e h Q = WO p C o e h fun v h' => WR p C r (e.put d v) h' Q) ∧ ∀ {p : Nat → Bool} {C : Orc} (o : IOp) (r : List IOper) (e : Env) (h : H) (Q : Env → H → Prop), WR p C ({ dst := none, op := o, guard := none } :: r) e h Q = WO p C o e h fun x h' => WR p C r e h' Q) ∧ (((∀ {p : Nat → Bool} {C : Orc} (d t : Nat) (w : Bool) (o : IOp) (r : List IOper) (e : Env) (h : H) (Q : Env → H → Prop), WR p C ({ dst := some d, op := o, guard := some (t, w) } :: r) e h Q = getK e t fun x => wantK x w (WO p C o e h fun v h' => WR p C r (e.put d v) h' Q) (WR p C r (e.put d unit) h Q)) ∧ (∀ {p : Nat → Bool} {C : Orc} (t : Nat) (w : Bool) (o : IOp) (r : List IOper) (e : Env) (h : H) (Q : Env → H → Prop), WR p C ({ dst := none, op := o, guard := some (t, w) } :: r) e h Q = getK e t fun x => wantK x w (WO p C o e h fun x h' => WR p C r e h' Q) (WR p C r e h Q)) ∧ ∀ {p : Nat → Bool} {C : Orc} (e : Env) (h : H) (k : V → H → Prop) (x : Od), WO p C (IOp.mv x) e h k = evK e x fun v => k v h) ∧ (∀ {p : Nat → Bool} {C : Orc} (e : Env) (h : H) (k : V → H → Prop) (c a b : Od), WO p C (IOp.pick c a b) e h k = evK e c fun v => condK v (evK e a fun v => k v h) (evK e b fun v => k v h)) ∧ (∀ {p : Nat → Bool} {C : Orc} (e : Env) (h : H) (k : V → H → Prop) (sh : Nat) (x : Od), WO p C (IOp.box sh x) e h k = evK e x fun v => guardK (v.sh = sh ∧ v.isTup = false) (k (V.ptr h.n 0 [] sh) (h.push (Obj.cells v false false)))) ∧ ∀ {p : Nat → Bool} {C : Orc} (e : Env) (h : H) (k : V → H → Prop) (sh : Nat) (z : List V) (ps : List (Nat × Od)), WO p C (IOp.build sh z ps) e h k = evpK e ps fun l => fillK z l fun l => k (V.agg sh l) h) ∧ ((∀ {p : Nat → Bool} {C : Orc} (e : Env) (h : H) (k : V → H → Prop) (d el : Nat) (z : V) (n : Nat) (ps : List (Nat × Od)), WO p C (IOp.bsl d el z n ps) e h k = evpK e ps fun l => fillK (replK n z) l fun l => k (V.sl h.n 0 [] el 0 n (some n)) (h.push (Obj.cells (V.agg d l) false false))) ∧ (∀ {p : Nat → Bool} {C : Orc} (e : Env) (h : H) (k : V → H → Prop) (sh : Nat) (x : Od), WO p C (IOp.load sh x) e h k = evK e x fun v => loadK sh h v fun v => k v h) ∧ ∀ {p : Nat → Bool} {C : Orc} (e : Env) (h : H) (k : V → H → Prop) (sh : Nat) (a x : Od), WO p C (IOp.store sh a x) e h k = evK e a fun a => evK e x fun x => storeK sh h a x fun h' => k unit h') ∧ ((∀ {p : Nat → Bool} {C : Orc} (e : Env) (h : H) (k : V → H → Prop) (x : Od), WO p C (IOp.nilck x) e h k = evK e x fun v => nckK v fun v => k v h) ∧ ∀ {p : Nat → Bool} {C : Orc} (e : Env) (h : H) (k : V → H → Prop) (op : BinOp) (x y : Od), WO p C (IOp.bin op x y) e h k = evK e x fun a => evK e y fun b => binK op a b fun v => k v h) ∧ (∀ {p : Nat → Bool} {C : Orc} (e : Env) (h : H) (k : V → H → Prop) (sh : Nat) (neg : Bool) (x y : Od), WO p C (IOp.eqv sh neg x y) e h k = evK e x fun a => evK e y fun b => guardK (a.sh = sh ∧ b.sh = sh) (k (V.b (if neg = true then !veq a b else veq a b)) h)) ∧ ∀ {p : Nat → Bool} {C : Orc} (e : Env) (h : H) (k : V → H → Prop) (n : Nat) (neg : Bool) (x y : Od), WO p C (IOp.eqn n neg x y) e h k = evK e x fun a => evK e y fun b => eqnK n a b fun r => k (V.b (if neg = true then !r else r)) h) ∧ ((((∀ {p : Nat → Bool} {C : Orc} (e : Env) (h : H) (k : V → H → Prop) (op : UnOp) (x : Od), WO p C (IOp.un op x) e h k = evK e x fun a => unK op a fun v => k v h) ∧ (∀ {p : Nat → Bool} {C : Orc} (e : Env) (h : H) (k : V → H → Prop) (t : IntKind) (x : Od), WO p C (IOp.cint t x) e h k = evK e x fun a => intK a fun x n => k (V.i t (t.wrap n)) h) ∧ ∀ {p : Nat → Bool} {C : Orc} (e : Env) (h : H) (k : V → H → Prop) (x : Od), WO p C (IOp.cid x) e h k = evK e x fun a => strK a fun l => k (V.s l) h) ∧ (∀ {p : Nat → Bool} {C : Orc} (e : Env) (h : H) (k : V → H → Prop) (x : Od), WO p C (IOp.cbs x) e h k = evK e x fun v => guardK (V.slOf 7 v = true) (elemsK h v fun l => byteK l fun r => k (V.s r) h)) ∧ (∀ {p : Nat → Bool} {C : Orc} (e : Env) (h : H) (k : V → H → Prop) (d : Nat) (x : Od), WO p C (IOp.csb d x) e h k = evK e x fun v => strK v fun l => guardK (l.length ≤ 2 ^ 46) (k (V.sl h.n l.length [] 7 0 l.length none) (h.push (Obj.cells (V.agg d (List.map byteV l)) true false)))) ∧ ∀ {p : Nat → Bool} {C : Orc} (e : Env) (h : H) (k : V → H → Prop) (t : Nat) (x : Od), WO p C (IOp.ifc t x) e h k = evK e x fun v => guardK (v.sc0 = true) (k (V.ifc t v) h)) ∧ ((∀ {p : Nat → Bool} {C : Orc} (e : Env) (h : H) (k : V → H → Prop) (f : Nat) (xs : List Od), WO p C (IOp.mkf f xs) e h k = evsK e xs fun vs => guardK (vs.all V.sc0 = true) (k (V.fn f vs) h)) ∧ (∀ {p : Nat → Bool} {C : Orc} (e : Env) (h : H) (k : V → H → Prop) (d el : Nat) (z : V) (bytes : Nat) (l c : Od), WO p C (IOp.msl d el z bytes l c) e h k = evK e l fun l => evK e c fun c => intK l fun tl l => intK c fun tc c => guardK (tl = IntKind.i64 ∧ tc = IntKind.i64 ∧ 0 ≤ l ∧ l ≤ c ∧ c * (↑bytes : Int) ≤ 2 ^ 46 ∧ c ≤ 2 ^ 46) (k (V.sl h.n 0 [] el 0 l.toNat (some c.toNat)) (h.push (Obj.cells (V.agg d (List.replicate c.toNat z)) false false)))) ∧ ∀ {p : Nat → Bool} {C : Orc} (e : Env) (h : H) (k : V → H → Prop) (x : Od) (lo hi : Option Od), WO p C (IOp.slS x lo hi) e h k = evK e x fun v => evoK e lo fun lo => evoK e hi fun hi => strK v fun l => boundsK l.length (some l.length) lo hi none fun r => k (V.s (List.take (r.snd.fst - r.fst) (List.drop r.fst l))) h) ∧ ((∀ {p : Nat → Bool} {C : Orc} (e : Env) (h : H) (k : V → H → Prop) (el : Nat) (x : Od) (lo hi mx : Option Od), WO p C (IOp.slL el x lo hi mx) e h k = evK e x fun v => evoK e lo fun lo => evoK e hi fun hi => evoK e mx fun mx => slLK el v lo hi mx fun v => k v h) ∧ ∀ {p : Nat → Bool} {C : Orc} (e : Env) (h : H) (k : V → H → Prop) (a el n : Nat) (x : Od) (lo hi mx : Option Od), WO p C (IOp.slA a el n x lo hi mx) e h k = evK e x fun v => evoK e lo fun lo => evoK e hi fun hi => evoK e mx fun mx => ptrK v fun id st q sh => guardK (sh = a ∧ h.isAt id st q a = true) (boundsK n (some n) lo hi mx fun r => k (V.sl id st q el r.fst (r.snd.fst - r.fst) (Option.map (fun m => m - r.fst) r.snd.snd)) h)) ∧ (∀ {p : Nat → Bool} {C : Orc} (e : Env) (h : H) (k : V → H → Prop) (sh i fsh : Nat) (x : Od), WO p C (IOp.fa sh i fsh x) e h k = evK e x fun v => ptrK v fun id st q sh' => guardK (sh' = sh) (k (V.ptr id st (q ++ [i]) fsh) h)) ∧ ∀ {p : Nat → Bool} {C : Orc} (e : Env) (h : H) (k : V → H → Prop) (sh i : Nat) (x : Od), WO p C (IOp.fld sh i x) e h k = evK e x fun v => aggK v fun sh' l => guardK (sh' = sh) (nthK l i fun v => k v h)) ∧ (((∀ {p : Nat → Bool} {C : Orc} (e : Env) (h : H) (k : V → H → Prop) (a el n : Nat) (x i : Od), WO p C (IOp.iaA a el n x i) e h k = evK e x fun v => evK e i fun j => ptrK v fun id st q sh => intK j fun x j => guardK (sh = a ∧ 0 ≤ j ∧ j < (↑n : Int)) (k (V.ptr id st (q ++ [j.toNat]) el) h)) ∧ (∀ {p : Nat → Bool} {C : Orc} (e : Env) (h : H) (k : V → H → Prop) (el : Nat) (x i : Od), WO p C (IOp.iaL el x i) e h k = evK e x fun v => evK e i fun j => intK j fun x j => iaLK el v j fun v => k v h) ∧ ∀ {p : Nat → Bool} {C : Orc} (e : Env) (h : H) (k : V → H → Prop) (a n : Nat) (x i : Od), WO p C (IOp.ixA a n x i) e h k = evK e x fun v => evK e i fun j => intK j fun x j => aggK v fun sh l => guardK (sh = a ∧ 0 ≤ j ∧ j < (↑n : Int)) (nthK l j.toNat fun v => k v h)) ∧ (∀ {p : Nat → Bool} {C : Orc} (e : Env) (h : H) (k : V → H → Prop) (x i : Od), WO p C (IOp.ixS x i) e h k = evK e x fun v => evK e i fun j => intK j fun x j => strK v fun l => guardK (0 ≤ j) (optK l[j.toNat]? fun c => k (byteV c) h)) ∧ (∀ {p : Nat → Bool} {C : Orc} (e : Env) (h : H) (k : V → H → Prop) (x : Od) (i : Nat), WO p C (IOp.ext x i) e h k = evK e x fun v => tupK v fun l => nthK l i fun v => k v h) ∧ ∀ {p : Nat → Bool} {C : Orc} (e : Env) (h : H) (k : V → H → Prop) (f : Od) (args : List Od), WO p C (IOp.call f args) e h k = evK e f fun fv => evsK e args fun vs => fnK fv fun f caps => callK p C f (vs ++ caps) h k) ∧ ((∀ {p : Nat → Bool} {C : Orc} (e : Env) (h : H) (k : V → H → Prop) (x : Od), WO p C (IOp.lenS x) e h k = evK e x fun v => strK v fun l => k (V.i IntKind.i64 (↑l.length : Int)) h) ∧ (∀ {p : Nat → Bool} {C : Orc} (e : Env) (h : H) (k : V → H → Prop) (x : Od), WO p C (IOp.lenL x) e h k = evK e x fun v => lenLK v fun v => k v h) ∧ ∀ {p : Nat → Bool} {C : Orc} (e : Env) (h : H) (k : V → H → Prop) (d el bytes : Nat) (x y : Od), WO p C (IOp.app d el bytes x y) e h k = evK e x fun a => evK e y fun b => guardK (V.slOf el b = true) (elemsK h b fun ys => appK h d el bytes a ys k)) ∧ ((∀ {p : Nat → Bool} {C : Orc} (e : Env) (h : H) (k : V → H → Prop) (d bytes : Nat) (x y : Od), WO p C (IOp.appS d bytes x y) e h k = evK e x fun a => evK e y fun b => strK b fun l => appK h d 7 bytes a (List.map byteV l) k) ∧ ∀ {p : Nat → Bool} {C : Orc} (e : Env) (h : H) (k : V → H → Prop) (el : Nat) (x y : Od), WO p C (IOp.cpy el x y) e h k = evK e x fun a => evK e y fun b => guardK (V.slOf el a = true ∧ V.slOf el b = true) (elemsK h a fun xs => elemsK h b fun ys => layK h a (List.take (min ys.length xs.length) ys) fun h' => k (V.i IntKind.i64 (↑(min ys.length xs.length) : Int)) h')) ∧ (∀ {p : Nat → Bool} {C : Orc} (e : Env) (h : H) (k : V → H → Prop) (x y : Od), WO p C (IOp.cpyS x y) e h k = evK e x fun a => evK e y fun b => strK b fun l => guardK (V.slOf 7 a = true) (elemsK h a fun xs => layK h a (List.map byteV (List.take (min l.length xs.length) l)) fun h' => k (V.i IntKind.i64 (↑(min l.length xs.length) : Int)) h')) ∧ ∀ {p : Nat → Bool} {C : Orc} (e : Env) (h : H) (k : V → H → Prop) (xs : List Od), WO p C (IOp.mx xs) e h k = evsK e xs fun vs => optK (maxI vs) fun v => k v h) ∧ (((((∀ {p : Nat → Bool} {C : Orc} (e : Env) (h : H) (k : V → H → Prop) (xs : List Od), WO p C (IOp.mn xs) e h k = evsK e xs fun vs => optK (minI vs) fun v => k v h) ∧ (∀ {p : Nat → Bool} {C : Orc} (e : Env) (h : H) (k : V → H → Prop) (x : Od), WO p C (IOp.rngS x) e h k = evK e x fun v => strK v fun l => k (V.ptr h.n 0 [] 65535) (h.push (Obj.iter l 0))) ∧ ∀ (e : Env) (n : Nat) (k : V → Prop), evK e (Od.t n) k = getK e n k) ∧ (∀ (e : Env) (v : V) (k : V → Prop), evK e (Od.c v) k = k v) ∧ (∀ (e : Env) (f : Nat) (k : V → Prop), evK e (Od.f f) k = k (V.fn f [])) ∧ ∀ (e : Env) (k : Option V → Prop), evoK e none k = k none) ∧ ((∀ (e : Env) (o : Od) (k : Option V → Prop), evoK e (some o) k = evK e o fun v => k (some v)) ∧ (∀ (e : Env) (k : List V → Prop), evsK e [] k = k []) ∧ ∀ (e : Env) (o : Od) (l : List Od) (k : List V → Prop), evsK e (o :: l) k = evK e o fun v => guardK (v.isTup = false) (evsK e l fun vs => k (v :: vs))) ∧ ((∀ (e : Env) (k : List (Nat × V) → Prop), evpK e [] k = k []) ∧ ∀ (e : Env) (i : Nat) (o : Od) (l : List (Nat × Od)) (k : List (Nat × V) → Prop), evpK e ((i, o) :: l) k = evK e o fun v => guardK (v.isTup = false) (evpK e l fun vs => k ((i, v) :: vs))) ∧ (∀ (e : Env) (m : Nat) (v : V) (n : Nat) (k : V → Prop), getK (e.put m v) n k = if m = n then k v else getK e n k) ∧ ∀ (e : Env) (ks : List Nat) (n : Nat) (k : V → Prop), getK (e.keep ks) n k = keepK ks n (getK e n k)) ∧ (((∀ (n : Nat) (k : V → Prop), getK [] n k = False) ∧ (∀ (e : Env) (m : Nat) (v : V) (n : Nat) (k : V → Prop), getK ((m, v) :: e) n k = if m = n then k v else getK e n k) ∧ ∀ (m : Nat) (l : List Nat) (n : Nat) (P : Prop), keepK (m :: l) n P = if m = n then P else keepK l n P) ∧ (∀ (A B : Prop), condK (V.b true) A B = A) ∧ (∀ (A B : Prop), condK (V.b false) A B = B) ∧ ∀ (x : Bool) (A B : Prop), condK (V.b !x) A B = condK (V.b x) B A) ∧ ((∀ (A B : Prop), wantK (V.b true) true A B = A) ∧ (∀ (A B : Prop), wantK (V.b true) false A B = B) ∧ ∀ (A B : Prop), wantK (V.b false) true A B = B) ∧ ((∀ (A B : Prop), wantK (V.b false) false A B = A) ∧ ∀ (l : List V) (w : Bool) (A B : Prop), wantK (V.tup l) w A B = B) ∧ (∀ (x : Bool) (A B : Prop), wantK (V.b x) true A B = condK (V.b x) A B) ∧ ∀ (x : Bool) (A B : Prop), wantK (V.b x) false A B = condK (V.b x) B A) ∧ ((((∀ (A B : Prop), seqK Ex.norm A B = B) ∧ (∀ (i : Nat) (A B : Prop), seqK (Ex.exit i) A B = A) ∧ ∀ (i : Nat) (A B : Prop), seqK (Ex.goto i) A B = A) ∧ (∀ (A B : Prop), seqK Ex.ret A B = A) ∧ (∀ (i : Nat) (A B : Prop), blkK i Ex.norm A B = B) ∧ ∀ (i j : Nat) (A B : Prop), blkK i (Ex.exit j) A B = if j = i then A else B) ∧ ((∀ (i j : Nat) (A B : Prop), blkK i (Ex.goto j) A B = B) ∧ (∀ (i : Nat) (A B : Prop), blkK i Ex.ret A B = B) ∧ ∀ (A : Nat → Prop) (B : Prop), gotoK Ex.norm A B = B) ∧ ((∀ (j : Nat) (A : Nat → Prop) (B : Prop), gotoK (Ex.exit j) A B = B) ∧ ∀ (j : Nat) (A : Nat → Prop) (B : Prop), gotoK (Ex.goto j) A B = A j) ∧ (∀ (A : Nat → Prop) (B : Prop), gotoK Ex.ret A B = B) ∧ ∀ (A : Prop), endK Ex.norm A = A) ∧ (((∀ (A : Prop), endK Ex.ret A = A) ∧ (∀ (x : V) (l : List V) (k : V → Prop), nthK (x :: l) 0 k = k x) ∧ ∀ (x : V) (l : List V) (n : Nat) (k : V → Prop), nthK (x :: l) (n + 1) k = nthK l n k) ∧ ((∀ (v : V) (k : V → Prop), subK v [] k = k v) ∧ ∀ (s : Nat) (l : List V) (i : Nat) (q : List Nat) (k : V → Prop), subK (V.agg s l) (i :: q) k = nthK l i fun x => subK x q k) ∧ (∀ (v x : V) (k : V → Prop), putK v [] x k = guardK (v.sh = x.sh) (k x)) ∧ ∀ (s : Nat) (l : List V) (i : Nat) (q : List Nat) (x : V) (k : V → Prop), putK (V.agg s l) (i :: q) x k = nthK l i fun y => putK y q x fun z => k (V.agg s (l.set i z))) ∧ ((∀ (l : List V) (k : List V → Prop), fillK l [] k = k l) ∧ (∀ (l : List V) (i : Nat) (x : V) (r : List (Nat × V)) (k : List V → Prop), fillK l ((i, x) :: r) k = nthK l i fun y => guardK (y.sh = x.sh) (fillK (l.set i x) r k)) ∧ ∀ (h : H) (o : Obj) (id : Nat) (k : Obj → Prop), objK (h.push o) id k = if id = h.n then k o else objK h id k) ∧ ((∀ (h : H) (i : Nat) (o : Obj) (id : Nat) (k : Obj → Prop), h.has i → objK (h.set i o) id k = if id = i then k o else objK h id k) ∧ ∀ (h : H) (id st : Nat) (q : List Nat) (x : V) (k : H → Prop), writeK h id st q x k = objK h id fun o => wcellK o st q x fun o' => k (h.set id o')) ∧ (∀ (v : V) (g : Bool) (st i : Nat) (q : List Nat) (x : V) (k : Obj → Prop), wcellK (Obj.cells v g false) st (i :: q) x k = guardK (stampOf (Obj.cells v g false) = st) (putK v (i :: q) x fun v' => k (Obj.cells v' g false))) ∧ ∀ (v : V) (st : Nat) (x : V) (k : Obj → Prop), wcellK (Obj.cells v false false) st [] x k = guardK (stampOf (Obj.cells v false false) = st) (putK v [] x fun v' => k (Obj.cells v' false false))) ∧ ((((((∀ (h : H) (id st : Nat) (q : List Nat) (k : V → Prop), readK h id st q k = objK h id fun o => cellsK o st fun v => subK v q k) ∧ (∀ (v : V) (g r : Bool) (st : Nat) (k : V → Prop), cellsK (Obj.cells v g r) st k = guardK (stampOf (Obj.cells v g r) = st) (k v)) ∧ ∀ (sh : Nat) (h : H) (id st : Nat) (q : List Nat) (sh' : Nat) (k : V → Prop), loadK sh h (V.ptr id st q sh') k = guardK (sh' = sh) (readK h id st q k)) ∧ (∀ (sh : Nat) (h : H) (id st : Nat) (q : List Nat) (sh' : Nat) (x : V) (k : H → Prop), storeK sh h (V.ptr id st q sh') x k = guardK (sh' = sh ∧ x.sh = sh ∧ x.isTup = false) (writeK h id st q x k)) ∧ (∀ (t : IntKind) (n : Int) (k : IntKind → Int → Prop), intK (V.i t n) k = k t n) ∧ ∀ (l : List UInt8) (k : List UInt8 → Prop), strK (V.s l) k = k l) ∧ ((∀ (f : Nat) (c : List V) (k : Nat → List V → Prop), fnK (V.fn f c) k = k f c) ∧ (∀ (l : List V) (k : List V → Prop), tupK (V.tup l) k = k l) ∧ ∀ (a b : Nat) (c : List Nat) (d : Nat) (k : V → Prop), nckK (V.ptr a b c d) k = k (V.ptr a b c d)) ∧ ((∀ (a : Nat) (x : V) (k : V → Prop), nckK (V.ifc a x) k = k (V.ifc a x)) ∧ ∀ (a : Nat) (x : List V) (k : V → Prop), nckK (V.fn a x) k = k (V.fn a x)) ∧ (∀ (a b : Nat) (c : List Nat) (d : Nat) (k : Nat → Nat → List Nat → Nat → Prop), ptrK (V.ptr a b c d) k = k a b c d) ∧ ∀ (s : Nat) (l : List V) (k : Nat → List V → Prop), aggK (V.agg s l) k = k s l) ∧ (((∀ (el : Nat) (lo hi mx : Option V) (k : V → Prop), slLK el V.nilsl lo hi mx k = boundsK 0 (some 0) lo hi mx fun x => k V.nilsl) ∧ (∀ (el id st : Nat) (path : List Nat) (el' off len : Nat) (cap : Option Nat) (lo hi mx : Option V) (k : V → Prop), slLK el (V.sl id st path el' off len cap) lo hi mx k = guardK (el' = el) (boundsK len cap lo hi mx fun r => k (V.sl id st path el (off + r.fst) (r.snd.fst - r.fst) (Option.map (fun m => m - r.fst) r.snd.snd)))) ∧ ∀ (k : V → Prop), lenLK V.nilsl k = k (V.i IntKind.i64 0)) ∧ (∀ (id st : Nat) (path : List Nat) (el off len : Nat) (cap : Option Nat) (k : V → Prop), lenLK (V.sl id st path el off len cap) k = k (V.i IntKind.i64 (↑len : Int))) ∧ (∀ (el id st : Nat) (path : List Nat) (el' off len : Nat) (cap : Option Nat) (j : Int) (k : V → Prop), iaLK el (V.sl id st path el' off len cap) j k = guardK (el' = el ∧ 0 ≤ j ∧ j < (↑len : Int)) (k (V.ptr id st (path ++ [off + j.toNat]) el))) ∧ ∀ (l : List UInt8) (n : Nat) (k : List UInt8 → Nat → Prop), iterK (Obj.iter l n) k = k l n) ∧ ((∀ (h : H) (k : List V → Prop), elemsK h V.nilsl k = k []) ∧ (∀ (h : H) (id st : Nat) (path : List Nat) (e off len : Nat) (cap : Option Nat) (k : List V → Prop), elemsK h (V.sl id st path e off len cap) k = readK h id st path fun v => aggK v fun x l => guardK (off + len ≤ l.length) (k (List.take len (List.drop off l)))) ∧ ∀ (t : IntKind) (a b : Int) (k : V → Prop), binK BinOp.add (V.i t a) (V.i t b) k = k (V.i t (t.wrap (a + b)))) ∧ ((∀ (t : IntKind) (a b : Int) (k : V → Prop), binK BinOp.sub (V.i t a) (V.i t b) k = k (V.i t (t.wrap (a - b)))) ∧ ∀ (t : IntKind) (a b : Int) (k : V → Prop), binK BinOp.mul (V.i t a) (V.i t b) k = k (V.i t (t.wrap (a * b)))) ∧ (∀ (t : IntKind) (a b : Int) (k : V → Prop), binK BinOp.quo (V.i t a) (V.i t b) k = guardK (b ≠ 0) (k (V.i t (t.wrap (a.tdiv b))))) ∧ ∀ (t : IntKind) (a b : Int) (k : V → Prop), binK BinOp.rem (V.i t a) (V.i t b) k = guardK (b ≠ 0) (k (V.i t (a.tmod b)))) ∧ ((((∀ (t : IntKind) (a b : Int) (k : V → Prop), binK BinOp.eql (V.i t a) (V.i t b) k = k (V.b (decide (a = b)))) ∧ (∀ (t : IntKind) (a b : Int) (k : V → Prop), binK BinOp.neq (V.i t a) (V.i t b) k = k (V.b !decide (a = b))) ∧ ∀ (t : IntKind) (a b : Int) (k : V → Prop), binK BinOp.lss (V.i t a) (V.i t b) k = k (V.b (decide (a < b)))) ∧ (∀ (t : IntKind) (a b : Int) (k : V → Prop), binK BinOp.leq (V.i t a) (V.i t b) k = k (V.b (decide (a ≤ b)))) ∧ (∀ (t : IntKind) (a b : Int) (k : V → Prop), binK BinOp.gtr (V.i t a) (V.i t b) k = k (V.b (decide (b < a)))) ∧ ∀ (t : IntKind) (a b : Int) (k : V → Prop), binK BinOp.geq (V.i t a) (V.i t b) k = k (V.b (decide (b ≤ a)))) ∧ ((∀ (t t' : IntKind) (a b : Int) (k : V → Prop), binK BinOp.shl (V.i t a) (V.i t' b) k = guardK (0 ≤ b) (k (V.i t (t.wrap (a * 2 ^ min b.toNat t.bits))))) ∧ (∀ (t t' : IntKind) (a b : Int) (k : V → Prop), binK BinOp.shr (V.i t a) (V.i t' b) k = guardK (0 ≤ b) (k (V.i t (a.fdiv (2 ^ min b.toNat t.bits))))) ∧ ∀ (t : IntKind) (a b : Int) (k : V → Prop), binK BinOp.and (V.i t a) (V.i t b) k = k (V.i t (bitF BinOp.and t a b))) ∧ ((∀ (t : IntKind) (a b : Int) (k : V → Prop), binK BinOp.or (V.i t a) (V.i t b) k = k (V.i t (bitF BinOp.or t a b))) ∧ ∀ (t : IntKind) (a b : Int) (k : V → Prop), binK BinOp.xor (V.i t a) (V.i t b) k = k (V.i t (bitF BinOp.xor t a b))) ∧ (∀ (t : IntKind) (a b : Int) (k : V → Prop), binK BinOp.andNot (V.i t a) (V.i t b) k = k (V.i t (bitF BinOp.andNot t a b))) ∧ ∀ (a b : List UInt8) (k : V → Prop), binK BinOp.add (V.s a) (V.s b) k = guardK (a.length + b.length < 2 ^ 60) (k (V.s (a ++ b)))) ∧ (((∀ (a b : List UInt8) (k : V → Prop), binK BinOp.eql (V.s a) (V.s b) k = k (V.b (decide (a = b)))) ∧ (∀ (a b : List UInt8) (k : V → Prop), binK BinOp.neq (V.s a) (V.s b) k = k (V.b !decide (a = b))) ∧ ∀ (x : Bool) (k : V → Prop), unK UnOp.not (V.b x) k = k (V.b !x)) ∧ (∀ (t : IntKind) (n : Int) (k : V → Prop), unK UnOp.neg (V.i t n) k = k (V.i t (t.wrap (0 - n)))) ∧ (∀ (e : Env) (h : H) (k : List V → Prop), ressK e h [] k = k []) ∧ ∀ (e : Env) (h : H) (n : Nat) (l : List IRes) (k : List V → Prop), ressK e h (IRes.t n :: l) k = getK e n fun v => guardK (v.isTup = false) (ressK e h l fun vs => k (v :: vs))) ∧ ((∀ (e : Env) (h : H) (n sh : Nat) (l : List IRes) (k : List V → Prop), ressK e h (IRes.c n sh :: l) k = getK e n fun v => loadK sh h v fun v => guardK (v.isTup = false) (ressK e h l fun vs => k (v :: vs))) ∧ (∀ (P : Prop), guardK True P = P) ∧ ∀ {α : Type} (a : α) (k : α → Prop), optK (some a) k = k a) ∧ ((∀ {p : Nat → Bool} {C : Orc} (ops : List IOper) (bef ks : List Nat) (e : Env) (h : H) (Q : Ex → Env → H → Prop), W p C (IC.drw ops bef ks) e h Q = WD p C [] [] bef ops e h fun e' h' => selK e' ks fun e' => Q Ex.norm e' h') ∧ ∀ {p : Nat → Bool} {C : Orc} (al : List (Nat × Nat)) (pre : List Cls) (e : Env) (h : H) (Q : Env → H → Prop), WD p C al pre [] [] e h Q = Q e h) ∧ (∀ {p : Nat → Bool} {C : Orc} (al : List (Nat × Nat)) (pre : List Cls) (b : Nat) (bs : List Nat) (o : IOper) (r : List IOper) (e : Env) (h : H) (Q : Env → H → Prop), WD p C al pre (b :: bs) (o :: r) e h Q = SD p C al e h o fun v h' c => pairK b c pre (WD p C (alNext al h o.dst c) (pre ++ [c]) bs r (e.putO o.dst v) h' Q)) ∧ ∀ {p : Nat → Bool} {C : Orc} (al : List (Nat × Nat)) (e : Env) (h : H) (d : Option Nat) (op : IOp) (g : Option (Nat × Bool)) (k : V → H → Cls → Prop), SD p C al e h { dst := d, op := op, guard := g } k = guardK ((hits al d.toList || hits al (guardTm g)) = false) (wantG e g (SE p C al e h d op (guardTm g ++ odsTm op.ods) k) (k unit h Cls.pu))) ∧ (((((∀ (e : Env) (A B : Prop), wantG e none A B = A) ∧ (∀ (e : Env) (t : Nat) (w : Bool) (A B : Prop), wantG e (some (t, w)) A B = getK e t fun x => wantK x w A B) ∧ ∀ (b : Nat) (pre : List Cls) (P : Prop), pairK b Cls.pu pre P = P) ∧ (∀ (b id : Nat) (pre : List Cls) (P : Prop), pairK b (Cls.rd id) pre P = pairLK b (Cls.rd id) 0 pre P) ∧ (∀ (b id : Nat) (pre : List Cls) (P : Prop), pairK b (Cls.wr id) pre P = pairLK b (Cls.wr id) 0 pre P) ∧ ∀ (b : Nat) (pre : List Cls) (P : Prop), pairK b Cls.al pre P = pairLK b Cls.al 0 pre P) ∧ ((∀ (b : Nat) (a c : H) (pre : List Cls) (P : Prop), pairK b (Cls.ge a c) pre P = pairLK b (Cls.ge a c) 0 pre P) ∧ (∀ (b : Nat) (c : Cls) (i : Nat) (P : Prop), pairLK b c i [] P = P) ∧ ∀ (b : Nat) (c d : Cls) (i : Nat) (l : List Cls) (P : Prop), pairLK b c i (d :: l) P = guardK (swapOk d c = true ∨ b.testBit i = true) (pairLK b c (i + 1) l P)) ∧ ((∀ {p : Nat → Bool} {C : Orc} (al : List (Nat × Nat)) (e : Env) (h : H) (d : Option Nat) (ts : List Nat) (k : V → H → Cls → Prop) (x : Od), SE p C al e h d (IOp.mv x) ts k = WO p C (IOp.mv x) e h fun v h' => k v h' (clsH (hits al ts) h h' Cls.pu)) ∧ ∀ {p : Nat → Bool} {C : Orc} (al : List (Nat × Nat)) (e : Env) (h : H) (d : Option Nat) (ts : List Nat) (k : V → H → Cls → Prop) (a b c : Od), SE p C al e h d (IOp.pick a b c) ts k = WO p C (IOp.pick a b c) e h fun v h' => k v h' (clsH (hits al ts) h h' Cls.pu)) ∧ (∀ {p : Nat → Bool} {C : Orc} (al : List (Nat × Nat)) (e : Env) (h : H) (d : Option Nat) (ts : List Nat) (k : V → H → Cls → Prop) (a : Nat) (z : List V) (ps : List (Nat × Od)), SE p C al e h d (IOp.build a z ps) ts k = WO p C (IOp.build a z ps) e h fun v h' => k v h' (clsH (hits al ts) h h' Cls.pu)) ∧ ∀ {p : Nat → Bool} {C : Orc} (al : List (Nat × Nat)) (e : Env) (h : H) (d : Option Nat) (ts : List Nat) (k : V → H → Cls → Prop) (x : Od), SE p C al e h d (IOp.nilck x) ts k = WO p C (IOp.nilck x) e h fun v h' => k v h' (clsH (hits al ts) h h' Cls.pu)) ∧ (((∀ {p : Nat → Bool} {C : Orc} (al : List (Nat × Nat)) (e : Env) (h : H) (d : Option Nat) (ts : List Nat) (k : V → H → Cls → Prop) (o : BinOp) (x y : Od), SE p C al e h d (IOp.bin o x y) ts k = WO p C (IOp.bin o x y) e h fun v h' => k v h' (clsH (hits al ts) h h' Cls.pu)) ∧ (∀ {p : Nat → Bool} {C : Orc} (al : List (Nat × Nat)) (e : Env) (h : H) (d : Option Nat) (ts : List Nat) (k : V → H → Cls → Prop) (a : Nat) (b : Bool) (x y : Od), SE p C al e h d (IOp.eqv a b x y) ts k = WO p C (IOp.eqv a b x y) e h fun v h' => k v h' (clsH (hits al ts) h h' Cls.pu)) ∧ ∀ {p : Nat → Bool} {C : Orc} (al : List (Nat × Nat)) (e : Env) (h : H) (d : Option Nat) (ts : List Nat) (k : V → H → Cls → Prop) (b : Bool) (x y : Od), SE p C al e h d (IOp.eqb b x y) ts k = WO p C (IOp.eqb b x y) e h fun v h' => k v h' (clsH (hits al ts) h h' Cls.pu)) ∧ (∀ {p : Nat → Bool} {C : Orc} (al : List (Nat × Nat)) (e : Env) (h : H) (d : Option Nat) (ts : List Nat) (k : V → H → Cls → Prop) (a : Nat) (b : Bool) (x y : Od), SE p C al e h d (IOp.eqn a b x y) ts k = WO p C (IOp.eqn a b x y) e h fun v h' => k v h' (clsH (hits al ts) h h' Cls.pu)) ∧ (∀ {p : Nat → Bool} {C : Orc} (al : List (Nat × Nat)) (e : Env) (h : H) (d : Option Nat) (ts : List Nat) (k : V → H → Cls → Prop) (o : UnOp) (x : Od), SE p C al e h d (IOp.un o x) ts k = WO p C (IOp.un o x) e h fun v h' => k v h' (clsH (hits al ts) h h' Cls.pu)) ∧ ∀ {p : Nat → Bool} {C : Orc} (al : List (Nat × Nat)) (e : Env) (h : H) (d : Option Nat) (ts : List Nat) (k : V → H → Cls → Prop) (t : IntKind) (x : Od), SE p C al e h d (IOp.cint t x) ts k = WO p C (IOp.cint t x) e h fun v h' => k v h' (clsH (hits al ts) h h' Cls.pu)) ∧ ((∀ {p : Nat → Bool} {C : Orc} (al : List (Nat × Nat)) (e : Env) (h : H) (d : Option Nat) (ts : List Nat) (k : V → H → Cls → Prop) (x : Od), SE p C al e h d (IOp.cid x) ts k = WO p C (IOp.cid x) e h fun v h' => k v h' (clsH (hits al ts) h h' Cls.pu)) ∧ (∀ {p : Nat → Bool} {C : Orc} (al : List (Nat × Nat)) (e : Env) (h : H) (d : Option Nat) (ts : List Nat) (k : V → H → Cls → Prop) (a : Nat) (x : Od), SE p C al e h d (IOp.ifc a x) ts k = WO p C (IOp.ifc a x) e h fun v h' => k v h' (clsH (hits al ts) h h' Cls.pu)) ∧ ∀ {p : Nat → Bool} {C : Orc} (al : List (Nat × Nat)) (e : Env) (h : H) (d : Option Nat) (ts : List Nat) (k : V → H → Cls → Prop) (a : Nat) (xs : List Od), SE p C al e h d (IOp.mkf a xs) ts k = WO p C (IOp.mkf a xs) e h fun v h' => k v h' (clsH (hits al ts) h h' Cls.pu)) ∧ ((∀ {p : Nat → Bool} {C : Orc} (al : List (Nat × Nat)) (e : Env) (h : H) (d : Option Nat) (ts : List Nat) (k : V → H → Cls → Prop) (x : Od) (a b : Option Od), SE p C al e h d (IOp.slS x a b) ts k = WO p C (IOp.slS x a b) e h fun v h' => k v h' (clsH (hits al ts) h h' Cls.pu)) ∧ ∀ {p : Nat → Bool} {C : Orc} (al : List (Nat × Nat)) (e : Env) (h : H) (d : Option Nat) (ts : List Nat) (k : V → H → Cls → Prop) (n : Nat) (x : Od) (a b c : Option Od), SE p C al e h d (IOp.slL n x a b c) ts k = WO p C (IOp.slL n x a b c) e h fun v h' => k v h' (clsH (hits al ts) h h' Cls.pu)) ∧ (∀ {p : Nat → Bool} {C : Orc} (al : List (Nat × Nat)) (e : Env) (h : H) (d : Option Nat) (ts : List Nat) (k : V → H → Cls → Prop) (a b c : Nat) (x : Od), SE p C al e h d (IOp.fa a b c x) ts k = WO p C (IOp.fa a b c x) e h fun v h' => k v h' (clsH (hits al ts) h h' Cls.pu)) ∧ ∀ {p : Nat → Bool} {C : Orc} (al : List (Nat × Nat)) (e : Env) (h : H) (d : Option Nat) (ts : List Nat) (k : V → H → Cls → Prop) (a b : Nat) (x : Od), SE p C al e h d (IOp.fld a b x) ts k = WO p C (IOp.fld a b x) e h fun v h' => k v h' (clsH (hits al ts) h h' Cls.pu)) ∧ ((((∀ {p : Nat → Bool} {C : Orc} (al : List (Nat × Nat)) (e : Env) (h : H) (d : Option Nat) (ts : List Nat) (k : V → H → Cls → Prop) (a b c : Nat) (x y : Od), SE p C al e h d (IOp.iaA a b c x y) ts k = WO p C (IOp.iaA a b c x y) e h fun v h' => k v h' (clsH (hits al ts) h h' Cls.pu)) ∧ (∀ {p : Nat → Bool} {C : Orc} (al : List (Nat × Nat)) (e : Env) (h : H) (d : Option Nat) (ts : List Nat) (k : V → H → Cls → Prop) (a : Nat) (x y : Od), SE p C al e h d (IOp.iaL a x y) ts k = WO p C (IOp.iaL a x y) e h fun v h' => k v h' (clsH (hits al ts) h h' Cls.pu)) ∧ ∀ {p : Nat → Bool} {C : Orc} (al : List (Nat × Nat)) (e : Env) (h : H) (d : Option Nat) (ts : List Nat) (k : V → H → Cls → Prop) (a b : Nat) (x y : Od), SE p C al e h d (IOp.ixA a b x y) ts k = WO p C (IOp.ixA a b x y) e h fun v h' => k v h' (clsH (hits al ts) h h' Cls.pu)) ∧ (∀ {p : Nat → Bool} {C : Orc} (al : List (Nat × Nat)) (e : Env) (h : H) (d : Option Nat) (ts : List Nat) (k : V → H → Cls → Prop) (x y : Od), SE p C al e h d (IOp.ixS x y) ts k = WO p C (IOp.ixS x y) e h fun v h' => k v h' (clsH (hits al ts) h h' Cls.pu)) ∧ (∀ {p : Nat → Bool} {C : Orc} (al : List (Nat × Nat)) (e : Env) (h : H) (d : Option Nat) (ts : List Nat) (k : V → H → Cls → Prop) (x : Od) (i : Nat), SE p C al e h d (IOp.ext x i) ts k = WO p C (IOp.ext x i) e h fun v h' => k v h' (clsH (hits al ts) h h' Cls.pu)) ∧ ∀ {p : Nat → Bool} {C : Orc} (al : List (Nat × Nat)) (e : Env) (h : H) (d : Option Nat) (ts : List Nat) (k : V → H → Cls → Prop) (x : Od), SE p C al e h d (IOp.lenS x) ts k = WO p C (IOp.lenS x) e h fun v h' => k v h' (clsH (hits al ts) h h' Cls.pu)) ∧ ((∀ {p : Nat → Bool} {C : Orc} (al : List (Nat × Nat)) (e : Env) (h : H) (d : Option Nat) (ts : List Nat) (k : V → H → Cls → Prop) (x : Od), SE p C al e h d (IOp.lenL x) ts k = WO p C (IOp.lenL x) e h fun v h' => k v h' (clsH (hits al ts) h h' Cls.pu)) ∧ (∀ {p : Nat → Bool} {C : Orc} (al : List (Nat × Nat)) (e : Env) (h : H) (d : Option Nat) (ts : List Nat) (k : V → H → Cls → Prop) (xs : List Od), SE p C al e h d (IOp.mx xs) ts k = WO p C (IOp.mx xs) e h fun v h' => k v h' (clsH (hits al ts) h h' Cls.pu)) ∧ ∀ {p : Nat → Bool} {C : Orc} (al : List (Nat × Nat)) (e : Env) (h : H) (d : Option Nat) (ts : List Nat) (k : V → H → Cls → Prop) (xs : List Od), SE p C al e h d (IOp.mn xs) ts k = WO p C (IOp.mn xs) e h fun v h' => k v h' (clsH (hits al ts) h h' Cls.pu)) ∧ ((∀ {p : Nat → Bool} {C : Orc} (al : List (Nat × Nat)) (e : Env) (h : H) (d : Option Nat) (ts : List Nat) (k : V → H → Cls → Prop) (a b : Nat) (z : V) (n : Nat) (ps : List (Nat × Od)), SE p C al e h d (IOp.bsl a b z n ps) ts k = WO p C (IOp.bsl a b z n ps) e h fun v h' => k v h' (Cls.ge h h')) ∧ ∀ {p : Nat → Bool} {C : Orc} (al : List (Nat × Nat)) (e : Env) (h : H) (d : Option Nat) (ts : List Nat) (k : V → H → Cls → Prop) (a n : Nat), SE p C al e h d (IOp.box a (Od.t n)) ts k = WO p C (IOp.box a (Od.t n)) e h fun v h' => k v h' (Cls.ge h h')) ∧ (∀ {p : Nat → Bool} {C : Orc} (al : List (Nat × Nat)) (e : Env) (h : H) (d : Option Nat) (ts : List Nat) (k : V → H → Cls → Prop) (a b c : Nat) (x y : Od), SE p C al e h d (IOp.app a b c x y) ts k = WO p C (IOp.app a b c x y) e h fun v h' => k v h' (Cls.ge h h')) ∧ ∀ {p : Nat → Bool} {C : Orc} (al : List (Nat × Nat)) (e : Env) (h : H) (d : Option Nat) (ts : List Nat) (k : V → H → Cls → Prop) (a b : Nat) (x y : Od), SE p C al e h d (IOp.appS a b x y) ts k = WO p C (IOp.appS a b x y) e h fun v h' => k v h' (Cls.ge h h')) ∧ (((∀ {p : Nat → Bool} {C : Orc} (al : List (Nat × Nat)) (e : Env) (h : H) (d : Option Nat) (ts : List Nat) (k : V → H → Cls → Prop) (a : Nat) (x : Od), SE p C al e h d (IOp.csb a x) ts k = WO p C (IOp.csb a x) e h fun v h' => k v h' (Cls.ge h h')) ∧ (∀ {p : Nat → Bool} {C : Orc} (al : List (Nat × Nat)) (e : Env) (h : H) (d : Option Nat) (ts : List Nat) (k : V → H → Cls → Prop) (a b : Nat) (z : V) (c : Nat) (x y : Od), SE p C al e h d (IOp.msl a b z c x y) ts k = WO p C (IOp.msl a b z c x y) e h fun v h' => k v h' (Cls.ge h h')) ∧ ∀ {p : Nat → Bool} {C : Orc} (al : List (Nat × Nat)) (e : Env) (h : H) (d : Option Nat) (ts : List Nat) (k : V → H → Cls → Prop) (a : Nat) (x y : Od), SE p C al e h d (IOp.cpy a x y) ts k = WO p C (IOp.cpy a x y) e h fun v h' => k v h' (Cls.ge h h')) ∧ ((∀ {p : Nat → Bool} {C : Orc} (al : List (Nat × Nat)) (e : Env) (h : H) (d : Option Nat) (ts : List Nat) (k : V → H → Cls → Prop) (x y : Od), SE p C al e h d (IOp.cpyS x y) ts k = WO p C (IOp.cpyS x y) e h fun v h' => k v h' (Cls.ge h h')) ∧ ∀ {p : Nat → Bool} {C : Orc} (al : List (Nat × Nat)) (e : Env) (h : H) (ts : List Nat) (k : V → H → Cls → Prop) (a n : Nat) (z : V), (noId z && z.sh == a) = true → SE p C al e h (some n) (IOp.box a (Od.c z)) ts k = guardK (z.isTup = false) (k (V.ptr h.n 0 [] a) (h.push (Obj.cells z false false)) Cls.al)) ∧ (∀ {p : Nat → Bool} {C : Orc} (al : List (Nat × Nat)) (e : Env) (h : H) (d : Option Nat) (ts : List Nat) (k : V → H → Cls → Prop) (sh : Nat) (a : Od), SE p C al e h d (IOp.load sh a) ts k = evK e a fun v => ptrK v fun id st q sh' => guardK (sh' = sh) (readK h id st q fun v => k v h (clsH (hits al ts) h h (clsH (al.any fun p => p.snd == id) h h (Cls.rd id))))) ∧ ∀ {p : Nat → Bool} {C : Orc} (al : List (Nat × Nat)) (e : Env) (h : H) (d : Option Nat) (ts : List Nat) (k : V → H → Cls → Prop) (sh : Nat) (a x : Od), SE p C al e h d (IOp.store sh a x) ts k = evK e a fun a => evK e x fun x => ptrK a fun id x_1 x_2 x_3 => storeK sh h a x fun h' => k unit h' (Cls.wr id)) ∧ ((∀ {p : Nat → Bool} {C : Orc} (al : List (Nat × Nat)) (e : Env) (h : H) (d : Option Nat) (ts : List Nat) (k : V → H → Cls → Prop) (f : Od) (args : List Od), SE p C al e h d (IOp.call f args) ts k = evK e f fun fv => evsK e args fun vs => fnK fv fun f caps => callD p C (hits al ts) f (vs ++ caps) h k) ∧ (∀ (e : Env) (m : Nat) (v : V) (n : Nat) (k : V → Prop) (B : Prop), getOK (e.put m v) n k B = if m = n then k v else getOK e n k B) ∧ ∀ (e : Env) (m : Nat) (v : V) (n : Nat) (k : V → Prop) (B : Prop), getOK ((m, v) :: e) n k B = if m = n then k v else getOK e n k B) ∧ ((∀ (n : Nat) (k : V → Prop) (B : Prop), getOK [] n k B = B) ∧ ∀ (e : Env) (k : Env → Prop), selK e [] k = k []) ∧ (∀ (e : Env) (n : Nat) (ks : List Nat) (k : Env → Prop), selK e (n :: ks) k = getOK e n (fun v => selK e ks fun l => k ((n, v) :: l)) (selK e ks k)) ∧ ∀ (w : Bool) (A B : Prop), wantK unit w A B = B :=
  (And.intro (And.intro (And.intro (And.intro (And.intro (And.intro (And.intro @W_seq (And.intro @W_skip @W_exit)) (And.intro @W_label (And.intro @W_goto @W_ret))) (And.intro (And.intro @W_reg (And.intro @W_cond @W_blk)) (And.intro (And.intro @W_scope @WR_nil) (And.intro @WR_cons @WR_cons0)))) (And.intro (And.intro (And.intro @WR_consg (And.intro @WR_cons0g @WO_mv)) (And.intro @WO_pick (And.intro @WO_box @WO_build))) (And.intro (And.intro @WO_bsl (And.intro @WO_load @WO_store)) (And.intro (And.intro @WO_nilck @WO_bin) (And.intro @WO_eqv @WO_eqn))))) (And.intro (And.intro (And.intro (And.intro @WO_un (And.intro @WO_cint @WO_cid)) (And.intro @WO_cbs (And.intro @WO_csb @WO_ifc))) (And.intro (And.intro @WO_mkf (And.intro @WO_msl @WO_slS)) (And.intro (And.intro @WO_slL @WO_slA) (And.intro @WO_fa @WO_fld)))) (And.intro (And.intro (And.intro @WO_iaA (And.intro @WO_iaL @WO_ixA)) (And.intro @WO_ixS (And.intro @WO_ext @WO_call))) (And.intro (And.intro @WO_lenS (And.intro @WO_lenL @WO_app)) (And.intro (And.intro @WO_appS @WO_cpy) (And.intro @WO_cpyS @WO_mx)))))) (And.intro (And.intro (And.intro (And.intro (And.intro @WO_mn (And.intro @WO_rngS @evK_t)) (And.intro @evK_c (And.intro @evK_f @evoK_none))) (And.intro (And.intro @evoK_some (And.intro @evsK_nil @evsK_cons)) (And.intro (And.intro @evpK_nil @evpK_cons) (And.intro @getK_put @getK_keep)))) (And.intro (And.intro (And.intro @getK_nil (And.intro @getK_cons @keepK_cons)) (And.intro @condK_true (And.intro @condK_false @condK_not))) (And.intro (And.intro @wantK_tt (And.intro @wantK_tf @wantK_ft)) (And.intro (And.intro @wantK_ff @wantK_tup) (And.intro @wantK_cond @wantK_condn))))) (And.intro (And.intro (And.intro (And.intro @seqK_norm (And.intro @seqK_exit @seqK_goto)) (And.intro @seqK_ret (And.intro @blkK_norm @blkK_exit))) (And.intro (And.intro @blkK_goto (And.intro @blkK_ret @gotoK_norm)) (And.intro (And.intro @gotoK_exit @gotoK_goto) (And.intro @gotoK_ret @endK_norm)))) (And.intro (And.intro (And.intro @endK_ret (And.intro @nthK_zero @nthK_succ)) (And.intro (And.intro @subK_nil @subK_cons) (And.intro @putK_nil @putK_cons))) (And.intro (And.intro @fillK_nil (And.intro @fillK_cons @objK_push)) (And.intro (And.intro @objK_set @writeK_w) (And.intro @wcellK_cons @wcellK_nil))))))) (And.intro (And.intro (And.intro (And.intro (And.intro (And.intro @readK_eq (And.intro @cellsK_cells @loadK_ptr)) (And.intro @storeK_ptr (And.intro @intK_i @strK_s))) (And.intro (And.intro @fnK_fn (And.intro @tupK_tup @nckK_ptr)) (And.intro (And.intro @nckK_ifc @nckK_fn) (And.intro @ptrK_ptr @aggK_agg)))) (And.intro (And.intro (And.intro @slLK_nil (And.intro @slLK_sl @lenLK_nil)) (And.intro @lenLK_sl (And.intro @iaLK_sl @iterK_iter))) (And.intro (And.intro @elemsK_nil (And.intro @elemsK_sl @binK_add)) (And.intro (And.intro @binK_sub @binK_mul) (And.intro @binK_quo @binK_rem))))) (And.intro (And.intro (And.intro (And.intro @binK_eql (And.intro @binK_neq @binK_lss)) (And.intro @binK_leq (And.intro @binK_gtr @binK_geq))) (And.intro (And.intro @binK_shl (And.intro @binK_shr @binK_and)) (And.intro (And.intro @binK_or @binK_xor) (And.intro @binK_andNot @binK_sadd)))) (And.intro (And.intro (And.intro @binK_seql (And.intro @binK_sneq @unK_not)) (And.intro @unK_neg (And.intro @ressK_nil @ressK_t))) (And.intro (And.intro @ressK_c (And.intro @guardK_true @optK_some)) (And.intro (And.intro @W_drw @WD_nil) (And.intro @WD_cons @SD_eq)))))) (And.intro (And.intro (And.intro (And.intro (And.intro @wantG_none (And.intro @wantG_some @pairK_pu)) (And.intro @pairK_rd (And.intro @pairK_wr @pairK_al))) (And.intro (And.intro @pairK_ge (And.intro @pairLK_nil @pairLK_cons)) (And.intro (And.intro @SE_mv @SE_pick) (And.intro @SE_build @SE_nilck)))) (And.intro (And.intro (And.intro @SE_bin (And.intro @SE_eqv @SE_eqb)) (And.intro @SE_eqn (And.intro @SE_un @SE_cint))) (And.intro (And.intro @SE_cid (And.intro @SE_ifc @SE_mkf)) (And.intro (And.intro @SE_slS @SE_slL) (And.intro @SE_fa @SE_fld))))) (And.intro (And.intro (And.intro (And.intro @SE_iaA (And.intro @SE_iaL @SE_ixA)) (And.intro @SE_ixS (And.intro @SE_ext @SE_lenS))) (And.intro (And.intro @SE_lenL (And.intro @SE_mx @SE_mn)) (And.intro (And.intro @SE_bsl @SE_boxt) (And.intro @SE_app @SE_appS)))) (And.intro (And.intro (And.intro @SE_csb (And.intro @SE_msl @SE_cpy)) (And.intro (And.intro @SE_cpyS @SE_boxc) (And.intro @SE_load @SE_store))) (And.intro (And.intro @SE_call (And.intro @getOK_put @getOK_cons)) (And.intro (And.intro @getOK_nil @selK_nil) (And.intro @selK_cons @wantK_unit))))))))
/-- Rules for what stands anywhere. -/
theorem normR : (((((((∀ (h : H) (o : Obj) (id : Nat), (h.push o).has id = (id = h.n ∨ h.has id)) ∧ ∀ (h : H) (i : Nat) (o : Obj) (id : Nat), (h.set i o).has id = h.has id) ∧ (∀ (p : Prop), (p ∨ True) = True) ∧ ∀ (p : Prop), (True ∨ p) = True) ∧ ((∀ (v : V) (r : Bool), stampOf (Obj.cells v false r) = 0) ∧ ∀ (d : Nat) (l : List V) (r : Bool), stampOf (Obj.cells (V.agg d l) true r) = l.length) ∧ (∀ (h : H) (o : Obj), (h.push o).n = h.n + 1) ∧ (∀ (h : H) (i : Nat) (o : Obj), (h.set i o).n = h.n) ∧ H.empty.n = 0) ∧ (((∀ (x : Bool), (V.b x).sh = 0) ∧ ∀ (l : List UInt8), (V.s l).sh = 2) ∧ (∀ (k : Nat) (l : List V), (V.agg k l).sh = k) ∧ ∀ (n : Int), (V.i IntKind.i8 n).sh = 3) ∧ ((∀ (n : Int), (V.i IntKind.i16 n).sh = 4) ∧ ∀ (n : Int), (V.i IntKind.i32 n).sh = 5) ∧ (∀ (n : Int), (V.i IntKind.i64 n).sh = 6) ∧ (∀ (n : Int), (V.i IntKind.u8 n).sh = 7) ∧ ∀ (n : Int), (V.i IntKind.u16 n).sh = 8) ∧ ((((∀ (n : Int), (V.i IntKind.u32 n).sh = 9) ∧ ∀ (n : Int), (V.i IntKind.u64 n).sh = 10) ∧ V.nilp.sh = 1 ∧ V.nilp.isTup = false) ∧ ((∀ (a b : Nat) (c : List Nat) (d : Nat), (V.ptr a b c d).sh = 1) ∧ ∀ (a b : Nat) (c : List Nat) (d : Nat), (V.ptr a b c d).isTup = false) ∧ V.nilsl.sh = 1 ∧ V.nilsl.isTup = false ∧ ∀ (a b : Nat) (c : List Nat) (d e f : Nat) (g : Option Nat), (V.sl a b c d e f g).sh = 1) ∧ (((∀ (a b : Nat) (c : List Nat) (d e f : Nat) (g : Option Nat), (V.sl a b c d e f g).isTup = false) ∧ V.nilm.sh = 1) ∧ V.nilm.isTup = false ∧ ∀ (a : Nat), (V.mp a).sh = 1) ∧ ((∀ (a : Nat), (V.mp a).isTup = false) ∧ V.nilc.sh = 1) ∧ V.nilc.isTup = false ∧ (∀ (a : Nat), (V.ch a).sh = 1) ∧ ∀ (a : Nat), (V.ch a).isTup = false) ∧ ((((V.nilf.sh = 1 ∧ V.nilf.isTup = false) ∧ (∀ (a : Nat) (l : List V), (V.fn a l).sh = 1) ∧ ∀ (a : Nat) (l : List V), (V.fn a l).isTup = false) ∧ (V.nili.sh = 1 ∧ V.nili.isTup = false) ∧ (∀ (a : Nat) (x : V), (V.ifc a x).sh = 1) ∧ (∀ (a : Nat) (x : V), (V.ifc a x).isTup = false) ∧ ∀ (k : IntKind) (a : Nat), (V.sym k a).sh = 1) ∧ (((∀ (k : IntKind) (a : Nat), (V.sym k a).isTup = false) ∧ ∀ (x : Bool), (V.b x).isTup = false) ∧ (∀ (l : List UInt8), (V.s l).isTup = false) ∧ ∀ (k : Nat) (l : List V), (V.agg k l).isTup = false) ∧ ((∀ (k : IntKind) (n : Int), (V.i k n).isTup = false) ∧ ∀ (l : List V), (V.tup l).isTup = true) ∧ (∀ (e : Nat), V.slOf e V.nilsl = true) ∧ (∀ (e a b : Nat) (c : List Nat) (d f g : Nat) (i : Option Nat), V.slOf e (V.sl a b c d f g i) = (d == e)) ∧ ∀ (v : V), retV [v] = v) ∧ ((((∀ (a b : V) (l : List V), retV (a :: b :: l) = V.tup (a :: b :: l)) ∧ retV [] = V.tup []) ∧ (∀ (h : Decidable True), decide True = true) ∧ ∀ (h : Decidable False), decide False = false) ∧ ((!true) = false ∧ (!false) = true) ∧ (∀ (p : Prop), (p ∧ p) = p) ∧ (∀ (p : Prop), (p ∧ True) = p) ∧ ∀ (p : Prop), (True ∧ p) = p) ∧ (((∀ (i : Nat), env0 i [] = []) ∧ ∀ (i : Nat) (v : V) (l : List V), env0 i (v :: l) = (i, v) :: env0 (i + 1) l) ∧ (∀ (x a : V) (l : List V), (x :: l).set 0 a = a :: l) ∧ ∀ (x a : V) (l : List V) (i : Nat), (x :: l).set (i + 1) a = x :: l.set i a) ∧ ((∀ (l : List Nat), [] ++ l = l) ∧ ∀ (a : Nat) (l m : List Nat), a :: l ++ m = a :: (l ++ m)) ∧ (∀ (l : List V), [] ++ l = l) ∧ (∀ (a : V) (l m : List V), a :: l ++ m = a :: (l ++ m)) ∧ ∀ (l : List V), l ++ [] = l) ∧ ((((((∀ (z : V), replK 0 z = []) ∧ ∀ (n : Nat) (z : V), replK (n + 1) z = z :: replK n z) ∧ (∀ (a b : Nat), (some a).getD b = a) ∧ ∀ (b : Nat), none.getD b = b) ∧ ((∀ (a : Nat), (a == a) = true) ∧ ∀ (h h' : H) (c : Cls), clsH false h h' c = c) ∧ (∀ (h h' : H) (c : Cls), clsH true h h' c = Cls.ge h h') ∧ (∀ (ts : List Nat), hits [] ts = false) ∧ ∀ (a b : Nat) (l : List (Nat × Nat)) (ts : List Nat), hits ((a, b) :: l) ts = (memN ts a || hits l ts)) ∧ (((∀ (id : Nat), (([] : List (Nat × Nat)).any fun p => p.snd == id) = false) ∧ ∀ (a b id : Nat) (l : List (Nat × Nat)), (((a, b) :: l).any fun p => p.snd == id) = (decide (b = id) || l.any fun p => p.snd == id)) ∧ guardTm none = [] ∧ ∀ (t : Nat) (w : Bool), guardTm (some (t, w)) = [t]) ∧ ((∀ (al : List (Nat × Nat)) (h : H) (d : Option Nat), alNext al h d Cls.pu = al) ∧ ∀ (al : List (Nat × Nat)) (h : H) (d : Option Nat) (id : Nat), alNext al h d (Cls.rd id) = al) ∧ (∀ (al : List (Nat × Nat)) (h : H) (d : Option Nat) (id : Nat), alNext al h d (Cls.wr id) = al) ∧ (∀ (al : List (Nat × Nat)) (h : H) (d : Option Nat) (a b : H), alNext al h d (Cls.ge a b) = al) ∧ ∀ (al : List (Nat × Nat)) (h : H) (d : Nat), alNext al h (some d) Cls.al = (d, h.n) :: al) ∧ ((((∀ (e : Env) (d : Nat) (v : V), e.putO (some d) v = e.put d v) ∧ ∀ (e : Env) (v : V), e.putO none v = e) ∧ (∀ (c : Cls), swapOk Cls.pu c = true) ∧ ∀ (a b : Nat), swapOk (Cls.rd a) (Cls.rd b) = true) ∧ ((∀ (a b : Nat), swapOk (Cls.rd a) (Cls.wr b) = !decide (a = b)) ∧ ∀ (a b : Nat), swapOk (Cls.wr a) (Cls.rd b) = !decide (a = b)) ∧ (∀ (a : Nat) (h h' : H), swapOk (Cls.rd a) (Cls.ge h h') = osame (h.get a) (h'.get a)) ∧ (∀ (a : Nat) (h h' : H), swapOk (Cls.ge h h') (Cls.rd a) = osame (h.get a) (h'.get a)) ∧ ∀ (a : Nat), swapOk (Cls.rd a) Cls.al = true) ∧ (((∀ (a : Nat), swapOk Cls.al (Cls.rd a) = true) ∧ swapOk Cls.al Cls.al = true) ∧ (∀ (a : Nat), swapOk (Cls.wr a) Cls.al = true) ∧ ∀ (h h' : H), swapOk (Cls.ge h h') Cls.al = true) ∧ ((∀ (a : Bool), (false || a) = a) ∧ ∀ (a : Bool), (true || a) = true) ∧ (none : Option Nat).toList = [] ∧ (∀ (d : Nat), (some d).toList = [d]) ∧ ∀ (n k : Nat), (n = n + k) = (k = 0)) ∧ (((((∀ (n k : Nat), (n + k = n) = (k = 0)) ∧ ∀ (n a b : Nat), (n + a = n + b) = (a = b)) ∧ (∀ (n a b : Nat), n + a + b = n + (a + b)) ∧ ∀ (l : List Cls), [] ++ l = l) ∧ ((∀ (a : Cls) (l m : List Cls), a :: l ++ m = a :: (l ++ m)) ∧ ∀ (h : H) (o : Obj) (id : Nat), (h.push o).get id = if id = h.n then some o else h.get id) ∧ (∀ (h : H) (i : Nat) (o : Obj) (id : Nat), h.has i → (h.set i o).get id = if id = i then some o else h.get id) ∧ (∀ (a b : Int), (a ≠ b) = ¬a = b) ∧ (¬False) = True) ∧ (((∀ (n : Nat), 0 + n = n) ∧ ∀ (a : Nat), memN [] a = false) ∧ (∀ (x a : Nat) (l : List Nat), memN (x :: l) a = (decide (a = x) || memN l a)) ∧ odsTm [] = []) ∧ ((∀ (n : Nat) (l : List Od), odsTm (Od.t n :: l) = n :: odsTm l) ∧ ∀ (v : V) (l : List Od), odsTm (Od.c v :: l) = odsTm l) ∧ (∀ (f : Nat) (l : List Od), odsTm (Od.f f :: l) = odsTm l) ∧ (∀ (x : Od), (IOp.mv x).ods = [x]) ∧ ∀ (s : Nat) (x : Od), (IOp.load s x).ods = [x]) ∧ ((((∀ (x : Od) (i : Nat), (IOp.ext x i).ods = [x]) ∧ ∀ (o : UnOp) (x : Od), (IOp.un o x).ods = [x]) ∧ (∀ (o : BinOp) (x y : Od), (IOp.bin o x y).ods = [x, y]) ∧ ∀ (x y z : Od), (IOp.pick x y z).ods = [x, y, z]) ∧ ((∀ (a b c : Nat) (x : Od), (IOp.fa a b c x).ods = [x]) ∧ ∀ (a b : Nat) (x : Od), (IOp.fld a b x).ods = [x]) ∧ (∀ (a b c : Nat) (x y : Od), (IOp.iaA a b c x y).ods = [x, y]) ∧ (∀ (a : Nat) (x y : Od), (IOp.iaL a x y).ods = [x, y]) ∧ ∀ (x : Od), (IOp.lenL x).ods = [x]) ∧ (((∀ (x : Od), (IOp.lenS x).ods = [x]) ∧ ∀ (f : Od) (l : List Od), (IOp.call f l).ods = f :: l) ∧ (∀ (k : IntKind) (x : Od), (IOp.cint k x).ods = [x]) ∧ (∀ (a : Bool), (a || false) = a) ∧ ([] : List V).length = 0) ∧ ((∀ (x : V) (l : List V), (x :: l).length = l.length + 1) ∧ ∀ (l : List V), List.drop 0 l = l) ∧ (∀ (n : Nat) (x : V) (l : List V), List.drop (n + 1) (x :: l) = List.drop n l) ∧ (∀ (l : List V), List.take 0 l = []) ∧ ∀ (n : Nat) (x : V) (l : List V), List.take (n + 1) (x :: l) = x :: List.take n l :=
  (And.intro (And.intro (And.intro (And.intro (And.intro (And.intro (And.intro @H.has_push @H.has_set) (And.intro @or_true @true_or)) (And.intro (And.intro @stampOf_false @stampOf_true) (And.intro @H.push_n (And.intro @H.set_n @H.empty_n)))) (And.intro (And.intro (And.intro @sh_b @sh_s) (And.intro @sh_agg @sh_i8)) (And.intro (And.intro @sh_i16 @sh_i32) (And.intro @sh_i64 (And.intro @sh_u8 @sh_u16))))) (And.intro (And.intro (And.intro (And.intro @sh_u32 @sh_u64) (And.intro @sh_nilp @isTup_nilp)) (And.intro (And.intro @sh_ptr @isTup_ptr) (And.intro @sh_nilsl (And.intro @isTup_nilsl @sh_sl)))) (And.intro (And.intro (And.intro @isTup_sl @sh_nilm) (And.intro @isTup_nilm @sh_mp)) (And.intro (And.intro @isTup_mp @sh_nilc) (And.intro @isTup_nilc (And.intro @sh_ch @isTup_ch)))))) (And.intro (And.intro (And.intro (And.intro (And.intro @sh_nilf @isTup_nilf) (And.intro @sh_fn @isTup_fn)) (And.intro (And.intro @sh_nili @isTup_nili) (And.intro @sh_ifc (And.intro @isTup_ifc @sh_sym)))) (And.intro (And.intro (And.intro @isTup_sym @isTup_b) (And.intro @isTup_s @isTup_agg)) (And.intro (And.intro @isTup_i @isTup_tup) (And.intro @slOf_nil (And.intro @slOf_sl @retV_one))))) (And.intro (And.intro (And.intro (And.intro @retV_two @retV_nil) (And.intro @decide_true @decide_false)) (And.intro (And.intro @Bool.not_true @Bool.not_false) (And.intro @and_self (And.intro @and_true @true_and)))) (And.intro (And.intro (And.intro @env0_nil @env0_cons) (And.intro @setV_zero @setV_succ)) (And.intro (And.intro @nilN_app @consN_app) (And.intro @nilV_app (And.intro @consV_app @appV_nil))))))) (And.intro (And.intro (And.intro (And.intro (And.intro (And.intro @replK_zero @replK_succ) (And.intro @getDN_some @getDN_none)) (And.intro (And.intro @beqN_self @clsH_false) (And.intro @clsH_true (And.intro @hits_nil @hits_cons)))) (And.intro (And.intro (And.intro @alany_nil @alany_cons) (And.intro @guardTm_none @guardTm_some)) (And.intro (And.intro @alNext_pu @alNext_rd) (And.intro @alNext_wr (And.intro @alNext_ge @alNext_al))))) (And.intro (And.intro (And.intro (And.intro @putO_some @putO_none) (And.intro @swap_pu @swap_rdrd)) (And.intro (And.intro @swap_rdwr @swap_wrrd) (And.intro @swap_rdge (And.intro @swap_gerd @swap_rdal)))) (And.intro (And.intro (And.intro @swap_alrd @swap_alal) (And.intro @swap_wral @swap_geal)) (And.intro (And.intro @orB_ff @orB_tt) (And.intro @optTo_none (And.intro @optTo_some @nE1)))))) (And.intro (And.intro (And.intro (And.intro (And.intro @nE2 @nE3) (And.intro @nA @nilC_app)) (And.intro (And.intro @consC_app @H.get_push') (And.intro @H.get_set2 (And.intro @neI @not_false_eq_true)))) (And.intro (And.intro (And.intro @nZ @memN_nil) (And.intro @memN_cons @odsTm_nil)) (And.intro (And.intro @odsTm_t @odsTm_c) (And.intro @odsTm_f (And.intro @ods_mv @ods_load))))) (And.intro (And.intro (And.intro (And.intro @ods_ext @ods_un) (And.intro @ods_bin @ods_pick)) (And.intro (And.intro @ods_fa @ods_fld) (And.intro @ods_iaA (And.intro @ods_iaL @ods_lenL)))) (And.intro (And.intro (And.intro @ods_lenS @ods_call) (And.intro @ods_cint (And.intro @orB_af @lenV_nil))) (And.intro (And.intro @lenV_cons @dropV_zero) (And.intro @dropV_succ (And.intro @takeV_zero @takeV_succ))))))))
end Go.Rae
