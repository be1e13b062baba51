/- Tables of shapes: what must be so of them, by computing. -/
import Derived.Test.YtannfoaobeoafaaDoorRaeChkJ
set_option linter.unusedVariables false
set_option linter.unusedSimpArgs false
namespace Go.Rae
open Go

def nth {α : Type} : List α → Nat → α → α
  | [], _, d => d
  | x :: _, 0, _ => x
  | _ :: l, n + 1, d => nth l n d

theorem nth_out {α : Type} : ∀ (l : List α) (n : Nat) (d : α), l.length ≤ n → nth l n d = d := by
  intro l
  induction l with
  | nil => intro n d _; rfl
  | cons x l ih =>
    intro n d h
    cases n with
    | zero => simp at h
    | succ n => exact ih n d (by simpa using h)

structure Tab where
  sh : List Sh
  sz : List Nat
  pu : List Bool
  fid : List Nat
  tid : List Nat

def Tab.S (T : Tab) (k : Nat) : Sh := nth T.sh k .data
def Tab.z (T : Tab) (k : Nat) : Nat := nth T.sz k 1
def Tab.p (T : Tab) (k : Nat) : Bool := nth T.pu k false

def isDR : Sh → Bool
  | .data | .ref => true
  | _ => false

def sumZ (T : Tab) : List Nat → Nat
  | [] => 0
  | f :: l => T.z f + sumZ T l

def allP (T : Tab) : List Nat → Bool
  | [] => true
  | f :: l => T.p f && allP T l

def allF (T : Tab) : List Nat → Bool
  | [] => true
  | f :: l => fixB (T.S f) && allF T l

def oneB (T : Tab) (k : Nat) : Bool :=
  match T.S k with
  | .str fs => Nat.beq (T.z k) (sumZ T fs) && (!T.p k || allP T fs) && allF T fs
  | .arr n e => Nat.beq (T.z k) (n * T.z e) && (!T.p k || T.p e) && fixB (T.S e)
  | .dyn e => !T.p k && fixB (T.S e)
  | _ => true

def lowB (T : Tab) : Nat → Bool
  | 0 => true
  | n + 1 => Nat.beq (T.z n) 1 && isDR (T.S n) && lowB T n

def upB (T : Tab) : Nat → Bool
  | 0 => true
  | n + 1 => oneB T n && upB T n

def tabB (T : Tab) : Bool := lowB T 11 && upB T T.sh.length && Nat.ble T.sh.length 65535 && !T.p 1

theorem lowB_ok {T : Tab} : ∀ {n : Nat}, lowB T n = true → ∀ k, k < n → T.z k = 1 ∧ isDR (T.S k) = true := by
  intro n
  induction n with
  | zero => intro _ k hk; omega
  | succ n ih =>
    intro h k hk
    simp only [lowB, Bool.and_eq_true] at h
    by_cases e : k = n
    · subst e; exact ⟨Nat.eq_of_beq_eq_true h.1.1, h.1.2⟩
    · exact ih h.2 k (by omega)

theorem upB_ok {T : Tab} : ∀ {n : Nat}, upB T n = true → ∀ k, k < n → oneB T k = true := by
  intro n
  induction n with
  | zero => intro _ k hk; omega
  | succ n ih =>
    intro h k hk
    simp only [upB, Bool.and_eq_true] at h
    by_cases e : k = n
    · subst e; exact h.1
    · exact ih h.2 k (by omega)

theorem sumZ_eq {T : Tab} : ∀ l, sumZ T l = (l.map T.z).sum := by
  intro l
  induction l with
  | nil => rfl
  | cons f l ih => simp only [sumZ, List.map_cons, List.sum_cons, ih]

theorem allP_ok {T : Tab} : ∀ {l : List Nat}, allP T l = true → ∀ f ∈ l, T.p f = true := by
  intro l
  induction l with
  | nil => intro _ f hf; cases hf
  | cons x l ih =>
    intro h f hf
    simp only [allP, Bool.and_eq_true] at h
    rcases List.mem_cons.1 hf with rfl | hf
    · exact h.1
    · exact ih h.2 f hf

theorem allF_ok {T : Tab} : ∀ {l : List Nat}, allF T l = true → ∀ f ∈ l, fixB (T.S f) = true := by
  intro l
  induction l with
  | nil => intro _ f hf; cases hf
  | cons x l ih =>
    intro h f hf
    simp only [allF, Bool.and_eq_true] at h
    rcases List.mem_cons.1 hf with rfl | hf
    · exact h.1
    · exact ih h.2 f hf

theorem tabB_one {T : Tab} (h : tabB T = true) (k : Nat) : oneB T k = true := by
  simp only [tabB, Bool.and_eq_true] at h
  by_cases hk : k < T.sh.length
  · exact upB_ok h.1.1.2 k hk
  · have : T.S k = .data := nth_out _ _ _ (by omega)
    simp [oneB, this]

/-- The setting of a program and such a table. -/
def Tab.ctx (T : Tab) (P : Program) (gl : Nat → Option Go.Obj) (val : Nat → Int) (h : tabB T = true) : Ctx where
  gl := gl
  val := val
  P := P
  S := T.S
  sz := T.z
  pure := T.p
  fid := fun k => nth T.fid k 99999999
  tid := fun k => nth T.tid k 99999999
  szd := fun k hk => by
    simp only [tabB, Bool.and_eq_true] at h
    exact (lowB_ok h.1.1.1 k hk).1
  Sd := fun k hk => by
    simp only [tabB, Bool.and_eq_true] at h
    have := (lowB_ok h.1.1.1 k hk).2
    cases hs : T.S k <;> rw [hs] at this <;> first | exact .inl rfl | exact .inr rfl | cases this
  St := by
    simp only [tabB, Bool.and_eq_true] at h
    exact nth_out _ _ _ (Nat.le_of_ble_eq_true h.1.2)
  szStr := fun k fs hs => by
    have := tabB_one h k
    simp only [oneB, hs, Bool.and_eq_true] at this
    rw [← sumZ_eq]; exact Nat.eq_of_beq_eq_true this.1.1
  szArr := fun k n e hs => by
    have := tabB_one h k
    simp only [oneB, hs, Bool.and_eq_true] at this
    exact Nat.eq_of_beq_eq_true this.1.1
  pure1 := by
    simp only [tabB, Bool.and_eq_true, Bool.not_eq_true'] at h
    exact h.2
  pureStr := fun k fs hs hp => by
    have := tabB_one h k
    simp only [oneB, hs, hp, Bool.and_eq_true, Bool.not_true, Bool.false_or] at this
    exact allP_ok this.1.2
  pureArr := fun k n e hs hp => by
    have := tabB_one h k
    simp only [oneB, hs, hp, Bool.and_eq_true, Bool.not_true, Bool.false_or] at this
    exact this.1.2
  pureDyn := fun k e hs => by
    have := tabB_one h k
    simp only [oneB, hs, Bool.and_eq_true, Bool.not_eq_true'] at this
    exact this.1

theorem Tab.flat (T : Tab) (P : Program) (gl : Nat → Option Go.Obj) (val : Nat → Int) (h : tabB T = true) : (T.ctx P gl val h).flat := by
  intro k
  have h1 := tabB_one h k
  refine ⟨fun fs hs f hf => ?_, fun n e hs => ?_, fun e hs => ?_⟩
  · have hs' : T.S k = .str fs := hs
    simp only [oneB, hs', Bool.and_eq_true] at h1
    exact fixB_ok (T.ctx P gl val h) (allF_ok h1.2 f hf)
  · have hs' : T.S k = .arr n e := hs
    simp only [oneB, hs', Bool.and_eq_true] at h1
    exact fixB_ok (T.ctx P gl val h) h1.2
  · have hs' : T.S k = .dyn e := hs
    simp only [oneB, hs', Bool.and_eq_true] at h1
    exact fixB_ok (T.ctx P gl val h) h1.2

end Go.Rae
