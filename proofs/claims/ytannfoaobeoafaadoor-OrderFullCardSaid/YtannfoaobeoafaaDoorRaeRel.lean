/- How abstract values and heaps stand for the model's: the relation, and what keeps it. -/
import Derived.Test.YtannfoaobeoafaaDoorRaeSem
import Derived.Calls
import Derived.Laws.Sem
import Derived.Laws.World
import Derived.Laws.Rows
set_option linter.unusedVariables false
set_option linter.unusedSimpArgs false
namespace Go.Rae
open Go

/-- Two lists, pair by pair. -/
inductive All2 {α β : Type} (p : α → β → Prop) : List α → List β → Prop
  | nil : All2 p [] []
  | cons {a b l m} : p a b → All2 p l m → All2 p (a :: l) (b :: m)

theorem All2.imp {α β : Type} {p q : α → β → Prop} (h : ∀ a b, p a b → q a b) {l : List α} {m : List β} (k : All2 p l m) : All2 q l m := by
  induction k with
  | nil => exact .nil
  | cons a _ ih => exact .cons (h _ _ a) ih

theorem All2.len {α β : Type} {p : α → β → Prop} {l : List α} {m : List β} (k : All2 p l m) : l.length = m.length := by
  induction k with
  | nil => rfl
  | cons _ _ ih => simp [ih]

theorem All2.at {α β : Type} {p : α → β → Prop} {l : List α} {m : List β} (k : All2 p l m) : ∀ {i : Nat} {a : α}, l[i]? = some a → ∃ b, m[i]? = some b ∧ p a b := by
  induction k with
  | nil => intro i a h; simp at h
  | cons h _ ih =>
    intro i a hi
    cases i with
    | zero => simp only [List.getElem?_cons_zero, Option.some.injEq] at hi; subst hi; exact ⟨_, rfl, h⟩
    | succ i => simp only [List.getElem?_cons_succ] at hi ⊢; exact ih hi

theorem All2.append {α β : Type} {p : α → β → Prop} {l l' : List α} {m m' : List β} (h : All2 p l m) (k : All2 p l' m') : All2 p (l ++ l') (m ++ m') := by
  induction h with
  | nil => exact k
  | cons a _ ih => exact .cons a ih

structure Ctx where
  P : Program
  S : Nat → Sh
  sz : Nat → Nat
  pure : Nat → Bool
  fid : Nat → Nat
  tid : Nat → Nat
  gl : Nat → Option Go.Obj
  val : Nat → Int
  szd : ∀ k, k < 11 → sz k = 1
  Sd : ∀ k, k < 11 → S k = .data ∨ S k = .ref
  St : S 65535 = .data
  szStr : ∀ k fs, S k = .str fs → sz k = (fs.map sz).sum
  szArr : ∀ k n e, S k = .arr n e → sz k = n * sz e
  pure1 : pure 1 = false
  pureStr : ∀ k fs, S k = .str fs → pure k = true → ∀ f ∈ fs, pure f = true
  pureArr : ∀ k n e, S k = .arr n e → pure k = true → pure e = true
  pureDyn : ∀ k e, S k = .dyn e → pure k = false

structure Loc where
  blk : Nat
  off : Nat
  room : Nat
  st : Nat
  sh : Nat
  ro : Bool

abbrev Sig := Nat → Option Loc

section
variable (K : Ctx)

def offs : Nat → List Nat → Option (Nat × Nat)
  | sh, [] => some (0, sh)
  | sh, i :: p => match K.S sh with
    | .str fs => match fs[i]? with
      | some f => match offs f p with
        | some (o, s) => some (((fs.take i).map K.sz).sum + o, s)
        | none => none
      | none => none
    | .arr n e => if i < n then match offs e p with
        | some (o, s) => some (i * K.sz e + o, s)
        | none => none
      else none
    | .dyn e => match offs e p with
      | some (o, s) => some (i * K.sz e + o, s)
      | none => none
    | _ => none

def kids (sh : Sh) (n : Nat) : Option (List Nat) :=
  match sh with
  | .str fs => if fs.length = n then some fs else none
  | .arr m e => if m = n then some (List.replicate n e) else none
  | .dyn e => some (List.replicate n e)
  | _ => none

def SR0 (σ : Sig) : V → Value → Prop
  | .b x, c => c = .bool x
  | .i k n, c => c = .int k n
  | .s l, c => c = .string ⟨l.toArray⟩
  | .nilp, c => c = .pointer none
  | .ptr id st p sh, c => ∃ L a, σ id = some L ∧ c = .pointer (some a) ∧ st ≤ L.st ∧
      (st = L.st → ∃ o, offs K L.sh p = some (o, sh) ∧ a = ⟨L.blk, L.off + o, none⟩)
  | .nilsl, c => c = .slice none 0 0
  | .sl id st p e off len cap, c => ∃ L a cap', σ id = some L ∧ c = .slice (some a) len cap' ∧ st ≤ L.st ∧ len ≤ cap' ∧ (∀ k, cap = some k → cap' = k) ∧
      (st = L.st → ∃ o s, offs K L.sh p = some (o, s) ∧ ((∃ n, K.S s = .arr n e ∧ off + cap' ≤ n) ∨ K.S s = .dyn e) ∧
        (cap' = 0 ∨ (a = ⟨L.blk, L.off + o + off * K.sz e, none⟩ ∧ L.off + o + (off + cap') * K.sz e ≤ L.room)))
  | .nilm, c => c = .map none
  | .mp id, c => ∃ L, σ id = some L ∧ ∃ r, c = .map (some r) ∧ (L.st = 0 → r = L.blk)
  | .nilc, c => c = .chan none
  | .ch id, c => ∃ L, σ id = some L ∧ ∃ r, c = .chan (some r) ∧ (L.st = 0 → r = L.blk)
  | .nilf, c => c = .nilFunc
  | .nili, c => c = .nilIface
  | .top, c => c.oneCell' = true
  | .sym k id, c => c = .int k (K.val id)
  | _, _ => False

def SR (σ : Sig) : V → Value → Prop
  | .ifc t x, c => ∃ y, c = .iface (K.tid t) y ∧ SR0 K σ x y
  | .fn f caps, c => ∃ arr : Array Value, c = .func (.func (K.fid f)) #[] arr ∧ All2 (SR0 K σ) caps arr.toList
  | v, c => SR0 K σ v c

mutual
def CR (σ : Sig) : V → List Value → Prop
  | .agg k l, cs => ∃ fs, kids (K.S k) l.length = some fs ∧ CRl σ fs l cs
  | v, cs => ∃ c, cs = [c] ∧ SR K σ v c
def CRl (σ : Sig) : List Nat → List V → List Value → Prop
  | [], [], cs => cs = []
  | f :: fs, v :: l, cs => v.sh = f ∧ ∃ a b, cs = a ++ b ∧ CR σ v a ∧ CRl σ fs l b
  | _, _, _ => False
end

def VR1 (σ : Sig) : V → Value → Prop
  | .agg k l, c => ∃ arr : Array Value, c = .agg arr ∧ CR K σ (.agg k l) arr.toList
  | v, c => SR K σ v c

def VR (σ : Sig) : V → Value → Prop
  | .tup l, c => ∃ arr : Array Value, c = .tuple arr ∧ All2 (VR1 K σ) l arr.toList
  | v, c => VR1 K σ v c

/-- References keep what they say. -/
def Ext (σ σ' : Sig) : Prop := ∀ id L, σ id = some L → ∃ L', σ' id = some L' ∧ L.st ≤ L'.st ∧ (L.st = L'.st → L' = L)

end

theorem Ext.refl (σ : Sig) : Ext σ σ := fun _ L h => ⟨L, h, Nat.le_refl _, fun _ => rfl⟩
theorem Ext.trans {a b c : Sig} (h : Ext a b) (k : Ext b c) : Ext a c := by
  intro id L hL
  obtain ⟨L1, h1, hs1, he1⟩ := h id L hL
  obtain ⟨L2, h2, hs2, he2⟩ := k id L1 h1
  refine ⟨L2, h2, Nat.le_trans hs1 hs2, fun e => ?_⟩
  have e1 : L.st = L1.st := by omega
  have := he1 e1; subst this
  exact he2 (by omega)

section
variable {K : Ctx} {σ σ' : Sig}

theorem SR0.ext (h : Ext σ σ') {v : V} {c : Value} (hs : SR0 K σ v c) : SR0 K σ' v c := by
  cases v with
  | ptr id st p sh =>
    obtain ⟨L, a, hL, hc, hle, hst⟩ := hs
    obtain ⟨L', hL', hle', heq⟩ := h id L hL
    refine ⟨L', a, hL', hc, by omega, fun e => ?_⟩
    have : L.st = L'.st := by omega
    have := heq this; subst this
    exact hst e
  | sl id st p e off len cap =>
    obtain ⟨L, a, cap', hL, hc, hle, hlen, hcap, hst⟩ := hs
    obtain ⟨L', hL', hle', heq⟩ := h id L hL
    refine ⟨L', a, cap', hL', hc, by omega, hlen, hcap, fun e => ?_⟩
    have : L.st = L'.st := by omega
    have := heq this; subst this
    exact hst e
  | mp id =>
    obtain ⟨L, hL, r, hc, hst⟩ := hs
    obtain ⟨L', hL', hle', heq⟩ := h id L hL
    refine ⟨L', hL', r, hc, fun e => ?_⟩
    have : L.st = L'.st := by omega
    have := heq this; subst this
    exact hst e
  | ch id =>
    obtain ⟨L, hL, r, hc, hst⟩ := hs
    obtain ⟨L', hL', hle', heq⟩ := h id L hL
    refine ⟨L', hL', r, hc, fun e => ?_⟩
    have : L.st = L'.st := by omega
    have := heq this; subst this
    exact hst e
  | _ => exact hs


theorem SR.ext (h : Ext σ σ') {v : V} {c : Value} (hs : SR K σ v c) : SR K σ' v c := by
  cases v with
  | ifc t x => obtain ⟨y, hc, hy⟩ := hs; exact ⟨y, hc, hy.ext h⟩
  | fn f caps => obtain ⟨arr, hc, hy⟩ := hs; exact ⟨arr, hc, hy.imp (fun _ _ => SR0.ext h)⟩
  | _ => simp only [SR] at hs ⊢; exact hs.ext h

mutual
theorem CR.ext (h : Ext σ σ') (v : V) (cs : List Value) (hc : CR K σ v cs) : CR K σ' v cs := by
  cases v with
  | agg k l =>
    simp only [CR] at hc ⊢
    obtain ⟨fs, hk, hl⟩ := hc
    exact ⟨fs, hk, CRl.ext h fs l cs hl⟩
  | _ => simp only [CR] at hc ⊢; obtain ⟨c, e, hs⟩ := hc; exact ⟨c, e, hs.ext h⟩
  termination_by SizeOf.sizeOf v
theorem CRl.ext (h : Ext σ σ') (fs : List Nat) (l : List V) (cs : List Value) (hc : CRl K σ fs l cs) : CRl K σ' fs l cs := by
  match fs, l with
  | [], [] => simpa only [CRl] using hc
  | f :: fs, v :: l =>
    simp only [CRl] at hc ⊢
    obtain ⟨hs, a, b, e, ha, hb⟩ := hc
    exact ⟨hs, a, b, e, CR.ext h v a ha, CRl.ext h fs l b hb⟩
  | [], _ :: _ => simp only [CRl] at hc
  | _ :: _, [] => simp only [CRl] at hc
  termination_by SizeOf.sizeOf l
end

theorem VR1.ext (h : Ext σ σ') {v : V} {c : Value} (hs : VR1 K σ v c) : VR1 K σ' v c := by
  cases v with
  | agg k l => obtain ⟨arr, e, hc⟩ := hs; exact ⟨arr, e, CR.ext h _ _ hc⟩
  | _ => simp only [VR1] at hs ⊢; exact hs.ext h

theorem VR.ext (h : Ext σ σ') {v : V} {c : Value} (hs : VR K σ v c) : VR K σ' v c := by
  cases v with
  | tup l => obtain ⟨arr, e, hc⟩ := hs; exact ⟨arr, e, hc.imp (fun _ _ => VR1.ext h)⟩
  | _ => simp only [VR] at hs ⊢; exact hs.ext h

/-- Shapes of which the number of cells is known. -/
def Ctx.fix (K : Ctx) (k : Nat) : Prop := ∀ e, K.S k ≠ .dyn e

theorem kids_sum {k n : Nat} {fs : List Nat} (hf : K.fix k) (h : kids (K.S k) n = some fs) : (fs.map K.sz).sum = K.sz k := by
  unfold kids at h
  split at h
  · rename_i gs hg
    split at h
    · injection h with h; subst h; exact (K.szStr _ _ hg).symm
    · cases h
  · rename_i m e hg
    split at h
    · injection h with h; subst h
      rename_i hmn; subst hmn
      rw [K.szArr _ _ _ hg]
      simp
    · cases h
  · rename_i e hg; exact absurd hg (hf e)
  · cases h

/-- No element of a value is the root of a slice's array. -/
def Ctx.flat (K : Ctx) : Prop := ∀ k, (∀ fs, K.S k = .str fs → ∀ f ∈ fs, K.fix f) ∧ (∀ n e, K.S k = .arr n e → K.fix e) ∧ (∀ e, K.S k = .dyn e → K.fix e)

theorem kids_fix (hK : K.flat) {k n : Nat} {fs : List Nat} (h : kids (K.S k) n = some fs) : ∀ f ∈ fs, K.fix f := by
  unfold kids at h
  split at h
  · rename_i gs hg
    split at h
    · injection h with h; subst h; exact (hK k).1 _ hg
    · cases h
  · rename_i m e hg
    split at h
    · injection h with h; subst h
      intro f hf; obtain ⟨_, rfl⟩ := List.mem_replicate.1 hf
      exact (hK k).2.1 _ _ hg
    · cases h
  · rename_i e hg
    injection h with h; subst h
    intro f hf; obtain ⟨_, rfl⟩ := List.mem_replicate.1 hf
    exact (hK k).2.2 _ hg
  · cases h

theorem SR_len {v : V} {c : Value} (hv : ∀ k l, v ≠ .agg k l) (h : SR K σ v c) : K.sz v.sh = 1 := by
  cases v with
  | tup l => simp only [SR, SR0] at h
  | agg k l => exact absurd rfl (hv k l)
  | i k n => cases k <;> exact K.szd _ (by simp [V.sh, kindNo])
  | _ => exact K.szd _ (by simp [V.sh])

mutual
theorem CR.len (hK : K.flat) (v : V) (cs : List Value) (hf : K.fix v.sh) (hc : CR K σ v cs) : cs.length = K.sz v.sh := by
  cases v with
  | agg k l =>
    simp only [CR] at hc
    obtain ⟨fs, hk, hl⟩ := hc
    rw [CRl.len hK fs l cs (kids_fix hK hk) hl]
    exact kids_sum hf hk
  | _ => simp only [CR] at hc; obtain ⟨c, rfl, hs⟩ := hc; rw [SR_len (by intros; exact nofun) hs]; rfl
  termination_by SizeOf.sizeOf v
theorem CRl.len (hK : K.flat) (fs : List Nat) (l : List V) (cs : List Value) (hf : ∀ f ∈ fs, K.fix f) (hc : CRl K σ fs l cs) : cs.length = (fs.map K.sz).sum := by
  match fs, l with
  | [], [] => simp only [CRl] at hc; subst hc; rfl
  | f :: fs, v :: l =>
    simp only [CRl] at hc
    obtain ⟨hs, a, b, rfl, ha, hb⟩ := hc
    have h1 := CR.len hK v a (by rw [hs]; exact hf f (List.mem_cons_self ..)) ha
    have h2 := CRl.len hK fs l b (fun g hg => hf g (List.mem_cons_of_mem _ hg)) hb
    simp only [List.length_append, List.map_cons, List.sum_cons, h1, h2, hs]
  | [], _ :: _ => simp only [CRl] at hc
  | _ :: _, [] => simp only [CRl] at hc
  termination_by SizeOf.sizeOf l
end

/-- One of a row's values: where its cells lie. -/
theorem CRl.at (hK : K.flat) : ∀ (fs : List Nat) (l : List V) (cs : List Value) (i : Nat) (x : V), (∀ f ∈ fs, K.fix f) → CRl K σ fs l cs → l[i]? = some x →
    ∃ a m b, cs = a ++ m ++ b ∧ CR K σ x m ∧ fs[i]? = some x.sh ∧ a.length = ((fs.take i).map K.sz).sum ∧
      ∀ y m', y.sh = x.sh → CR K σ y m' → CRl K σ fs (l.set i y) (a ++ m' ++ b) := by
  intro fs l
  induction l generalizing fs with
  | nil => intro cs i x _ _ h; simp at h
  | cons v l ih =>
    intro cs i x hf hc hx
    match fs with
    | [] => simp only [CRl] at hc
    | f :: fs =>
      simp only [CRl] at hc
      obtain ⟨hs, a, b, rfl, ha, hb⟩ := hc
      cases i with
      | zero =>
        simp only [List.getElem?_cons_zero, Option.some.injEq] at hx; subst hx
        refine ⟨[], a, b, rfl, ha, by simp [hs], rfl, fun y m' hy hm => ?_⟩
        simp only [List.set_cons_zero, CRl, List.nil_append]
        exact ⟨hy.trans hs, m', b, rfl, hm, hb⟩
      | succ i =>
        simp only [List.getElem?_cons_succ] at hx
        obtain ⟨a1, m, b1, e, hm, hfi, hl, hset⟩ := ih fs b i x (fun g hg => hf g (List.mem_cons_of_mem _ hg)) hb hx
        subst e
        refine ⟨a ++ a1, m, b1, by simp, hm, by simpa using hfi, ?_, fun y m' hy hm' => ?_⟩
        · have := CR.len hK v a (by rw [hs]; exact hf f (List.mem_cons_self ..)) ha
          simp [hl, this, hs]
        · simp only [List.set_cons_succ, CRl]
          exact ⟨hs, a, a1 ++ m' ++ b1, by simp, ha, hset y m' hy hm'⟩

theorem kids_offs {k n i f : Nat} {fs : List Nat} {p : List Nat} (hk : kids (K.S k) n = some fs) (hf : fs[i]? = some f) :
    offs K k (i :: p) = match offs K f p with | some (o, s) => some (((fs.take i).map K.sz).sum + o, s) | none => none := by
  unfold kids at hk
  simp only [offs]
  split at hk
  · rename_i gs hg
    split at hk
    · injection hk with hk; subst hk; simp only [hf]
    · cases hk
  · rename_i m e hg
    split at hk
    · injection hk with hk; subst hk
      rename_i hmn; subst hmn
      have hi : i < m := by
        have := (List.getElem?_eq_some_iff.1 hf).1; simpa using this
      have he : f = e := by
        have := List.mem_of_getElem? hf; exact (List.mem_replicate.1 this).2
      subst he
      have : min i m = i := by omega
      simp [hi, this]
    · cases hk
  · rename_i e hg
    injection hk with hk; subst hk
    have hi : i < n := by
      have := (List.getElem?_eq_some_iff.1 hf).1; simpa using this
    have he : f = e := by
      have := List.mem_of_getElem? hf; exact (List.mem_replicate.1 this).2
    subst he
    have : min i n = i := by omega
    simp [this]
  · cases hk

/-- A part of a value: where its cells lie, and what comes of it where the part is another one of the same shape and size. -/
theorem CR.sub (hK : K.flat) : ∀ (p : List Nat) (v : V) (cs : List Value) (x : V), CR K σ v cs → sub v p = some x →
    ∃ a m b, cs = a ++ m ++ b ∧ CR K σ x m ∧ offs K v.sh p = some (a.length, x.sh) ∧
      ∀ y m' v', y.sh = x.sh → CR K σ y m' → put v p y = some v' → CR K σ v' (a ++ m' ++ b) ∧ v'.sh = v.sh := by
  intro p
  induction p with
  | nil =>
    intro v cs x hc hs
    simp only [Rae.sub, Option.some.injEq] at hs; subst hs
    refine ⟨[], cs, [], by simp, hc, rfl, fun y m' v' hy hm hp => ?_⟩
    simp only [put, hy, if_true, Option.some.injEq] at hp; subst hp
    exact ⟨by simpa using hm, hy⟩
  | cons i p ih =>
    intro v cs x hc hs
    cases v with
    | agg k l =>
      simp only [Rae.sub] at hs
      cases hli : l[i]? with
      | none => rw [hli] at hs; cases hs
      | some y =>
        rw [hli] at hs
        simp only [CR] at hc
        obtain ⟨fs, hk, hl⟩ := hc
        obtain ⟨a, m, b, rfl, hm, hfi, hal, hset⟩ := CRl.at hK fs l cs i y (kids_fix hK hk) hl hli
        obtain ⟨a1, m1, b1, rfl, hm1, ho, hput⟩ := ih y m x hm hs
        refine ⟨a ++ a1, m1, b1 ++ b, by simp, hm1, ?_, fun z m' v' hz hm' hp => ?_⟩
        · show offs K k (i :: p) = _
          rw [kids_offs hk hfi, ho]; simp [hal]
        · simp only [put, hli] at hp
          cases hpy : put y p z with
          | none => rw [hpy] at hp; cases hp
          | some y' =>
            rw [hpy] at hp
            injection hp with hp; subst hp
            obtain ⟨h1, h2⟩ := hput z m' y' hz hm' hpy
            refine ⟨?_, rfl⟩
            simp only [CR]
            refine ⟨fs, by simpa using hk, ?_⟩
            have := hset y' (a1 ++ m' ++ b1) h2 h1
            simpa using this
    | _ => simp only [Rae.sub] at hs; cases hs

end
end Go.Rae
