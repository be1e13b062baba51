/- A check, by computing, that an intermediate code fits a code of the model. -/
import Derived.Test.YtannfoaobeoafaaDoorRaeFun
set_option linter.unusedVariables false
set_option linter.unusedSimpArgs false
namespace Go.Rae
open Go

section
variable (K : Ctx)

def fixB : Sh → Bool
  | .dyn _ => false
  | _ => true

def tyB (t sh : Nat) : Bool :=
  match K.P.info? t, K.P.underlying t with
  | some i, some d => Nat.beq i.size (K.sz sh) && (aggD d == aggS (K.S sh)) && fixB (K.S sh)
  | _, _ => false

def tyBb (t sh b : Nat) : Bool :=
  tyB K t sh && match K.P.info? t with
  | some i => Nat.beq i.bytes b
  | none => false

theorem fixB_ok {k : Nat} (h : fixB (K.S k) = true) : K.fix k := by
  intro e he; rw [he] at h; cases h

theorem tyBb_ok {t sh b : Nat} (h : tyBb K t sh b = true) : TyF K t sh b := by
  simp only [tyBb, tyB, Bool.and_eq_true] at h
  obtain ⟨h1, h2⟩ := h
  split at h1
  · rename_i i d hi hd
    rw [hi] at h2
    simp only [Bool.and_eq_true, beq_iff_eq] at h1
    exact ⟨⟨i, d, hi, hd, Nat.eq_of_beq_eq_true h1.1.1, Nat.eq_of_beq_eq_true h2, h1.1.2⟩, fixB_ok K h1.2⟩
  · cases h1

theorem tyB_ok {t sh : Nat} (h : tyB K t sh = true) : ∃ b, TyF K t sh b := by
  cases hi : K.P.info? t with
  | none => simp [tyB, hi] at h
  | some i => exact ⟨i.bytes, tyBb_ok K (by simp [tyBb, h, hi])⟩

def fldsB (chk : Field → Nat → Bool) : List Field → List Nat → Nat → Bool
  | [], [], _ => true
  | f :: fl, s :: fs, o => Nat.beq f.offset o && tyB K f.type s && chk f s && fldsB chk fl fs (o + K.sz s)
  | _, _, _ => false

theorem fldsB_ok {chk : Field → Nat → Bool} : ∀ {fl : List Field} {fs : List Nat} {o : Nat}, fldsB K chk fl fs o = true →
    fl.length = fs.length ∧ ∀ (k : Nat) (f : Field), fl[k]? = some f → ∃ s b, fs[k]? = some s ∧ f.offset = o + ((fs.take k).map K.sz).sum ∧ TyF K f.type s b ∧ chk f s = true := by
  intro fl
  induction fl with
  | nil =>
    intro fs o h
    cases fs with
    | nil => exact ⟨rfl, fun k f hk => by simp at hk⟩
    | cons => simp [fldsB] at h
  | cons f fl ih =>
    intro fs o h
    cases fs with
    | nil => simp [fldsB] at h
    | cons s fs =>
      simp only [fldsB, Bool.and_eq_true] at h
      obtain ⟨⟨⟨h1, h2⟩, h3⟩, h4⟩ := h
      obtain ⟨hl, hk⟩ := ih h4
      refine ⟨by simp [hl], fun k g hg => ?_⟩
      cases k with
      | zero =>
        simp only [List.getElem?_cons_zero, Option.some.injEq] at hg; subst hg
        obtain ⟨b, hb⟩ := tyB_ok K h2
        exact ⟨s, b, rfl, by simpa using Nat.eq_of_beq_eq_true h1, hb, h3⟩
      | succ k =>
        simp only [List.getElem?_cons_succ] at hg
        obtain ⟨s', b, h5, h6, h7, h8⟩ := hk k g hg
        refine ⟨s', b, by simpa using h5, ?_, h7, h8⟩
        rw [h6]; simp [Nat.add_assoc]

def stB (t sh : Nat) : Bool :=
  match K.P.underlying t, K.S sh with
  | some (.struct flds), .str fs => fldsB K (fun _ s => !Nat.beq (K.sz s) 0) flds.toList fs 0
  | _, _ => false

theorem stB_ok {t sh : Nat} (h : stB K t sh = true) : ∃ fs, StF K t sh fs := by
  unfold stB at h
  split at h
  · rename_i flds fs hu hS
    obtain ⟨hl, hk⟩ := fldsB_ok K h
    refine ⟨fs, ⟨hS, flds, hu, by simpa using hl, fun k f hf => ?_⟩⟩
    obtain ⟨s, b, h1, h2, h3, h4⟩ := hk k f (by simpa using hf)
    refine ⟨s, b, h1, by simpa using h2, h3, ?_⟩
    intro e
    rw [e] at h4; simp at h4
  · cases h

def dtB : Nat → TypeId → Nat → Bool
  | 0, _, _ => false
  | d + 1, t, sh => match K.P.underlying t, K.S sh with
    | some .bool, _ => Nat.beq sh 0
    | some .string, _ => Nat.beq sh 2
    | some (.int k), _ => Nat.beq sh (kindNo k)
    | some (.struct flds), .str fs => !K.P.stoodInHeld t && fldsB K (fun f s => (f.name != "_") && dtB d f.type s) flds.toList fs 0
    | some (.array n el), .arr m e => Nat.beq n m && tyB K el e && dtB d el e
    | _, _ => false

theorem dtB_ok : ∀ (d : Nat) (t : TypeId) (sh : Nat), dtB K d t sh = true → DT K d t sh := by
  intro d
  induction d with
  | zero => intro t sh h; cases h
  | succ d ih =>
    intro t sh h
    simp only [dtB] at h
    split at h
    · rename_i hu; rw [Nat.eq_of_beq_eq_true h]; exact .bool hu
    · rename_i hu; rw [Nat.eq_of_beq_eq_true h]; exact .str hu
    · rename_i k hu; rw [Nat.eq_of_beq_eq_true h]; exact .int hu
    · rename_i flds fs hu hS
      simp only [Bool.and_eq_true, Bool.not_eq_true'] at h
      obtain ⟨h1, h2⟩ := h
      obtain ⟨hl, hk⟩ := fldsB_ok K h2
      refine .struct hu h1 hS (by simpa using hl) (fun k f hf => ?_) (fun k f s hf hs => ?_)
      · obtain ⟨s, b, h3, h4, h5, h6⟩ := hk k f (by simpa using hf)
        simp only [Bool.and_eq_true, bne_iff_ne, ne_eq] at h6
        exact ⟨h6.1, s, b, h3, by simpa using h4, h5⟩
      · obtain ⟨s', b, h3, h4, h5, h6⟩ := hk k f (by simpa using hf)
        rw [hs] at h3; injection h3 with h3; subst h3
        simp only [Bool.and_eq_true] at h6
        exact ih _ _ h6.2
    · rename_i n el m e hu hS
      simp only [Bool.and_eq_true] at h
      obtain ⟨⟨h1, h2⟩, h3⟩ := h
      obtain ⟨b, hb⟩ := tyB_ok K h2
      have := Nat.eq_of_beq_eq_true h1; subst this
      exact .arr hu hS hb (ih _ _ h3)
    · cases h

/-! ### constants -/

def scB : V → Value → Bool
  | .b x, .bool y => x == y
  | .i k n, .int k' m => k == k' && n == m
  | .s l, .string b => l == b.data.toList
  | .nilp, .pointer none => true
  | .nilsl, .slice none a b => Nat.beq a 0 && Nat.beq b 0
  | .nilm, .map none => true
  | .nilc, .chan none => true
  | .nilf, .nilFunc => true
  | .nili, .nilIface => true
  | _, _ => false

theorem scB_ok {v : V} {c : Value} (h : scB v c = true) (σ : Sig) : CR K σ v [c] := by
  unfold scB at h
  split at h
  · rw [beq_iff_eq] at h; subst h; simp only [CR, SR, SR0]; exact ⟨_, rfl, rfl⟩
  · rw [Bool.and_eq_true, beq_iff_eq, beq_iff_eq] at h; rw [h.1, h.2]; simp only [CR, SR, SR0]; exact ⟨_, rfl, rfl⟩
  · rename_i b
    rw [beq_iff_eq] at h; subst h; simp only [CR, SR, SR0]; exact ⟨_, rfl, by cases b; rfl⟩
  · simp only [CR, SR, SR0]; exact ⟨_, rfl, rfl⟩
  · rw [Bool.and_eq_true] at h
    rw [Nat.eq_of_beq_eq_true h.1, Nat.eq_of_beq_eq_true h.2]
    simp only [CR, SR, SR0]; exact ⟨_, rfl, rfl⟩
  · simp only [CR, SR, SR0]; exact ⟨_, rfl, rfl⟩
  · simp only [CR, SR, SR0]; exact ⟨_, rfl, rfl⟩
  · simp only [CR, SR, SR0]; exact ⟨_, rfl, rfl⟩
  · simp only [CR, SR, SR0]; exact ⟨_, rfl, rfl⟩
  · cases h

mutual
def eatB : V → List Value → Option (List Value)
  | .agg k l, cs => match kids (K.S k) l.length with
    | some fs => eatsB fs l cs
    | none => none
  | v, c :: r => if scB v c then some r else none
  | _, [] => none
def eatsB : List Nat → List V → List Value → Option (List Value)
  | [], [], cs => some cs
  | f :: fs, v :: l, cs => if Nat.beq v.sh f then match eatB v cs with
      | some r => eatsB fs l r
      | none => none
    else none
  | _, _, _ => none
end

theorem eat_sc {v : V} (hv : ∀ k l, v ≠ .agg k l) {cs r : List Value} (h : eatB K v cs = some r) : ∃ a, cs = a ++ r ∧ ∀ σ, CR K σ v a := by
  cases cs with
  | nil => cases v <;> first | (simp [eatB] at h; done) | exact absurd rfl (hv _ _)
  | cons c cs =>
    have h1 : (if scB v c then some cs else none) = some r := by
      cases v <;> first | exact absurd rfl (hv _ _) | simpa only [eatB] using h
    split at h1
    · rename_i hs
      injection h1 with h1; subst h1
      exact ⟨[c], rfl, scB_ok K hs⟩
    · cases h1

mutual
theorem eatB_ok (v : V) (cs r : List Value) (h : eatB K v cs = some r) : ∃ a, cs = a ++ r ∧ ∀ σ, CR K σ v a := by
  cases v with
  | agg k l =>
    cases hk : kids (K.S k) l.length with
    | none => cases cs <;> simp [eatB, hk] at h
    | some fs =>
      have : eatsB K fs l cs = some r := by cases cs <;> simpa [eatB, hk] using h
      obtain ⟨a, h1, h2⟩ := eatsB_ok fs l cs r this
      exact ⟨a, h1, fun σ => by simp only [CR]; exact ⟨fs, hk, h2 σ⟩⟩
  | _ => exact eat_sc K (by intro k l e; cases e) h
  termination_by SizeOf.sizeOf v
theorem eatsB_ok (fs : List Nat) (l : List V) (cs r : List Value) (h : eatsB K fs l cs = some r) : ∃ a, cs = a ++ r ∧ ∀ σ, CRl K σ fs l a := by
  match fs, l with
  | [], [] =>
    simp only [eatsB, Option.some.injEq] at h; subst h
    exact ⟨[], rfl, fun σ => by simp only [CRl]⟩
  | f :: fs, v :: l =>
    simp only [eatsB] at h
    split at h
    · rename_i hs
      split at h
      · rename_i r1 h1
        obtain ⟨a, e1, ha⟩ := eatB_ok v cs r1 h1
        obtain ⟨b, e2, hb⟩ := eatsB_ok fs l r1 r h
        refine ⟨a ++ b, by rw [e1, e2, List.append_assoc], fun σ => ?_⟩
        simp only [CRl]
        exact ⟨Nat.eq_of_beq_eq_true hs, a, b, rfl, ha σ, hb σ⟩
      · cases h
    · cases h
  | [], _ :: _ => simp [eatsB] at h
  | _ :: _, [] => simp [eatsB] at h
  termination_by SizeOf.sizeOf l
end

def isNil : Option (List Value) → Bool
  | some [] => true
  | _ => false

def valB (v : V) (c : Value) : Bool :=
  match v, c with
  | .agg k l, .agg arr => isNil (eatB K (.agg k l) arr.toList)
  | .agg _ _, _ => false
  | .tup [], .tuple arr => arr.toList.isEmpty
  | .tup _, _ => false
  | v, c => isNil (eatB K v [c])

theorem valB_ok {v : V} {c : Value} (h : valB K v c = true) : ∀ σ, VR K σ v c := by
  intro σ
  have key : ∀ {v : V} {cs : List Value}, isNil (eatB K v cs) = true → CR K σ v cs := by
    intro v cs h
    unfold isNil at h
    split at h
    · rename_i he
      obtain ⟨a, h1, h2⟩ := eatB_ok K v cs [] he
      rw [h1, List.append_nil]; exact h2 σ
    · cases h
  unfold valB at h
  split at h
  · simp only [VR, VR1]; exact ⟨_, rfl, key h⟩
  · cases h
  · rename_i arr
    simp only [VR]
    refine ⟨arr, rfl, ?_⟩
    have : arr.toList = [] := by simpa using h
    rw [this]; exact .nil
  · cases h
  · have HA : ∀ k l, v ≠ .agg k l := by intro k l e; subst e; simp_all
    have HT : ∀ l, v ≠ .tup l := by intro l e; subst e; simp_all
    have hc := key h
    cases v with
    | agg k l => exact absurd rfl (HA k l)
    | tup l => exact absurd rfl (HT l)
    | _ =>
      simp only [CR] at hc
      obtain ⟨x, hx, hs⟩ := hc
      injection hx with hx; subst hx
      simpa only [VR, VR1] using hs

def zB (t : TypeId) (z : V) : Bool :=
  (!z.isTup) && match K.P.info? t with
  | some i => match i.zero with
    | some z' => valB K z z'
    | none => false
  | none => false

theorem zB_ok {t : TypeId} {z : V} (h : zB K t z = true) : ZF K t z := by
  simp only [zB, Bool.and_eq_true, Bool.not_eq_true'] at h
  obtain ⟨h1, h2⟩ := h
  split at h2
  · rename_i i hi
    split at h2
    · rename_i z' hz
      exact ⟨⟨i, z', hi, hz, valB_ok K h2⟩, notTup h1⟩
    · cases h2
  · cases h2

/-! ### operands -/

def odB : Od → Operand → Bool
  | .t n, .tmp m => Nat.beq n m
  | .c v, .const c => valB K v c
  | .f id, .func f => Nat.beq (K.fid id) f
  | _, _ => false

theorem odB_ok {x : Od} {y : Operand} (h : odB K x y = true) : OdOK K x y := by
  unfold odB at h
  split at h
  · rw [Nat.eq_of_beq_eq_true h]; exact .t
  · exact .c (valB_ok K h)
  · rw [← Nat.eq_of_beq_eq_true h]; exact .f
  · cases h

def odsB : List Od → List Operand → Bool
  | [], [] => true
  | x :: l, y :: m => odB K x y && odsB l m
  | _, _ => false

theorem odsB_ok : ∀ {l : List Od} {m : List Operand}, odsB K l m = true → OdsOK K l m := by
  intro l
  induction l with
  | nil => intro m h; cases m with
    | nil => exact .nil
    | cons => simp [odsB] at h
  | cons x l ih => intro m h; cases m with
    | nil => simp [odsB] at h
    | cons y m => simp only [odsB, Bool.and_eq_true] at h; exact .cons (odB_ok K h.1) (ih h.2)

def ovB : Option Od → Option Operand → Bool
  | none, none => true
  | some x, some y => odB K x y
  | _, _ => false

theorem ovB_ok {x : Option Od} {y : Option Operand} (h : ovB K x y = true) : OvOK K x y := by
  unfold ovB at h
  split at h
  · exact .none
  · exact .some (odB_ok K h)
  · cases h

def psB : List (Nat × Od) → List (Nat × Operand) → Bool
  | [], [] => true
  | (i, x) :: l, (j, y) :: m => Nat.beq i j && odB K x y && psB l m
  | _, _ => false

theorem psB_ok : ∀ {l : List (Nat × Od)} {m : List (Nat × Operand)}, psB K l m = true → PsOK K l m := by
  intro l
  induction l with
  | nil => intro m h; cases m with
    | nil => exact .nil
    | cons => simp [psB] at h
  | cons x l ih => intro m h; cases m with
    | nil => simp [psB] at h
    | cons y m =>
      obtain ⟨i, x⟩ := x
      obtain ⟨j, y⟩ := y
      simp only [psB, Bool.and_eq_true] at h
      rw [Nat.eq_of_beq_eq_true h.1.1]
      exact .cons (odB_ok K h.1.2) (ih h.2)

end
end Go.Rae

/- A check, by computing, that an intermediate code fits a code of the model: operations, codes, functions. -/
namespace Go.Rae
open Go

section
variable (K : Ctx)

def nilB (k : Nat) (d : TypeDesc) : Bool :=
  match k, d with
  | 0, .pointer _ => true
  | 1, .slice _ => true
  | 2, .map _ _ => true
  | 3, .func _ _ _ => true
  | 4, .interface _ => true
  | _, _ => false

theorem nilB_ok {k : Nat} {d : TypeDesc} (h : nilB k d = true) : nilKind k d := by
  unfold nilB at h
  split at h <;> first | trivial | cases h

def isC : Operand → Bool
  | .const _ => true
  | _ => false

theorem isC_ok {x : Operand} (h : isC x = true) : ∃ v, x = .const v := by
  cases x <;> first | exact ⟨_, rfl⟩ | cases h

theorem blt_ok {a b : Nat} (h : Nat.blt a b = true) : a < b := Nat.le_of_ble_eq_true h

def negB (neg : Bool) : BinOp → Bool
  | .neq => neg
  | .eql => !neg
  | _ => false

theorem negB_ok {neg : Bool} {b : BinOp} (h : negB neg b = true) : b = if neg then .neq else .eql := by
  cases b <;> first | (cases neg <;> first | rfl | cases h) | cases h

def selem (t : TypeId) : Option TypeId :=
  match K.P.underlying t with
  | some (.slice el) => some el
  | _ => none

theorem selem_ok {t el : TypeId} (h : selem K t = some el) : K.P.underlying t = some (.slice el) := by
  unfold selem at h
  split at h
  · rename_i hu; injection h with h; subst h; exact hu
  · cases h

def sdyn (d e : Nat) : Bool :=
  match K.S d with
  | .dyn x => Nat.beq x e
  | _ => false

theorem sdyn_ok {d e : Nat} (h : sdyn K d e = true) : K.S d = .dyn e := by
  unfold sdyn at h
  split at h
  · rename_i hs; rw [hs, Nat.eq_of_beq_eq_true h]
  · cases h

def sarr (a n e : Nat) : Bool :=
  match K.S a with
  | .arr m x => Nat.beq m n && Nat.beq x e
  | _ => false

theorem sarr_ok {a n e : Nat} (h : sarr K a n e = true) : K.S a = .arr n e := by
  unfold sarr at h
  split at h
  · rename_i hs
    rw [Bool.and_eq_true] at h
    rw [hs, Nat.eq_of_beq_eq_true h.1, Nat.eq_of_beq_eq_true h.2]
  · cases h

def isTy (t : TypeId) (f : TypeDesc → Bool) : Bool :=
  match K.P.underlying t with
  | some d => f d
  | none => false

theorem isTy_ok {t : TypeId} {f : TypeDesc → Bool} (h : isTy K t f = true) : ∃ d, K.P.underlying t = some d ∧ f d = true := by
  unfold isTy at h
  split at h
  · exact ⟨_, ‹_›, h⟩
  · cases h

def isStr : TypeDesc → Bool
  | .string => true
  | _ => false
def isBool : TypeDesc → Bool
  | .bool => true
  | _ => false
def isInt (k : IntKind) : TypeDesc → Bool
  | .int k' => k == k'
  | _ => false
def isArr (n el : Nat) : TypeDesc → Bool
  | .array m e => Nat.beq m n && Nat.beq e el
  | _ => false
def notIf : TypeDesc → Bool
  | .interface _ => false
  | _ => true
def nInt : TypeDesc → Bool
  | .int _ => false
  | _ => true

theorem str_ok {t : TypeId} (h : isTy K t isStr = true) : K.P.underlying t = some .string := by
  obtain ⟨d, hd, hf⟩ := isTy_ok K h
  cases d <;> first | exact hd | cases hf
theorem bool_ok {t : TypeId} (h : isTy K t isBool = true) : K.P.underlying t = some .bool := by
  obtain ⟨d, hd, hf⟩ := isTy_ok K h
  cases d <;> first | exact hd | cases hf
theorem int_ok {t : TypeId} {k : IntKind} (h : isTy K t (isInt k) = true) : K.P.underlying t = some (.int k) := by
  obtain ⟨d, hd, hf⟩ := isTy_ok K h
  cases d <;> first | (simp only [isInt, beq_iff_eq] at hf; subst hf; exact hd) | cases hf
theorem any_ty {t : TypeId} (h : isTy K t (fun _ => true) = true) : ∃ d, K.P.underlying t = some d := by
  obtain ⟨d, hd, _⟩ := isTy_ok K h; exact ⟨d, hd⟩

/-- An array type's element. -/
def aelem (t : TypeId) : Option (Nat × TypeId) :=
  match K.P.underlying t with
  | some (.array n el) => some (n, el)
  | _ => none

theorem aelem_ok {t n el : Nat} (h : aelem K t = some (n, el)) : K.P.underlying t = some (.array n el) := by
  unfold aelem at h
  split at h
  · rename_i hu; injection h with h; injection h with h1 h2; subst h1 h2; exact hu
  · cases h

/-- An array type of such a shape, so many elements of such a shape. -/
def arrB (t a n e : Nat) : Bool :=
  sarr K a n e && match aelem K t with
  | some (m, el) => Nat.beq m n && tyB K el e
  | none => false

theorem arrB_ok {t a n e : Nat} (h : arrB K t a n e = true) : ∃ el b, K.P.underlying t = some (.array n el) ∧ K.S a = .arr n e ∧ TyF K el e b := by
  simp only [arrB, Bool.and_eq_true] at h
  obtain ⟨h1, h2⟩ := h
  split at h2
  · rename_i m el he
    rw [Bool.and_eq_true] at h2
    have := Nat.eq_of_beq_eq_true h2.1; subst this
    obtain ⟨b, hb⟩ := tyB_ok K h2.2
    exact ⟨el, b, aelem_ok K he, sarr_ok K h1, hb⟩
  · cases h2

def slB (t e : Nat) : Bool :=
  match selem K t with
  | some el => tyB K el e
  | none => false

theorem slB_ok {t e : Nat} (h : slB K t e = true) : ∃ el b, K.P.underlying t = some (.slice el) ∧ TyF K el e b := by
  unfold slB at h
  split at h
  · rename_i el he
    obtain ⟨b, hb⟩ := tyB_ok K h
    exact ⟨el, b, selem_ok K he, hb⟩
  · cases h

/-- A slice type: its element's shape, bytes, zero. -/
def slBz (t d e b : Nat) (z : V) : Bool :=
  sdyn K d e && Nat.beq z.sh e && match selem K t with
  | some el => tyBb K el e b && zB K el z
  | none => false

theorem slBz_ok {t d e b : Nat} {z : V} (h : slBz K t d e b z = true) : ∃ el, K.P.underlying t = some (.slice el) ∧ TyF K el e b ∧ ZF K el z ∧ z.sh = e ∧ K.S d = .dyn e := by
  simp only [slBz, Bool.and_eq_true] at h
  obtain ⟨⟨h1, h2⟩, h3⟩ := h
  split at h3
  · rename_i el he
    rw [Bool.and_eq_true] at h3
    exact ⟨el, selem_ok K he, tyBb_ok K h3.1, zB_ok K h3.2, Nat.eq_of_beq_eq_true h2, sdyn_ok K h1⟩
  · cases h3

/-- The zero value of a type, out of the table. -/
def zOf (t : TypeId) (z : V) : Bool := zB K t z

def callB (zs : List (Nat × V)) : IOp → Call → Bool
  | .call f args, ⟨.value f', cargs, _⟩ => odB K f f' && odsB K args cargs.toList
  | .lenS x, ⟨.builtin .len, cargs, ats⟩ => match cargs.toList, ats.toList with
    | [y], [t] => isTy K t isStr && odB K x y
    | _, _ => false
  | .lenL x, ⟨.builtin .len, cargs, ats⟩ => match cargs.toList, ats.toList with
    | [y], [t] => (selem K t).isSome && odB K x y
    | _, _ => false
  | .app d e b x a, ⟨.builtin .append, cargs, ats⟩ => match cargs.toList, ats.toList with
    | [y, c], [sT, xT] => isTy K xT nInt && Nat.blt 0 b && odB K x y && odB K a c && (match selem K sT with
      | some el => zs.any fun p => Nat.beq p.1 el && slBz K sT d e b p.2
      | none => false)
    | _, _ => false
  | .appS d b x a, ⟨.builtin .append, cargs, ats⟩ => match cargs.toList, ats.toList with
    | [y, c], [sT, xT] => isTy K xT nInt && Nat.blt 0 b && odB K x y && odB K a c && (match selem K sT with
      | some el => zs.any fun p => Nat.beq p.1 el && slBz K sT d 7 b p.2
      | none => false)
    | _, _ => false
  | .cpy e x a, ⟨.builtin .copy, cargs, ats⟩ => match cargs.toList, ats.toList with
    | [y, c], [dT, _] => slB K dT e && odB K x y && odB K a c
    | _, _ => false
  | .cpyS x a, ⟨.builtin .copy, cargs, ats⟩ => match cargs.toList, ats.toList with
    | [y, c], [dT, _] => slB K dT 7 && odB K x y && odB K a c
    | _, _ => false
  | .mx args, ⟨.builtin .max, cargs, _⟩ => odsB K args cargs.toList
  | .mn args, ⟨.builtin .min, cargs, _⟩ => odsB K args cargs.toList
  | _, _ => false

def opB (zs : List (Nat × V)) : IOp → Op → Bool
  | .no, _ => true
  | .rngS x, .range t y => isTy K t isStr && odB K x y
  | .nxtS x, .next y true => odB K x y
  | .mv x, .move y => odB K x y
  | .mv x, .assign y => odB K x y
  | .pick c a b, .pick c' a' b' => odB K c c' && odB K a a' && odB K b b'
  | .box sh x, .box t y => tyB K t sh && odB K x y
  | .box sh (.c z), .alloc t => tyB K t sh && zB K t z
  | .build sh z ps, .build t cps => stB K t sh && zB K t (.agg sh z) && psB K ps cps.toList
  | .bsl d e z n ps, .buildSlice t m cps => Nat.beq n m && (match selem K t with
      | some el => tyB K el e && zB K el z
      | none => false) && Nat.beq z.sh e && sdyn K d e && Nat.blt 0 (K.sz e) && Nat.ble (n * K.sz e) 16777216 && psB K ps cps.toList
  | .load sh x, .load t y => tyB K t sh && odB K x y
  | .store sh x a, .store t y c => tyB K t sh && odB K x y && odB K a c
  | .nilck x, .nilCheck y => odB K x y
  | .bin op x a, .binOp op' _ y b _ => (op == op') && odB K x y && odB K a b
  | .eqv sh neg x a, .binOp op t y b _ => negB neg op && dtB K 40 t sh && Nat.blt 10 sh && !Nat.beq sh 65535 && !K.P.eqGuardType K.P.depth t && odB K x y && odB K a b
  | .eqb neg x a, .binOp op t y b _ => negB neg op && isTy K t isBool && odB K x y && odB K a b
  | .eqn k neg x a, .binOp op t y b _ => negB neg op && isTy K t (nilB k) && (isC y || isC b) && odB K x y && odB K a b
  | .un op x, .unOp op' _ y => (op == op') && odB K x y
  | .cint k x, .convert src dst y => isTy K src (fun _ => true) && isTy K dst (isInt k) && odB K x y
  | .cid x, .convert src dst y => isTy K src (fun _ => true) && isTy K dst isStr && odB K x y
  | .cbs x, .convert src dst y => (match selem K src with
      | some el => isTy K el (isInt .u8)
      | none => false) && isTy K dst isStr && odB K x y
  | .csb dn x, .convert src dst y => isTy K src (fun _ => true) && (match selem K dst with
      | some el => isTy K el (isInt .u8)
      | none => false) && sdyn K dn 7 && odB K x y
  | .ifc tid x, .makeInterface t y => isTy K t notIf && Nat.beq (K.tid tid) t && odB K x y
  | .mkf f caps, .makeFunc (.func g) first ccaps => Nat.beq (K.fid f) g && first.toList.isEmpty && odsB K caps ccaps.toList
  | .msl d e z b x a, .makeSlice t y c => slBz K t d e b z && Nat.blt 0 (K.sz e) && odB K x y && odB K a c
  | .slS x lo hi, .slice t y lo' hi' none => isTy K t isStr && odB K x y && ovB K lo lo' && ovB K hi hi'
  | .slL e x lo hi mx, .slice t y lo' hi' mx' => slB K t e && odB K x y && ovB K lo lo' && ovB K hi hi' && ovB K mx mx'
  | .slA a e n x lo hi mx, .slice t y lo' hi' mx' => arrB K t a n e && odB K x y && ovB K lo lo' && ovB K hi hi' && ovB K mx mx'
  | .fa sh k s x, .fieldAddr t y k' => Nat.beq k k' && stB K t sh && (match K.S sh with
      | .str fs => (match fs[k]? with
        | some s' => Nat.beq s' s
        | none => false)
      | _ => false) && odB K x y
  | .fld sh k x, .field t y k' => Nat.beq k k' && stB K t sh && odB K x y
  | .iaA a e n x i, .indexAddr t y j => arrB K t a n e && odB K x y && odB K i j
  | .iaL e x i, .indexAddr t y j => slB K t e && odB K x y && odB K i j
  | .ixA a n x i, .index t y j => (match K.S a with
      | .arr _ e => arrB K t a n e
      | _ => false) && odB K x y && odB K i j
  | .ixS x i, .index t y j => isTy K t isStr && odB K x y && odB K i j
  | .ext x i, .extract y j => Nat.beq i j && odB K x y
  | op, .call c => callB K zs op c
  | _, _ => false

theorem arr2 {α : Type} {a : Array α} {x y : α} (h : a.toList = [x, y]) : a = #[x, y] := by
  cases a; simp only at h; subst h; rfl
theorem arr1 {α : Type} {a : Array α} {x : α} (h : a.toList = [x]) : a = #[x] := by
  cases a; simp only at h; subst h; rfl
theorem arr0 {α : Type} {a : Array α} (h : a.toList.isEmpty = true) : a = #[] := by
  cases a; simp only [List.isEmpty_iff] at h; subst h; rfl

theorem callB_ok {zs : List (Nat × V)} {i : IOp} {c : Call} (h : callB K zs i c = true) : OpOK K i (.call c) := by
  unfold callB at h
  split at h
  · rw [Bool.and_eq_true] at h
    exact .call (odB_ok K h.1) (odsB_ok K h.2)
  · split at h
    · rename_i h1 h2
      rw [Bool.and_eq_true] at h
      rw [arr1 h1, arr1 h2]
      exact .lenS (str_ok K h.1) (odB_ok K h.2)
    · cases h
  · split at h
    · rename_i t h1 h2
      rw [Bool.and_eq_true] at h
      rw [arr1 h1, arr1 h2]
      cases he : selem K t with
      | none => rw [he] at h; cases h.1
      | some el => exact .lenL (selem_ok K he) (odB_ok K h.2)
    · cases h
  · split at h
    · rename_i sT xT h1 h2
      simp only [Bool.and_eq_true] at h
      obtain ⟨⟨⟨⟨k1, k2⟩, k3⟩, k4⟩, k5⟩ := h
      rw [arr2 h1, arr2 h2]
      split at k5
      · rename_i el he
        rw [List.any_eq_true] at k5
        obtain ⟨p, _, hp⟩ := k5
        rw [Bool.and_eq_true] at hp
        obtain ⟨el', g1, g2, g3, g4, g5⟩ := slBz_ok K hp.2
        obtain ⟨d', hd, hn⟩ := isTy_ok K k1
        exact .app g1 hd (fun k e => by subst e; cases hn) g2 g3 g4 (blt_ok k2) g5 (odB_ok K k3) (odB_ok K k4)
      · cases k5
    · cases h
  · split at h
    · rename_i sT xT h1 h2
      simp only [Bool.and_eq_true] at h
      obtain ⟨⟨⟨⟨k1, k2⟩, k3⟩, k4⟩, k5⟩ := h
      rw [arr2 h1, arr2 h2]
      split at k5
      · rename_i el he
        rw [List.any_eq_true] at k5
        obtain ⟨p, _, hp⟩ := k5
        rw [Bool.and_eq_true] at hp
        obtain ⟨el', g1, g2, g3, g4, g5⟩ := slBz_ok K hp.2
        obtain ⟨d', hd, hn⟩ := isTy_ok K k1
        exact .appS g1 hd (fun k e => by subst e; cases hn) g2 g3 g4 (blt_ok k2) g5 (odB_ok K k3) (odB_ok K k4)
      · cases k5
    · cases h
  · split at h
    · rename_i h1 h2
      simp only [Bool.and_eq_true] at h
      rw [arr2 h1, arr2 h2]
      obtain ⟨el, b, g1, g2⟩ := slB_ok K h.1.1
      exact .cpy g1 g2 (odB_ok K h.1.2) (odB_ok K h.2)
    · cases h
  · split at h
    · rename_i h1 h2
      simp only [Bool.and_eq_true] at h
      rw [arr2 h1, arr2 h2]
      obtain ⟨el, b, g1, g2⟩ := slB_ok K h.1.1
      exact .cpyS g1 g2 (odB_ok K h.1.2) (odB_ok K h.2)
    · cases h
  · exact .mx (odsB_ok K h)
  · exact .mn (odsB_ok K h)
  · cases h

theorem bop_eq {a b : BinOp} (h : (a == b) = true) : a = b := by
  cases a <;> cases b <;> first | rfl | (revert h; decide)

set_option maxHeartbeats 1000000 in
theorem opB_ok {zs : List (Nat × V)} {i : IOp} {o : Op} (h : opB K zs i o = true) : OpOK K i o := by
  unfold opB at h
  split at h
  · exact .no
  · rw [Bool.and_eq_true] at h
    exact .rngS (str_ok K h.1) (odB_ok K h.2)
  · exact .nxtS (odB_ok K h)
  · exact .mv (odB_ok K h)
  · exact .asg (odB_ok K h)
  · simp only [Bool.and_eq_true] at h
    exact .pick (odB_ok K h.1.1) (odB_ok K h.1.2) (odB_ok K h.2)
  · simp only [Bool.and_eq_true] at h
    obtain ⟨b, hb⟩ := tyB_ok K h.1
    exact .box hb (odB_ok K h.2)
  · simp only [Bool.and_eq_true] at h
    obtain ⟨b, hb⟩ := tyB_ok K h.1
    exact .alloc hb (zB_ok K h.2)
  · simp only [Bool.and_eq_true] at h
    obtain ⟨fs, hs⟩ := stB_ok K h.1.1
    exact .build hs (zB_ok K h.1.2) (psB_ok K h.2)
  · simp only [Bool.and_eq_true] at h
    obtain ⟨⟨⟨⟨⟨⟨h1, h2⟩, h3⟩, h4⟩, h5⟩, h6⟩, h7⟩ := h
    rw [← Nat.eq_of_beq_eq_true h1]
    split at h2
    · rename_i el he
      rw [Bool.and_eq_true] at h2
      obtain ⟨b, hb⟩ := tyB_ok K h2.1
      exact .bsl (selem_ok K he) hb (zB_ok K h2.2) (Nat.eq_of_beq_eq_true h3) (sdyn_ok K h4) (blt_ok h5) (by simpa using h6) (psB_ok K h7)
    · cases h2
  · simp only [Bool.and_eq_true] at h
    obtain ⟨b, hb⟩ := tyB_ok K h.1
    exact .load hb (odB_ok K h.2)
  · simp only [Bool.and_eq_true] at h
    obtain ⟨b, hb⟩ := tyB_ok K h.1.1
    exact .store hb (odB_ok K h.1.2) (odB_ok K h.2)
  · exact .nilck (odB_ok K h)
  · simp only [Bool.and_eq_true] at h
    rw [bop_eq h.1.1]
    exact .bin (odB_ok K h.1.2) (odB_ok K h.2)
  · simp only [Bool.and_eq_true, Bool.not_eq_true'] at h
    obtain ⟨⟨⟨⟨⟨⟨h1, h2⟩, h3⟩, h4⟩, h5⟩, h6⟩, h7⟩ := h
    rw [negB_ok h1]
    exact .eqv (dtB_ok K _ _ _ h2) (by omega) (blt_ok h3) (fun e => by subst e; simp at h4) h5 (odB_ok K h6) (odB_ok K h7)
  · simp only [Bool.and_eq_true] at h
    rw [negB_ok h.1.1.1]
    exact .eqb (bool_ok K h.1.1.2) (odB_ok K h.1.2) (odB_ok K h.2)
  · simp only [Bool.and_eq_true, Bool.or_eq_true] at h
    rw [negB_ok h.1.1.1.1]
    obtain ⟨d, hd, hn⟩ := isTy_ok K h.1.1.1.2
    exact .eqn hd (nilB_ok hn) (h.1.1.2.imp isC_ok isC_ok) (odB_ok K h.1.2) (odB_ok K h.2)
  · simp only [Bool.and_eq_true] at h
    rename_i op x op' t y
    have : op = op' := by
      have := h.1
      cases op <;> cases op' <;> first | rfl | (revert this; decide)
    rw [this]
    exact .un (odB_ok K h.2)
  · simp only [Bool.and_eq_true] at h
    obtain ⟨d, hd⟩ := any_ty K h.1.1
    exact .cint hd (int_ok K h.1.2) (odB_ok K h.2)
  · simp only [Bool.and_eq_true] at h
    obtain ⟨d, hd⟩ := any_ty K h.1.1
    exact .cid hd (str_ok K h.1.2) (odB_ok K h.2)
  · simp only [Bool.and_eq_true] at h
    obtain ⟨⟨h1, h2⟩, h3⟩ := h
    split at h1
    · rename_i el he
      exact .cbs (selem_ok K he) (str_ok K h2) (int_ok K h1) (odB_ok K h3)
    · cases h1
  · simp only [Bool.and_eq_true] at h
    obtain ⟨⟨⟨h1, h2⟩, h3⟩, h4⟩ := h
    obtain ⟨d, hd⟩ := any_ty K h1
    split at h2
    · rename_i el he
      exact .csb hd (selem_ok K he) (int_ok K h2) (sdyn_ok K h3) (odB_ok K h4)
    · cases h2
  · simp only [Bool.and_eq_true] at h
    obtain ⟨d, hd, hn⟩ := isTy_ok K h.1.1
    exact .ifc hd (fun ms e => by subst e; cases hn) (Nat.eq_of_beq_eq_true h.1.2) (odB_ok K h.2)
  · simp only [Bool.and_eq_true] at h
    rw [arr0 h.1.2]
    exact .mkf (Nat.eq_of_beq_eq_true h.1.1) (odsB_ok K h.2)
  · simp only [Bool.and_eq_true] at h
    obtain ⟨⟨⟨h1, h2⟩, h3⟩, h4⟩ := h
    obtain ⟨el, g1, g2, g3, g4, g5⟩ := slBz_ok K h1
    exact .msl g1 g2 g3 g4 g5 (blt_ok h2) (odB_ok K h3) (odB_ok K h4)
  · simp only [Bool.and_eq_true] at h
    exact .slS (str_ok K h.1.1.1) (odB_ok K h.1.1.2) (ovB_ok K h.1.2) (ovB_ok K h.2)
  · simp only [Bool.and_eq_true] at h
    obtain ⟨⟨⟨⟨h1, h2⟩, h3⟩, h4⟩, h5⟩ := h
    obtain ⟨el, b, g1, g2⟩ := slB_ok K h1
    exact .slL g1 g2 (odB_ok K h2) (ovB_ok K h3) (ovB_ok K h4) (ovB_ok K h5)
  · simp only [Bool.and_eq_true] at h
    obtain ⟨⟨⟨⟨h1, h2⟩, h3⟩, h4⟩, h5⟩ := h
    obtain ⟨el, b, g1, g2, g3⟩ := arrB_ok K h1
    exact .slA g1 g2 g3 (odB_ok K h2) (ovB_ok K h3) (ovB_ok K h4) (ovB_ok K h5)
  · simp only [Bool.and_eq_true] at h
    obtain ⟨⟨⟨h1, h2⟩, h3⟩, h4⟩ := h
    obtain ⟨fs, hs⟩ := stB_ok K h2
    rw [← Nat.eq_of_beq_eq_true h1]
    rw [hs.S] at h3
    simp only at h3
    split at h3
    · rename_i s' he
      have := Nat.eq_of_beq_eq_true h3; subst this
      exact .fa hs he (odB_ok K h4)
    · cases h3
  · simp only [Bool.and_eq_true] at h
    obtain ⟨fs, hs⟩ := stB_ok K h.1.2
    rw [← Nat.eq_of_beq_eq_true h.1.1]
    exact .fld hs (odB_ok K h.2)
  · simp only [Bool.and_eq_true] at h
    obtain ⟨el, b, g1, g2, g3⟩ := arrB_ok K h.1.1
    exact .iaA g1 g2 g3 (odB_ok K h.1.2) (odB_ok K h.2)
  · simp only [Bool.and_eq_true] at h
    obtain ⟨el, b, g1, g2⟩ := slB_ok K h.1.1
    exact .iaL g1 g2 (odB_ok K h.1.2) (odB_ok K h.2)
  · simp only [Bool.and_eq_true] at h
    obtain ⟨⟨h1, h2⟩, h3⟩ := h
    split at h1
    · obtain ⟨el, b, g1, g2, g3⟩ := arrB_ok K h1
      exact .ixA g1 g2 g3 (odB_ok K h2) (odB_ok K h3)
    · cases h1
  · simp only [Bool.and_eq_true] at h
    exact .ixS (str_ok K h.1.1) (odB_ok K h.1.2) (odB_ok K h.2)
  · simp only [Bool.and_eq_true] at h
    rw [← Nat.eq_of_beq_eq_true h.1]
    exact .ext (odB_ok K h.2)
  · exact callB_ok K h
  · cases h

end
end Go.Rae

/- A check, by computing, that an intermediate code fits a code of the model: regions, codes, functions. -/
namespace Go.Rae
open Go

def optEq : Option Nat → Option Nat → Bool
  | none, none => true
  | some a, some b => Nat.beq a b
  | _, _ => false

theorem optEq_ok {a b : Option Nat} (h : optEq a b = true) : a = b := by
  cases a <;> cases b <;> first | rfl | (cases h; done) | (simp only [optEq] at h; rw [Nat.eq_of_beq_eq_true h])

def ltO (n : Nat) : Option Nat → Bool
  | none => true
  | some d => Nat.blt d n

/-- One set of places with all that these are bound behind. -/
def orE (done : List Nat) : List Edge → Nat
  | [] => 0
  | e :: l => if Region.binds .any e then (2 ^ e.on ||| done.getD e.on 0) ||| orE done l else orE done l

theorem orE_ok {done : List Nat} {i : Nat} : ∀ {l : List Edge}, (orE done l).testBit i = true → ∃ e ∈ l, Region.binds .any e = true ∧ (e.on = i ∨ (done.getD e.on 0).testBit i = true) := by
  intro l
  induction l with
  | nil => intro h; simp [orE] at h
  | cons e l ih =>
    intro h
    simp only [orE] at h
    split at h
    · rename_i hb
      rw [Nat.testBit_or, Nat.testBit_or, Bool.or_eq_true, Bool.or_eq_true, Nat.testBit_two_pow, decide_eq_true_eq] at h
      rcases h with (h | h) | h
      · exact ⟨e, List.mem_cons_self .., hb, .inl h⟩
      · exact ⟨e, List.mem_cons_self .., hb, .inr h⟩
      · obtain ⟨e', h1, h2⟩ := ih h
        exact ⟨e', List.mem_cons_of_mem _ h1, h2⟩
    · obtain ⟨e', h1, h2⟩ := ih h
      exact ⟨e', List.mem_cons_of_mem _ h1, h2⟩

def edgesLt (n : Nat) : List Edge → Bool
  | [] => true
  | e :: l => (!Region.binds .any e || Nat.blt e.on n) && edgesLt n l

theorem edgesLt_ok {n : Nat} : ∀ {l : List Edge}, edgesLt n l = true → ∀ e ∈ l, Region.binds .any e = true → e.on < n := by
  intro l
  induction l with
  | nil => intro _ e he; cases he
  | cons x l ih =>
    intro h e he hb
    simp only [edgesLt, Bool.and_eq_true] at h
    rcases List.mem_cons.1 he with rfl | he
    · have := h.1; rw [hb] at this; exact blt_ok (by simpa using this)
    · exact ih h.2 e he hb

def befB : List Nat → List Oper → List Nat → Bool
  | _, [], [] => true
  | done, o :: os, b :: bs => edgesLt done.length o.after.toList && Nat.beq b (orE done o.after.toList) && befB (done ++ [b]) os bs
  | _, _, _ => false

theorem befB_ok : ∀ {os : List Oper} {done bs : List Nat}, befB done os bs = true → ∀ j o, os[j]? = some o →
    (∀ e ∈ o.after.toList, Region.binds .any e = true → e.on < done.length + j) ∧
    ∀ i, ((done ++ bs).getD (done.length + j) 0).testBit i = true → ∃ e ∈ o.after.toList, Region.binds .any e = true ∧ (e.on = i ∨ ((done ++ bs).getD e.on 0).testBit i = true) := by
  intro os
  induction os with
  | nil => intro done bs _ j o h; simp at h
  | cons x os ih =>
    intro done bs h j o hj
    cases bs with
    | nil => simp [befB] at h
    | cons b bs =>
      simp only [befB, Bool.and_eq_true] at h
      obtain ⟨⟨h1, h2⟩, h3⟩ := h
      cases j with
      | zero =>
        simp only [List.getElem?_cons_zero, Option.some.injEq] at hj; subst hj
        refine ⟨edgesLt_ok h1, fun i hi => ?_⟩
        have e1 : (done ++ b :: bs).getD (done.length + 0) 0 = b := by simp [List.getD]
        rw [e1, Nat.eq_of_beq_eq_true h2] at hi
        obtain ⟨e, he, hb, hr⟩ := orE_ok hi
        refine ⟨e, he, hb, hr.imp _root_.id fun hr => ?_⟩
        have hlt := edgesLt_ok h1 e he hb
        have e2 : (done ++ b :: bs).getD e.on 0 = done.getD e.on 0 := by
          simp only [List.getD]; rw [List.getElem?_append_left hlt]
        rw [e2]; exact hr
      | succ j =>
        simp only [List.getElem?_cons_succ] at hj
        obtain ⟨g1, g2⟩ := ih h3 j o hj
        have e3 : done ++ [b] ++ bs = done ++ b :: bs := by simp
        have e4 : (done ++ [b]).length + j = done.length + (j + 1) := by simp; omega
        rw [e4] at g1 g2
        rw [e3] at g2
        exact ⟨g1, g2⟩

def hasO (l : List Nat) : Option Nat → Bool
  | none => false
  | some d => l.any (Nat.beq d)

theorem hasO_ok {l : List Nat} {d : Nat} (hm : d ∈ l) : hasO l (some d) = true := by
  simp only [hasO, List.any_eq_true]
  exact ⟨d, hm, Nat.beq_refl d⟩

/-- Does one write what the other names? -/
def conflB (x y : IOper) : Bool := hasO y.tms x.dst || hasO x.tms y.dst || (match x.dst with
  | some _ => optEq x.dst y.dst
  | none => false)

theorem conflB_ok {x y : IOper} (h : conflict x y) : conflB x y = true := by
  simp only [conflB, Bool.or_eq_true]
  rcases h with ⟨d, h1, h2⟩ | ⟨d, h1, h2⟩ | ⟨d, h1, h2⟩
  · rw [h1]; exact .inl (.inl (hasO_ok h2))
  · rw [h1]; exact .inl (.inr (hasO_ok h2))
  · right; rw [h1, h2]; simp [optEq]

def conB (b : Nat) (y : IOper) : Nat → List IOper → Bool
  | _, [] => true
  | i, x :: l => (!conflB x y || b.testBit i) && conB b y (i + 1) l

theorem conB_ok {b : Nat} {y : IOper} : ∀ {l : List IOper} {i : Nat}, conB b y i l = true → ∀ j x, l[j]? = some x → conflict x y → b.testBit (i + j) = true := by
  intro l
  induction l with
  | nil => intro i _ j x hj; simp at hj
  | cons z l ih =>
    intro i h j x hj hc
    simp only [conB, Bool.and_eq_true] at h
    cases j with
    | zero =>
      simp only [List.getElem?_cons_zero, Option.some.injEq] at hj; subst hj
      have := h.1; rw [conflB_ok hc] at this; simpa using this
    | succ j =>
      simp only [List.getElem?_cons_succ] at hj
      have := ih h.2 j x hj hc
      rwa [Nat.add_assoc, Nat.add_comm 1 j] at this

def consB : List IOper → List IOper → List Nat → Bool
  | _, [], [] => true
  | pre, y :: l, b :: bs => conB b y 0 pre && consB (pre ++ [y]) l bs
  | _, _, _ => false

theorem consB_ok : ∀ {l pre : List IOper} {bs : List Nat}, consB pre l bs = true → ∀ j y, l[j]? = some y → ∀ i x, (pre ++ l)[i]? = some x → i < pre.length + j → conflict x y → (bs.getD j 0).testBit i = true := by
  intro l
  induction l with
  | nil => intro pre bs _ j y h; simp at h
  | cons z l ih =>
    intro pre bs h j y hj i x hi hlt hc
    cases bs with
    | nil => simp [consB] at h
    | cons b bs =>
      simp only [consB, Bool.and_eq_true] at h
      cases j with
      | zero =>
        simp only [List.getElem?_cons_zero, Option.some.injEq] at hj; subst hj
        rw [List.getElem?_append_left (by omega)] at hi
        have := conB_ok h.1 i x hi hc
        simpa [List.getD] using this
      | succ j =>
        simp only [List.getElem?_cons_succ] at hj
        have := ih h.2 j y hj i x (by simpa using hi) (by simp; omega) hc
        simpa [List.getD] using this

def boundB (ops : List Oper) (is : List IOper) (bef : List Nat) : Bool := befB [] ops bef && consB [] is bef

theorem boundB_ok {ops : Array Oper} {is : List IOper} {bef : List Nat} (h : boundB ops.toList is bef = true) : Bound ops is (fun i j => (bef.getD j 0).testBit i = true) := by
  simp only [boundB, Bool.and_eq_true] at h
  refine ⟨fun i j x y hij hx hy hc => ?_, fun j o ho i hi => ?_, fun j o ho e he hb => ?_⟩
  · exact consB_ok h.2 j y hy i x (by rw [List.nil_append]; exact hx) (by simpa using hij) hc
  · obtain ⟨e, he, h1⟩ := (befB_ok h.1 j o (by simpa using ho)).2 i (by simpa using hi)
    exact ⟨e, by simpa using he, by simpa using h1⟩
  · have := (befB_ok h.1 j o (by simpa using ho)).1 e (by simpa using he) hb
    simpa using this

section
variable (K : Ctx) (zs : List (Nat × V))

def guardB (ops : List Oper) : Option (Nat × Bool) → Option (Nat × Bool) → Bool
  | none, none => true
  | some (t, b), some (j, b') => (b == b') && (match ops[j]? with
    | some oj => optEq oj.dst (some t)
    | none => false)
  | _, _ => false

def operB (N : Nat) (ops : List Oper) (i : IOper) (o : Oper) : Bool := optEq i.dst o.dst && ltO N o.dst && opB K zs i.op o.op && guardB ops i.guard o.guard

theorem operB_ok {N : Nat} {ops : Array Oper} {i : IOper} {o : Oper} (h : operB K zs N ops.toList i o = true) : OperOK K N ops i o := by
  simp only [operB, Bool.and_eq_true] at h
  obtain ⟨⟨⟨h1, h2⟩, h3⟩, h4⟩ := h
  refine ⟨optEq_ok h1, fun d hd => ?_, opB_ok K h3, ?_⟩
  · rw [hd] at h2; exact blt_ok h2
  · unfold guardB at h4
    split at h4
    · rename_i e1 e2; rw [e1, e2]; trivial
    · rename_i t b j b' e1 e2
      rw [e1, e2]
      simp only [Bool.and_eq_true, beq_iff_eq] at h4
      refine ⟨h4.1, ?_⟩
      have h5 := h4.2
      split at h5
      · rename_i oj hoj; exact ⟨oj, by simpa using hoj, optEq_ok h5⟩
      · cases h5
    · cases h4

def opersB (N : Nat) (ops : List Oper) : List IOper → List Oper → Bool
  | [], [] => true
  | i :: l, o :: m => operB K zs N ops i o && opersB N ops l m
  | _, _ => false

theorem opersB_ok {N : Nat} {ops : Array Oper} : ∀ {l : List IOper} {m : List Oper}, opersB K zs N ops.toList l m = true → All2 (OperOK K N ops) l m := by
  intro l
  induction l with
  | nil => intro m h; cases m with
    | nil => exact .nil
    | cons => simp [opersB] at h
  | cons x l ih => intro m h; cases m with
    | nil => simp [opersB] at h
    | cons y m => simp only [opersB, Bool.and_eq_true] at h; exact .cons (operB_ok K zs h.1) (ih h.2)

def codeB (N : Nat) : IC → Code → Bool
  | .skip, .skip => true
  | .reg is _, .region _ ops false => opersB K zs N ops.toList is ops.toList
  | .drw is bef _, .region _ ops true => opersB K zs N ops.toList is ops.toList && boundB ops.toList is bef
  | .seq a b, .seq c d => codeB N a c && codeB N b d
  | .cond x a b, .cond y c d => odB K x y && codeB N a c && codeB N b d
  | .blk i a, .block j c => Nat.beq i j && codeB N a c
  | .loop a, .loop c => codeB N a c
  | .exit i, .exit j => Nat.beq i j
  | .scope a, .scope c => codeB N a c
  | .label i, .label j => Nat.beq i j
  | .goto i, .goto j => Nat.beq i j
  | .ret, .ret => true
  | _, _ => false

theorem codeB_ok {N : Nat} : ∀ (a : IC) (c : Code), codeB K zs N a c = true → CodeOK K N a c := by
  intro a
  induction a with
  | skip => intro c h; cases c <;> simp only [codeB, Bool.false_eq_true] at h; exact .skip
  | ret => intro c h; cases c <;> simp only [codeB, Bool.false_eq_true] at h; exact .ret
  | reg is keep =>
    intro c h
    cases c with
    | region id ops d =>
      cases d with
      | false => simp only [codeB] at h; exact .reg (opersB_ok K zs h)
      | true => simp [codeB] at h
    | _ => simp [codeB] at h
  | drw is bef keep =>
    intro c h
    cases c with
    | region id ops d =>
      cases d with
      | false => simp [codeB] at h
      | true => simp only [codeB, Bool.and_eq_true] at h; exact .drw (opersB_ok K zs h.1) (boundB_ok h.2)
    | _ => simp [codeB] at h
  | seq a b iha ihb =>
    intro c h
    cases c <;> simp only [codeB, Bool.false_eq_true, Bool.and_eq_true] at h
    exact .seq (iha _ h.1) (ihb _ h.2)
  | cond x a b iha ihb =>
    intro c h
    cases c <;> simp only [codeB, Bool.false_eq_true, Bool.and_eq_true] at h
    exact .cond (odB_ok K h.1.1) (iha _ h.1.2) (ihb _ h.2)
  | blk i a iha =>
    intro c h
    cases c <;> simp only [codeB, Bool.false_eq_true, Bool.and_eq_true] at h
    rw [Nat.eq_of_beq_eq_true h.1]
    exact .blk (iha _ h.2)
  | loop a iha =>
    intro c h
    cases c <;> simp only [codeB, Bool.false_eq_true] at h
    exact .loop (iha _ h)
  | scope a iha =>
    intro c h
    cases c <;> simp only [codeB, Bool.false_eq_true] at h
    exact .scope (iha _ h)
  | exit i =>
    intro c h
    cases c <;> simp only [codeB, Bool.false_eq_true] at h
    rw [Nat.eq_of_beq_eq_true h]; exact .exit
  | label i =>
    intro c h
    cases c <;> simp only [codeB, Bool.false_eq_true] at h
    rw [Nat.eq_of_beq_eq_true h]; exact .label
  | goto i =>
    intro c h
    cases c <;> simp only [codeB, Bool.false_eq_true] at h
    rw [Nat.eq_of_beq_eq_true h]; exact .goto
  | jump a l => intro c h; cases c <;> simp only [codeB, Bool.false_eq_true] at h

def resB : List IRes → List ResultVar → Bool
  | [], [] => true
  | .t n :: l, .tmp m :: r => Nat.beq n m && resB l r
  | .c n sh :: l, .cell m t :: r => Nat.beq n m && tyB K t sh && resB l r
  | _, _ => false

theorem resB_ok : ∀ {l : List IRes} {r : List ResultVar}, resB K l r = true → All2 (ResOK K) l r := by
  intro l
  induction l with
  | nil => intro r h; cases r with
    | nil => exact .nil
    | cons => simp [resB] at h
  | cons x l ih =>
    intro r h
    cases r with
    | nil => cases x <;> simp [resB] at h
    | cons y r =>
      cases x <;> cases y <;> simp only [resB, Bool.false_eq_true, Bool.and_eq_true] at h
      · rw [Nat.eq_of_beq_eq_true h.1]; exact .cons .t (ih h.2)
      · obtain ⟨b, hb⟩ := tyB_ok K h.1.2
        rw [Nat.eq_of_beq_eq_true h.1.1]; exact .cons (.c hb) (ih h.2)

/-- A function of the program fits. -/
def funB (i : IFn) (fn : Func) : Bool :=
  match fn.body with
  | some c => !(fn.name == "runtime.NumGoroutine") && codeB K zs fn.ntmps i.body c && Nat.ble i.nargs fn.ntmps && resB K i.res fn.results.toList
  | none => false

theorem funB_ok {f : Nat} {i : IFn} {fn : Func} (hf : K.P.funcs[K.fid f]? = some fn) (h : funB K zs i fn = true) : FnOK K f i := by
  unfold funB at h
  split at h
  · rename_i c hc
    simp only [Bool.and_eq_true, Bool.not_eq_true'] at h
    obtain ⟨⟨⟨h1, h2⟩, h3⟩, h4⟩ := h
    exact ⟨fn, c, hf, hc, h1, codeB_ok K zs _ _ h2, Nat.le_of_ble_eq_true h3, resB_ok K h4⟩
  · cases h

end
end Go.Rae
