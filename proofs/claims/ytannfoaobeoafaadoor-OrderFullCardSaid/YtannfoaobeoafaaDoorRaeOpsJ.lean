/- Each operation on abstract values does what the model's does. First part: reads, places, values. -/
import Derived.Test.YtannfoaobeoafaaDoorRaeHeap
import Derived.Laws.StructEq
import Derived.Laws.Append
import Derived.WideLaws
import Derived.Laws.AppendOwn
import Derived.ChangeKeysEq
set_option linter.unusedVariables false
set_option linter.unusedSimpArgs false
namespace Go.Rae
open Go

def aggD : TypeDesc → Bool
  | .struct _ | .array _ _ => true
  | _ => false

def aggS : Sh → Bool
  | .str _ | .arr _ _ => true
  | _ => false

section
variable (K : Ctx)

/-- What the checker finds of a type: its shape, its bytes. -/
structure TyF (t sh bytes : Nat) : Prop where
  ex : ∃ i d, K.P.info? t = some i ∧ K.P.underlying t = some d ∧ i.size = K.sz sh ∧ i.bytes = bytes ∧
    aggD d = aggS (K.S sh)
  fix : K.fix sh

def Step (σ : Sig) (_h : H) (w : World) (v : V) (h' : H) (res : Result Value) : Prop :=
  ∃ c w' σ', res = .ok c w' ∧ R K σ' h' w' ∧ Ext σ σ' ∧ Fr σ w σ' w' ∧ VR K σ' v c

def StepU (σ : Sig) (_h : H) (w : World) (h' : H) (res : Result Unit) : Prop :=
  ∃ w' σ', res = .ok () w' ∧ R K σ' h' w' ∧ Ext σ σ' ∧ Fr σ w σ' w'

end

section
variable {K : Ctx} {σ : Sig} {h : H} {w : World}

theorem Step.same (hR : R K σ h w) {v : V} {c : Value} {res : Result Value} (e : res = .ok c w) (hv : VR K σ v c) : Step K σ h w v h res :=
  ⟨c, w, σ, e, hR, Ext.refl σ, Fr.refl σ w, hv⟩

theorem Fr.drew (σ : Sig) (w : World) : Fr σ w σ w.drew := ⟨rfl, rfl, rfl, Nat.le_refl _, fun _ _ _ => rfl, fun id L h => .inr ⟨id, L, h, rfl, rfl⟩⟩
theorem R.drew (hR : R K σ h w) : R K σ h w.drew := hR.frame fun _ _ _ => rfl

theorem run_sizeOf' {P : Program} {t : TypeId} {i : TypeInfo} (h : P.info? t = some i) (w : World) : (Go.sizeOf t).run P w = .ok i.size w := by
  simp [Go.sizeOf, typeInfo, h]

theorem run_isAgg' {P : Program} {t : TypeId} {d : TypeDesc} (h : P.underlying t = some d) (w : World) :
    (isAgg t).run P w = .ok (aggD d) w := by
  unfold isAgg
  rw [Sem.run_bind, run_underlying h w]
  cases d <;> rfl

theorem TyF.size {t sh b : Nat} (ty : TyF K t sh b) (w : World) : (Go.sizeOf t).run K.P w = .ok (K.sz sh) w := by
  obtain ⟨i, d, hi, hd, hs, _⟩ := ty.ex
  rw [run_sizeOf' hi, hs]

theorem TyF.agg {t sh b : Nat} (ty : TyF K t sh b) (w : World) : (isAgg t).run K.P w = .ok (aggS (K.S sh)) w := by
  obtain ⟨i, d, hi, hd, hs, _, ha⟩ := ty.ex
  rw [run_isAgg' hd, ha]

theorem sh_small {v : V} (hv : ∀ k l, v ≠ .agg k l) (ht : ∀ l, v ≠ .tup l) : v.sh < 11 := by
  cases v with
  | tup l => exact absurd rfl (ht l)
  | agg k l => exact absurd rfl (hv k l)
  | i k n => cases k <;> simp [V.sh, kindNo]
  | _ => simp [V.sh]

theorem aggS_small {v : V} (hv : ∀ k l, v ≠ .agg k l) (ht : ∀ l, v ≠ .tup l) : aggS (K.S v.sh) = false := by
  rcases K.Sd _ (sh_small hv ht) with h | h <;> rw [h] <;> rfl

/-- A value of a shape: of a struct's or array's it is an aggregate; of another, it is not. -/
theorem CR.isAgg {v : V} {cs : List Value} (hc : CR K σ v cs) (hf : K.fix v.sh) :
    (aggS (K.S v.sh) = true ∧ ∃ l, v = .agg v.sh l) ∨
    (aggS (K.S v.sh) = false ∧ ∃ c, cs = [c] ∧ SR K σ v c ∧ (∀ k l, v ≠ .agg k l) ∧ ∀ l, v ≠ .tup l) := by
  cases v with
  | agg k l =>
    left
    simp only [CR] at hc
    obtain ⟨fs, hk, _⟩ := hc
    unfold kids at hk
    simp only [V.sh]
    refine ⟨?_, l, rfl⟩
    cases hS : K.S k with
    | dyn e => exact absurd hS (hf e)
    | _ => rw [hS] at hk; first | rfl | cases hk
  | _ =>
    right
    simp only [CR] at hc
    obtain ⟨c, e, hs⟩ := hc
    first
      | (exfalso; simp only [SR, SR0] at hs; done)
      | exact ⟨aggS_small (K := K) (by intros; exact fun h => by cases h) (by intros; exact fun h => by cases h), c, e, hs, fun _ _ h => (by cases h), fun _ h => (by cases h)⟩

theorem VR_of_SR {v : V} {c : Value} (hs : SR K σ v c) (h1 : ∀ k l, v ≠ .agg k l) (h2 : ∀ l, v ≠ .tup l) : VR K σ v c := by
  cases v with
  | agg k l => exact absurd rfl (h1 k l)
  | tup l => exact absurd rfl (h2 l)
  | _ => simpa only [VR, VR1] using hs

/-- A value that is read out of memory, as one. -/
theorem CR.value {v : V} {cs : List Value} (hc : CR K σ v cs) (hf : K.fix v.sh) :
    (aggS (K.S v.sh) = true ∧ VR K σ v (.agg cs.toArray)) ∨
    (aggS (K.S v.sh) = false ∧ ∃ c, cs = [c] ∧ VR K σ v c) := by
  rcases hc.isAgg hf with ⟨h1, l, hl⟩ | ⟨h1, c, hc1, hs, h2, h3⟩
  · left
    refine ⟨h1, ?_⟩
    rw [hl] at hc ⊢
    simp only [VR, VR1]
    exact ⟨cs.toArray, rfl, by simpa using hc⟩
  · right
    exact ⟨h1, c, hc1, VR_of_SR hs h2 h3⟩

/-- The cells of a value. -/
theorem VR.cells {v : V} {c : Value} (hv : VR K σ v c) (ht : ∀ l, v ≠ .tup l) : CR K σ v c.cells.toList ∧ (∀ k l, v = .agg k l → ∃ a, c = .agg a) := by
  cases v with
  | tup l => exact absurd rfl (ht l)
  | agg k l =>
    simp only [VR, VR1] at hv
    obtain ⟨arr, rfl, hc⟩ := hv
    exact ⟨hc, fun _ _ _ => ⟨arr, rfl⟩⟩
  | _ =>
    simp only [VR, VR1] at hv
    refine ⟨?_, fun _ _ e => by cases e⟩
    have h1 := SR.one hv
    simp only [CR]
    refine ⟨c, ?_, hv⟩
    cases c <;> first | rfl | simp [Value.oneCell'] at h1

theorem offs_append : ∀ (p q : List Nat) (r o s : Nat), offs K r p = some (o, s) →
    offs K r (p ++ q) = match offs K s q with | some (o2, s2) => some (o + o2, s2) | none => none := by
  intro p q
  induction p with
  | nil =>
    intro r o s h
    simp only [offs, Option.some.injEq, Prod.mk.injEq] at h
    obtain ⟨rfl, rfl⟩ := h
    simp only [List.nil_append, Nat.zero_add]
    cases offs K r q with
    | none => rfl
    | some x => rfl
  | cons i p ih =>
    intro r o s h
    simp only [offs, List.cons_append] at h ⊢
    split at h
    · rename_i fs hfs
      split at h
      · rename_i f hf
        split at h
        · rename_i o1 s1 h1
          simp only [Option.some.injEq, Prod.mk.injEq] at h
          obtain ⟨rfl, rfl⟩ := h
          rw [ih _ _ _ h1]
          cases offs K s1 q with
          | none => rfl
          | some x => simp [Nat.add_assoc]
        · cases h
      · cases h
    · rename_i n e he
      split at h
      · rename_i hi
        simp only [hi, if_true]
        split at h
        · rename_i o1 s1 h1
          simp only [Option.some.injEq, Prod.mk.injEq] at h
          obtain ⟨rfl, rfl⟩ := h
          rw [ih _ _ _ h1]
          cases offs K s1 q with
          | none => rfl
          | some x => simp [Nat.add_assoc]
        · cases h
      · cases h
    · rename_i e he
      split at h
      · rename_i o1 s1 h1
        simp only [Option.some.injEq, Prod.mk.injEq] at h
        obtain ⟨rfl, rfl⟩ := h
        rw [ih _ _ _ h1]
        cases offs K s1 q with
        | none => rfl
        | some x => simp [Nat.add_assoc]
      · cases h
    · cases h

/-- A load. -/
theorem step_load (hK : K.flat) (hR : R K σ h w) {t sh b : Nat} (ty : TyF K t sh b) {id st : Nat} {p : List Nat} {x : V} {a : Value}
    (ha : VR K σ (.ptr id st p sh) a) (hr : h.read id st p = some x) : Step K σ h w x h ((Instr.loadAt t a).run K.P w) := by
  obtain ⟨L, m, o, hs, hst, hof, hm, hroom, arr, T, fr, hb, hz, hcell⟩ := hR.read hK hr
  simp only [VR, VR1, SR, SR0] at ha
  obtain ⟨L', a', hs', rfl, hle, hval⟩ := ha
  rw [hs] at hs'; cases hs'
  obtain ⟨o', ho', rfl⟩ := hval hst.symm
  rw [hof] at ho'
  simp only [Option.some.injEq, Prod.mk.injEq] at ho'
  obtain ⟨rfl, hsh⟩ := ho'
  have hfix : K.fix x.sh := by rw [hsh]; exact ty.fix
  have hlen := CR.len hK x m hfix hm
  have hadd : ∀ j, (⟨L.blk, L.off + o, none⟩ : Addr).add j = ⟨L.blk, L.off + o + j, none⟩ := by
    intro j; unfold Addr.add; split <;> simp_all
  have hl : (loadCells ⟨L.blk, L.off + o, none⟩ m.length).run K.P w = .ok m.toArray w :=
    run_loadCells_list w _ m fun j v hv => by rw [hadd, cell_of_row w _ _ arr T fr hb]; exact hcell j v hv
  rcases hm.value hfix with ⟨h1, hv⟩ | ⟨h1, c, rfl, hv⟩
  · refine Step.same hR (c := .agg m.toArray) ?_ hv
    rw [hsh] at h1
    simp only [Instr.loadAt, Instr.sureAddr, Sem.run_bind, Sem.run_pure, Result.andThen_ok, loadVar, ty.agg, h1, if_true, ty.size]
    rw [hsh] at hlen
    rw [← hlen, hl]; rfl
  · refine Step.same hR (c := c) ?_ hv
    rw [hsh] at h1
    have h0 := hcell 0 c rfl
    simp only [Instr.loadAt, Instr.sureAddr, Sem.run_bind, Sem.run_pure, Result.andThen_ok, loadVar, ty.agg, h1, if_false, Bool.false_eq_true, run_load, cell_of_row w _ _ arr T fr hb]
    simp only [Nat.add_zero] at h0
    rw [h0]

theorem ptr_add {id st k fsh : Nat} {p : List Nat} {sh : Nat} {a : Addr} {n : Nat} (ha : SR0 K σ (.ptr id st p sh) (.pointer (some a)))
    (hof : offs K sh [k] = some (n, fsh)) : SR0 K σ (.ptr id st (p ++ [k]) fsh) (.pointer (some (a.add n))) := by
  simp only [SR0] at ha ⊢
  obtain ⟨L, a', hs, e, hle, hval⟩ := ha
  cases e
  refine ⟨L, a.add n, hs, rfl, hle, fun est => ?_⟩
  obtain ⟨o, ho, rfl⟩ := hval est
  refine ⟨o + n, by rw [offs_append p [k] _ _ _ ho, hof], ?_⟩
  unfold Addr.add; split <;> simp_all [Nat.add_assoc]

/-- A field's place. -/
theorem step_fa (hR : R K σ h w) {t sh k fsh : Nat} {id st : Nat} {p : List Nat} {a : Value} (ha : VR K σ (.ptr id st p sh) a)
    (hst : ∃ flds f i, K.P.underlying t = some (.struct flds) ∧ flds[k]? = some f ∧ K.P.info? f.type = some i ∧ i.size ≠ 0 ∧ offs K sh [k] = some (f.offset, fsh)) :
    Step K σ h w (.ptr id st (p ++ [k]) fsh) h ((Instr.fieldAt t a k).run K.P w) := by
  obtain ⟨flds, f, i, hu, hf, hi, hne, hof⟩ := hst
  simp only [VR, VR1, SR] at ha
  have ha' := ha
  simp only [SR0] at ha'
  obtain ⟨L, a', _, rfl, _⟩ := ha'
  refine Step.same hR (c := .pointer (some (a'.add f.offset))) ?_ (by simpa only [VR, VR1, SR] using ptr_add ha hof)
  simp [Instr.fieldAt, run_underlying hu, hf, Instr.sureAddr, fieldPlace, run_sizeOf' hi, hne]

theorem add_zero_addr (a : Addr) : a.add 0 = a := by simp [Addr.add]

/-- An array's element's place. -/
theorem step_iaA (hR : R K σ h w) {t ash n e b : Nat} {el : TypeId} {id st : Nat} {p : List Nat} {a ix : Value} {k : IntKind} {j : Int} (ha : VR K σ (.ptr id st p ash) a)
    (hi : VR K σ (.i k j) ix) (hu : K.P.underlying t = some (.array n el)) (hS : K.S ash = .arr n e) (ty : TyF K el e b) (h0 : 0 ≤ j) (hn : j < (n : Int)) :
    Step K σ h w (.ptr id st (p ++ [j.toNat]) e) h ((Instr.indexAt t a ix).run K.P w) := by
  simp only [VR, VR1, SR, SR0] at hi; subst hi
  simp only [VR, VR1, SR] at ha
  have ha' := ha
  simp only [SR0] at ha'
  obtain ⟨L, a', _, rfl, _⟩ := ha'
  have hof : offs K ash [j.toNat] = some (j.toNat * K.sz e, e) := by
    simp only [offs, hS]; rw [if_pos (by omega)]; simp
  refine Step.same hR (c := .pointer (some (a'.add (j.toNat * K.sz e)))) ?_ (by simpa only [VR, VR1, SR] using ptr_add ha hof)
  simp [Instr.indexAt, asIntOf, run_underlying hu, Instr.sureAddr, ty.size, h0, hn]

/-- A slice's element's place. -/
theorem step_iaL (hR : R K σ h w) {t e b : Nat} {el : TypeId} {id st off len : Nat} {cap : Option Nat} {p : List Nat} {a ix : Value} {k : IntKind} {j : Int} (ha : VR K σ (.sl id st p e off len cap) a)
    (hi : VR K σ (.i k j) ix) (hu : K.P.underlying t = some (.slice el)) (ty : TyF K el e b) (h0 : 0 ≤ j) (hn : j < (len : Int)) :
    Step K σ h w (.ptr id st (p ++ [off + j.toNat]) e) h ((Instr.indexAt t a ix).run K.P w) := by
  simp only [VR, VR1, SR, SR0] at hi; subst hi
  simp only [VR, VR1, SR, SR0] at ha
  obtain ⟨L, a', cap', hs, rfl, hle, hlen, hcap, hval⟩ := ha
  refine Step.same hR (c := .pointer (some (a'.add (j.toNat * K.sz e)))) ?_ ?_
  · simp [Instr.indexAt, asIntOf, run_underlying hu, ty.size, h0, hn]
  · simp only [VR, VR1, SR, SR0]
    refine ⟨L, _, hs, rfl, hle, fun est => ?_⟩
    obtain ⟨o, s, ho, hSs, hroom⟩ := hval est
    have hc0 : cap' ≠ 0 := by omega
    obtain ⟨rfl, hr⟩ := hroom.resolve_left hc0
    refine ⟨o + (off + j.toNat) * K.sz e, ?_, ?_⟩
    · rw [offs_append p _ _ _ _ ho]
      rcases hSs with ⟨n, hn', hb⟩ | hd
      · simp only [offs, hn']
        rw [if_pos (by omega)]; simp
      · simp only [offs, hd]; simp
    · rw [Nat.add_mul]
      unfold Addr.add; split
      · rename_i hz; simp; omega
      · simp; omega

end
end Go.Rae

/- Each operation on abstract values does what the model's does. Second part: what is written; new objects. -/
namespace Go.Rae
open Go

section
variable {K : Ctx} {σ σ' : Sig} {h : H} {w : World}

theorem Sig.put_eq {id : Nat} {L : Loc} (hs : σ id = some L) : σ.put id L = σ := by
  funext j
  unfold Sig.put
  split
  · rename_i e; subst e; exact hs.symm
  · rfl

theorem put_sub : ∀ (p : List Nat) (v x v' : V), put v p x = some v' → ∃ y, sub v p = some y ∧ y.sh = x.sh := by
  intro p
  induction p with
  | nil =>
    intro v x v' hp
    simp only [put] at hp
    split at hp
    · exact ⟨v, rfl, by assumption⟩
    · cases hp
  | cons i p ih =>
    intro v x v' hp
    cases v with
    | agg k l =>
      simp only [put] at hp
      cases hl : l[i]? with
      | none => rw [hl] at hp; cases hp
      | some y =>
        rw [hl] at hp
        simp only at hp
        cases hq : put y p x with
        | none => rw [hq] at hp; cases hp
        | some z =>
          obtain ⟨u, hu, hsh⟩ := ih y x z hq
          exact ⟨u, by simp only [sub, hl]; exact hu, hsh⟩
    | _ => simp only [put] at hp; cases hp

theorem put_stamp {p : List Nat} {v x v' : V} {g r : Bool} (hp : put v p x = some v') (hne : p ≠ [] ∨ g = false) : stampOf (.cells v' g r) = stampOf (.cells v g r) := by
  cases g with
  | false => cases v <;> cases v' <;> rfl
  | true =>
    have hne' : p ≠ [] := hne.resolve_right (by simp)
    cases p with
    | nil => exact absurd rfl hne'
    | cons i p =>
      cases v with
      | agg k l =>
        simp only [put] at hp
        cases hl : l[i]? with
        | none => rw [hl] at hp; cases hp
        | some y =>
          rw [hl] at hp
          simp only at hp
          cases hq : put y p x with
          | none => rw [hq] at hp; cases hp
          | some z => rw [hq] at hp; cases hp; simp [stampOf]
      | _ => simp only [put] at hp; cases hp

/-- An object's cells written over, as many as there were. -/
theorem R.over (hR : R K σ h w) {id : Nat} {L : Loc} {v v' : V} {g : Bool} (hs : σ id = some L) (hg : h.get id = some (.cells v g false))
    (hst : stampOf (.cells v' g false) = stampOf (.cells v g false)) (hsh : v'.sh = v.sh) {arr : Array Value} {T : TypeId} {fr : Nat × Nat} {pre cs cs' post : List Value}
    (hb : w.heap[L.blk]? = some (.cells arr T fr)) (hz : arr.size = L.room) (ha : arr.toList = pre ++ cs ++ post) (hp : pre.length = L.off) (hl : cs'.length = cs.length)
    (hc : CR K σ v' cs') (hf : ∀ j, j < arr.size → ¬ (fr.1 ≤ j ∧ j < fr.2)) :
    R K σ (h.set id (.cells v' g false)) (w.setRow L.blk (pre ++ cs' ++ post).toArray) ∧ Fr σ w σ (w.setRow L.blk (pre ++ cs' ++ post).toArray) := by
  have ho := hR.obj id _ L hg hs
  obtain ⟨h0, h1, h2, h3, _⟩ := ho
  have hsz : (pre ++ cs' ++ post).toArray.size = arr.size := by
    have := congrArg List.length ha
    simp only [Array.length_toList, List.length_append] at this
    simp only [List.size_toArray, List.length_append]
    omega
  constructor
  · have key := hR.set (w' := w.setRow L.blk (pre ++ cs' ++ post).toArray) hs (.cells v' g false) L (by rw [Sig.put_eq hs]; exact Ext.refl σ)
      (fun j M hM hne => heap_setRow_ne w _ _ _ (fun e => hR.sep id j L M hs hM (Ne.symm hne) h1 e.symm))
      (fun j M hM hne e => hR.sep id j L M hs hM (Ne.symm hne) h1 e.symm)
      (by
        rw [Sig.put_eq hs]
        refine ⟨h0.trans hst.symm, h1, h2.trans hsh.symm, fun hg' => by rw [hsh]; exact h3 hg', (pre ++ cs' ++ post).toArray, T, fr, pre, cs', post, setRow_heap w _ _ _ _ _ hb, hsz.trans hz, by simp, hp, hc, ?_⟩
        intro _ j hj
        exact hf j (by omega))
    rw [Sig.put_eq hs] at key
    exact key
  · refine ⟨rfl, rfl, rfl, by simp [World.setRow], fun b hb' hno => heap_setRow_ne w _ _ _ (fun e => hno id L hs h1 e.symm), fun i M hM => .inr ⟨i, M, hM, rfl, rfl⟩⟩

theorem splice_eq (pre a m m' b post : List Value) (hm : m'.length = m.length) :
    (pre ++ (a ++ m ++ b) ++ post).take (pre.length + a.length) ++ m' ++ (pre ++ (a ++ m ++ b) ++ post).drop (pre.length + a.length + m'.length) = pre ++ (a ++ m' ++ b) ++ post := by
  have e1 : pre ++ (a ++ m ++ b) ++ post = (pre ++ a) ++ (m ++ (b ++ post)) := by simp
  have l1 : pre.length + a.length = (pre ++ a).length := by simp
  rw [e1, l1, List.take_left, List.drop_append, List.drop_eq_nil_of_le (by omega)]
  have : (pre ++ a).length + m'.length - (pre ++ a).length = m.length := by omega
  rw [this, List.drop_left]
  simp

/-- A store. -/
theorem step_store (hK : K.flat) (hR : R K σ h w) {t sh b : Nat} (ty : TyF K t sh b) {id st : Nat} {p : List Nat} {x : V} {a c : Value} {h' : H}
    (ha : VR K σ (.ptr id st p sh) a) (hx : VR K σ x c) (hxt : ∀ l, x ≠ .tup l) (hxs : x.sh = sh) (hr : h.write id st p x = some h') : StepU K σ h w h' ((Instr.storeAt t a c).run K.P w) := by
  unfold H.write at hr
  cases hg : h.get id with
  | none => rw [hg] at hr; simp at hr
  | some ob =>
    rw [hg] at hr
    cases ob with
    | cells v g ro =>
      cases ro with
      | true => simp at hr
      | false =>
      simp only at hr
      by_cases hst : stampOf (.cells v g false) = st
      · rw [if_pos hst] at hr
        have : ∃ v', put v p x = some v' ∧ h' = h.set id (.cells v' g false) ∧ (p ≠ [] ∨ g = false) := by
          cases p with
          | nil =>
            simp only at hr
            cases g with
            | true => simp at hr
            | false =>
              simp only [Bool.false_eq_true, if_false] at hr
              cases hp : put v [] x with
              | none => rw [hp] at hr; cases hr
              | some v' => rw [hp] at hr; cases hr; exact ⟨v', rfl, rfl, .inr rfl⟩
          | cons i p =>
            simp only at hr
            cases hp : put v (i :: p) x with
            | none => rw [hp] at hr; cases hr
            | some v' => rw [hp] at hr; cases hr; exact ⟨v', rfl, rfl, .inl (by simp)⟩
        obtain ⟨v', hp, rfl, hne⟩ := this
        obtain ⟨y, hy, hysh⟩ := put_sub p v x v' hp
        obtain ⟨L, hs, ho⟩ := hR.objOf hg
        obtain ⟨h0, h1, h2, h3, arr, T, fr, pre, cs, post, hb, hz, hal, hpl, hc, hf⟩ := ho
        obtain ⟨a1, m, b1, rfl, hm, hof, hput⟩ := CR.sub hK p v cs y hc hy
        obtain ⟨hcx, hagg⟩ := hx.cells hxt
        obtain ⟨hc', hsh'⟩ := hput x c.cells.toList v' hysh.symm hcx hp
        have hfx : K.fix x.sh := by rw [hxs]; exact ty.fix
        have hlm := CR.len hK y m (by rw [hysh]; exact hfx) hm
        have hlx := CR.len hK x _ hfx hcx
        simp only [VR, VR1, SR, SR0] at ha
        obtain ⟨L', a', hs', rfl, hle, hval⟩ := ha
        rw [hs] at hs'; cases hs'
        obtain ⟨o, ho', rfl⟩ := hval (by rw [h0, hst])
        rw [h2, hof] at ho'
        simp only [Option.some.injEq, Prod.mk.injEq] at ho'
        obtain ⟨rfl, _⟩ := ho'
        have hlen : c.cells.toList.length = m.length := by rw [hlx, hlm, hysh]
        have hsize := congrArg List.length hal
        simp only [Array.length_toList, List.length_append] at hsize
        have hrun := run_cells K.P L.blk (L.off + a1.length) T fr c.cells.toList 0 arr w hb (hf rfl) (by omega) (CR.ones _ _ hcx)
        obtain ⟨hR', hFr⟩ := hR.over hs hg (put_stamp hp hne) hsh' hb hz hal hpl (cs' := a1 ++ c.cells.toList ++ b1) (by simp only [List.length_append]; omega) hc' (hf rfl)
        refine ⟨_, σ, ?_, hR', Ext.refl σ, hFr⟩
        rw [hxs] at hlx
        have hne' : ¬ (c.cells.size ≠ K.sz sh) := by simp only [Array.length_toList] at hlx; omega
        simp only [Instr.storeAt, Instr.sureAddr, Sem.run_bind, Sem.run_pure, Result.andThen_ok, storeVar, ty.size, hne', if_false]
        rw [hrun, hal]
        simp only [Nat.add_zero]
        rw [← hpl, splice_eq pre a1 m c.cells.toList b1 post hlen]
      · rw [if_neg hst] at hr; cases hr
    | _ => simp at hr

/-- A new object of cells: the model's new block. -/
theorem R.alloc (hR : R K σ h w) {v : V} {g : Bool} {cs tl : List Value} {T : TypeId} (hc : CR K σ v cs) (hg : g = true → ∃ e, K.S v.sh = .dyn e) :
    R K (σ.put h.n ⟨w.heap.size, 0, (cs ++ tl).length, stampOf (.cells v g false), v.sh, false⟩) (h.push (.cells v g false)) (w.alloc (.cells (cs ++ tl).toArray T)) ∧
    Ext σ (σ.put h.n ⟨w.heap.size, 0, (cs ++ tl).length, stampOf (.cells v g false), v.sh, false⟩) ∧
    Fr σ w (σ.put h.n ⟨w.heap.size, 0, (cs ++ tl).length, stampOf (.cells v g false), v.sh, false⟩) (w.alloc (.cells (cs ++ tl).toArray T)) := by
  have hf := hR.fresh (Nat.le_refl h.n)
  have hx := Ext.put_fresh hf ⟨w.heap.size, 0, (cs ++ tl).length, stampOf (.cells v g false), v.sh, false⟩
  refine ⟨hR.push _ _ (fun id M hM => heap_alloc_old w _ _ (hR.lt hM)) (fun id M hM => Nat.ne_of_lt (hR.lt hM)) ?_, hx, ?_⟩
  · refine ⟨rfl, rfl, rfl, hg, (cs ++ tl).toArray, T, (0, 0), [], cs, tl, heap_alloc_new w _, by simp, by simp, rfl, CR.ext hx _ _ hc, fun _ j _ hj => ?_⟩
    exact absurd hj.2 (Nat.not_lt_zero _)
  · refine ⟨rfl, rfl, rfl, by simp, fun b hb _ => heap_alloc_old w _ _ hb, fun id M hM => ?_⟩
    by_cases e : id = h.n
    · subst e; rw [Sig.put_same] at hM; cases hM; exact .inl (Nat.le_refl _)
    · rw [Sig.put_ne _ _ e] at hM; exact .inr ⟨id, M, hM, rfl, rfl⟩

/-- A new variable. -/
theorem step_box (hR : R K σ h w) {T : TypeId} {v : V} {c : Value} (hv : VR K σ v c) (hvt : ∀ l, v ≠ .tup l) :
    Step K σ h w (.ptr h.n 0 [] v.sh) (h.push (.cells v false false)) ((Instr.box T c).run K.P w) := by
  obtain ⟨hc, _⟩ := hv.cells hvt
  obtain ⟨h1, h2, h3⟩ := hR.alloc (v := v) (g := false) (cs := c.cells.toList) (tl := []) (T := T) hc (by simp)
  have hst : stampOf (.cells v false false) = 0 := by cases v <;> rfl
  refine ⟨.pointer (some ⟨w.heap.size, 0, none⟩), _, _, ?_, h1, h2, h3, ?_⟩
  · simp [Instr.box, newVar, newRow]
  · simp only [VR, VR1, SR, SR0]
    exact ⟨_, _, Sig.put_same _ _ _, rfl, by simp, fun _ => ⟨0, rfl, rfl⟩⟩

end
end Go.Rae

/- Each operation on abstract values does what the model's does. Third part: literals, makes, cuts, indexes, numbers, texts. -/
namespace Go.Rae
open Go

/-- What the checker finds of a type's zero value. -/
structure ZF (K : Ctx) (t : TypeId) (z : V) : Prop where
  ex : ∃ i z', K.P.info? t = some i ∧ i.zero = some z' ∧ ∀ σ, VR K σ z z'
  tup : ∀ l, z ≠ .tup l

section
variable {K : Ctx} {σ σ' : Sig} {h : H} {w : World}

theorem ZF.run {t : TypeId} {z : V} (hz : ZF K t z) (w : World) : ∃ z', (zeroValue t).run K.P w = .ok z' w ∧ ∀ σ, VR K σ z z' := by
  obtain ⟨i, z', hi, hz', hv⟩ := hz.ex
  exact ⟨z', by simp [zeroValue, typeInfo, hi, hz'], hv⟩

theorem foldl_splice (off : Nat) : ∀ (l : List Value) (k : Nat) (cells : Array Value), off + k + l.length ≤ cells.size →
    ((l.zipIdx k).foldl (fun (cs : Array Value) (p : Value × Nat) => cs.setIfInBounds (off + p.2) p.1) cells).toList = cells.toList.take (off + k) ++ l ++ cells.toList.drop (off + k + l.length)
  | [], k, cells, _ => by simp
  | c :: l, k, cells, hl => by
    simp only [List.zipIdx_cons, List.foldl_cons]
    rw [foldl_splice off l (k + 1) _ (by simp at hl ⊢; omega)]
    have e := list_seg_step cells.toList (off + k) c l (by simp at hl ⊢; omega)
    simpa [Array.toList_setIfInBounds, Nat.add_assoc] using e

theorem fill_step (off : Nat) (v : Value) (cells : Array Value) (hl : off + v.cells.size ≤ cells.size) :
    (v.cells.zipIdx.foldl (fun (cs : Array Value) (p : Value × Nat) => cs.setIfInBounds (off + p.2) p.1) cells).toList = cells.toList.take off ++ v.cells.toList ++ cells.toList.drop (off + v.cells.size) := by
  rw [← Array.foldl_toList, Array.toList_zipIdx]
  have := foldl_splice off v.cells.toList 0 cells (by simpa using hl)
  simpa using this

/-- Parts laid into a row of values. -/
theorem fill_ok (hK : K.flat) {fs : List Nat} (hf : ∀ f ∈ fs, K.fix f) {place : Nat → Option (Nat × Nat)} (hp : ∀ i f, fs[i]? = some f → place i = some (((fs.take i).map K.sz).sum, K.sz f)) :
    ∀ (ps : List (Nat × V)) (cps : List (Nat × Value)) (l l' : List V) (cells : Array Value), All2 (fun (a : Nat × V) (b : Nat × Value) => a.1 = b.1 ∧ VR K σ a.2 b.2 ∧ ∀ l, a.2 ≠ .tup l) ps cps →
      CRl K σ fs l cells.toList → fillV l ps = some l' → ∃ cells', Instr.fill place cells cps = some cells' ∧ CRl K σ fs l' cells'.toList := by
  intro ps cps l l' cells h2
  induction h2 generalizing l cells with
  | nil => intro hc hfi; simp only [fillV, Option.some.injEq] at hfi; subst hfi; exact ⟨cells, rfl, hc⟩
  | @cons a b ps cps hab _ ih =>
    intro hc hfi
    obtain ⟨i, x⟩ := a
    obtain ⟨i', cx⟩ := b
    obtain ⟨rfl, hv, hnt⟩ := hab
    simp only [fillV] at hfi
    cases hl : l[i]? with
    | none => rw [hl] at hfi; cases hfi
    | some y =>
      rw [hl] at hfi
      simp only at hfi
      split at hfi
      · rename_i hsh
        obtain ⟨a, m, b, e, hm, hfs, hal, hset⟩ := CRl.at hK fs l cells.toList i y hf hc hl
        obtain ⟨hcx, _⟩ := hv.cells hnt
        have hfy : K.fix y.sh := hf _ (List.mem_of_getElem? hfs)
        have hlm := CR.len hK y m hfy hm
        have hlx := CR.len hK x _ (by rw [← hsh]; exact hfy) hcx
        have hsz : cx.cells.size = K.sz y.sh := by simp only [Array.length_toList] at hlx; rw [hlx, hsh]
        have hlen := congrArg List.length e
        simp only [Array.length_toList, List.length_append] at hlen
        have hle : a.length + cx.cells.size ≤ cells.size := by omega
        obtain ⟨cells', h1, h2⟩ := ih (l.set i x) (cx.cells.zipIdx.foldl (fun (cs : Array Value) (p : Value × Nat) => cs.setIfInBounds (a.length + p.2) p.1) cells)
          (by
            rw [fill_step _ _ _ hle, e]
            have := hset x cx.cells.toList hsh.symm hcx
            have e2 := splice_eq [] a m cx.cells.toList b [] (by simp; omega)
            simp only [List.nil_append, List.append_nil, List.length_nil, Nat.zero_add, Array.length_toList] at e2
            rw [e2]; exact this) hfi
        refine ⟨cells', ?_, h2⟩
        simp only [Instr.fill, hp i _ hfs, ← hal]
        rw [if_neg]
        · exact h1
        · simp only [Bool.or_eq_true, decide_eq_true_eq, ne_eq]
          omega
      · cases hfi

/-- A struct's literal. -/
theorem step_build (hK : K.flat) (hR : R K σ h w) {t sh : Nat} {fs : List Nat} {z l : List V} {ps : List (Nat × V)} {cps : Array (Nat × Value)}
    (hz : ZF K t (.agg sh z)) (hS : K.S sh = .str fs)
    (hu : ∃ flds : Array Field, K.P.underlying t = some (.struct flds) ∧ ∃ ofs : List (Nat × Nat), (∀ w, (flds.mapM fun f => (do pure (f.offset, ← Go.sizeOf f.type) : Sem (Nat × Nat))).run K.P w = .ok ofs.toArray w) ∧
      ∀ i f, fs[i]? = some f → ofs[i]? = some (((fs.take i).map K.sz).sum, K.sz f))
    (hps : All2 (fun (a : Nat × V) (b : Nat × Value) => a.1 = b.1 ∧ VR K σ a.2 b.2 ∧ ∀ l, a.2 ≠ .tup l) ps cps.toList) (hfi : fillV z ps = some l) :
    Step K σ h w (.agg sh l) h ((Instr.build t cps).run K.P w) := by
  obtain ⟨flds, hu, ofs, hofs, hpl⟩ := hu
  obtain ⟨z', hz1, hz2⟩ := hz.run w
  have hzv := hz2 σ
  simp only [VR, VR1] at hzv
  obtain ⟨arr, rfl, hc⟩ := hzv
  simp only [CR] at hc
  obtain ⟨fs', hk, hl⟩ := hc
  have hk' := hk
  have hfs' : fs' = fs := by
    rw [hS] at hk
    simp only [kids] at hk
    split at hk
    · injection hk with hk; exact hk.symm
    · cases hk
  subst hfs'
  obtain ⟨cells', h1, h2⟩ := fill_ok (σ := σ) hK (kids_fix hK hk') (place := fun i => ofs.toArray[i]?) (fun i f hf => by simpa using hpl i f hf) ps cps.toList z l arr hps hl hfi
  refine Step.same hR (c := .agg cells') ?_ ?_
  · simp only [Instr.build, Sem.run_bind, hz1, Result.andThen_ok, run_underlying hu, hofs, Value.cells]
    simp only [h1, Sem.run_pure]
  · simp only [VR, VR1]
    refine ⟨cells', rfl, ?_⟩
    simp only [CR]
    refine ⟨fs', ?_, h2⟩
    have : l.length = z.length := by
      clear h1 h2 hl hk hk' hps hz hz1 hz2
      induction ps generalizing z with
      | nil => simp only [fillV, Option.some.injEq] at hfi; rw [hfi]
      | cons p ps ih =>
        obtain ⟨i, x⟩ := p
        simp only [fillV] at hfi
        cases hl : z[i]? with
        | none => rw [hl] at hfi; cases hfi
        | some y =>
          rw [hl] at hfi; simp only at hfi
          split at hfi
          · have := ih hfi; simpa using this
          · cases hfi
    rw [this]; exact hk'

theorem range0 : Array.range 0 = #[] := rfl

theorem CRl.rep {e : Nat} {z : V} {c : List Value} (hz : CR K σ z c) (hs : z.sh = e) : ∀ n, CRl K σ (List.replicate n e) (List.replicate n z) (List.replicate n c).flatten
  | 0 => by simp [CRl]
  | n + 1 => by
    simp only [List.replicate_succ, CRl, List.flatten_cons]
    exact ⟨hs, _, _, rfl, hz, CRl.rep hz hs n⟩

theorem range_zero (c : Array Value) (n : Nat) (h0 : 0 < c.size) : ((Array.range (n * c.size)).map (c[· % c.size]!)).toList = (List.replicate n c.toList).flatten := by
  apply List.ext_getElem?
  intro j
  by_cases hj : j < n * c.size
  · have hm : j % c.size < c.size := Nat.mod_lt _ h0
    have h1 : ((Array.range (n * c.size)).map (c[· % c.size]!)).toList[j]? = some (c[j % c.size]!) := by simp [hj]
    rw [h1]
    have : ∀ n j, j < n * c.size → (List.replicate n c.toList).flatten[j]? = some (c[j % c.size]!) := by
      intro n
      induction n with
      | zero => intro j hj; simp at hj
      | succ n ih =>
        intro j hj
        rw [List.replicate_succ, List.flatten_cons]
        by_cases hjc : j < c.size
        · rw [List.getElem?_append_left (by simpa using hjc), Nat.mod_eq_of_lt hjc]
          simp [hjc]
        · rw [List.getElem?_append_right (by simpa using hjc)]
          have := ih (j - c.size) (by rw [Nat.succ_mul] at hj; omega)
          rw [Array.length_toList, this, ← Nat.mod_eq_sub_mod (by omega)]
    exact (this n j hj).symm
  · rw [List.getElem?_eq_none (by simp; omega), List.getElem?_eq_none (by simp; omega)]

/-- A slice's literal. -/
theorem step_bsl (hK : K.flat) (hR : R K σ h w) {t d e b n : Nat} {el : TypeId} {z : V} {l : List V} {ps : List (Nat × V)} {cps : Array (Nat × Value)}
    (hu : K.P.underlying t = some (.slice el)) (ty : TyF K el e b) (hz : ZF K el z) (hzs : z.sh = e) (hS : K.S d = .dyn e) (hpos : 0 < K.sz e) (hn : n * K.sz e ≤ 2 ^ 24)
    (hps : All2 (fun (a : Nat × V) (b : Nat × Value) => a.1 = b.1 ∧ VR K σ a.2 b.2 ∧ ∀ l, a.2 ≠ .tup l) ps cps.toList) (hfi : fillV (List.replicate n z) ps = some l) :
    Step K σ h w (.sl h.n 0 [] e 0 n (some n)) (h.push (.cells (.agg d l) false false)) ((Instr.buildSlice t n cps).run K.P w) := by
  obtain ⟨z', hz1, hz2⟩ := hz.run w
  obtain ⟨hcz, _⟩ := (hz2 σ).cells hz.tup
  have hfe : K.fix z.sh := by rw [hzs]; exact (hK d).2.2 e hS
  have hlz := CR.len hK z _ hfe hcz
  simp only [Array.length_toList, hzs] at hlz
  have hrep := CRl.rep hcz hzs n
  have hlen : l.length = n := by
    have : ∀ (ps : List (Nat × V)) (z l : List V), fillV z ps = some l → l.length = z.length := by
      intro ps
      induction ps with
      | nil => intro z l hfi; simp only [fillV, Option.some.injEq] at hfi; rw [hfi]
      | cons p ps ih =>
        intro z l hfi
        obtain ⟨i, x⟩ := p
        simp only [fillV] at hfi
        cases hl : z[i]? with
        | none => rw [hl] at hfi; cases hfi
        | some y =>
          rw [hl] at hfi; simp only at hfi
          split at hfi
          · have := ih _ _ hfi; simpa using this
          · cases hfi
    simpa using this ps _ l hfi
  have hfix : ∀ f ∈ List.replicate n e, K.fix f := fun f hf => by obtain ⟨_, rfl⟩ := List.mem_replicate.1 hf; exact (hK d).2.2 _ hS
  have hplace : ∀ i f, (List.replicate n e)[i]? = some f → (fun i => some (i * K.sz e, K.sz e)) i = some ((((List.replicate n e).take i).map K.sz).sum, K.sz f) := by
    intro i f hf
    have hi : i < n := by have := (List.getElem?_eq_some_iff.1 hf).1; simpa using this
    obtain ⟨_, rfl⟩ := List.mem_replicate.1 (List.mem_of_getElem? hf)
    have : min i n = i := by omega
    simp [this]
  -- the row that is laid over
  obtain ⟨base, hbase, hbl⟩ : ∃ base : Array Value, base.toList = (List.replicate n z'.cells.toList).flatten ∧
      (Instr.buildSlice t n cps).run K.P w = (match Instr.fill (fun i => some (i * K.sz e, K.sz e)) base cps.toList with
        | some cells => .ok (.slice (some ⟨w.heap.size, 0, none⟩) n n) (w.alloc (.cells cells el))
        | none => .halt (.stuck "buildSlice: a part of the wrong size") w) := by
    by_cases h0 : n = 0
    · subst h0
      refine ⟨#[], by simp, ?_⟩
      simp only [Instr.buildSlice, Sem.run_bind, run_underlying hu, Result.andThen_ok, ty.size]
      simp only [Nat.zero_mul, Nat.not_lt_zero, gt_iff_lt, if_false, if_true, Sem.run_pure, Result.andThen_ok, Sem.run_bind]
      simp only [range0, List.map_toArray, List.map_nil]
      cases Instr.fill (fun i => some (i * K.sz e, K.sz e)) #[] cps.toList with
      | none => rfl
      | some c => simp [newRow]
    · have hne : ¬ n * K.sz e = 0 := by rw [Nat.mul_eq_zero]; omega
      have hsm : ¬ n * K.sz e > 2 ^ 24 := by omega
      refine ⟨(Array.range (n * K.sz e)).map (z'.cells[· % z'.cells.size]!), ?_, ?_⟩
      · rw [← hlz]; exact range_zero _ _ (by omega)
      · simp only [Instr.buildSlice, Sem.run_bind, run_underlying hu, Result.andThen_ok, ty.size]
        simp only [hsm, hne, if_false, Sem.run_bind, Sem.run_pure, hz1, Result.andThen_ok]
        cases Instr.fill (fun i => some (i * K.sz e, K.sz e)) ((Array.range (n * K.sz e)).map (z'.cells[· % z'.cells.size]!)) cps.toList with
        | none => rfl
        | some c => simp [newRow]
  obtain ⟨cells', h1, h2⟩ := fill_ok (σ := σ) hK hfix hplace ps cps.toList (List.replicate n z) l base hps (by rw [hbase]; exact hrep) hfi
  rw [h1] at hbl
  have hca : CR K σ (.agg d l) cells'.toList := by
    simp only [CR]
    exact ⟨List.replicate n e, by rw [hS]; simp [kids, hlen], h2⟩
  obtain ⟨a1, a2, a3⟩ := hR.alloc (v := .agg d l) (g := false) (cs := cells'.toList) (tl := []) (T := el) hca (by simp)
  have hcl := CRl.len hK _ _ _ hfix h2
  refine ⟨_, _, _, hbl, by simpa using a1, a2, by simpa using a3, ?_⟩
  simp only [VR, VR1, SR, SR0]
  refine ⟨_, _, n, Sig.put_same _ _ _, rfl, by simp, Nat.le_refl _, fun k hk => by cases hk; rfl, fun _ => ⟨0, d, rfl, .inr hS, .inr ⟨by simp, ?_⟩⟩⟩
  simp only [Array.length_toList, List.map_replicate, List.sum_replicate_nat] at hcl
  simp [hcl]

/-- A slice that is made. -/
theorem step_msl (hK : K.flat) (hR : R K σ h w) {t d e b : Nat} {el : TypeId} {z : V} {l c : Int} {vl vc : Value}
    (hl : VR K σ (.i .i64 l) vl) (hc : VR K σ (.i .i64 c) vc)
    (hu : K.P.underlying t = some (.slice el)) (ty : TyF K el e b) (hz : ZF K el z) (hzs : z.sh = e) (hS : K.S d = .dyn e) (hpos : 0 < K.sz e)
    (h0 : 0 ≤ l) (h1 : l ≤ c) (h2 : c * b ≤ 2 ^ 46) (h3 : c ≤ 2 ^ 46) :
    Step K σ h w (.sl h.n 0 [] e 0 l.toNat (some c.toNat)) (h.push (.cells (.agg d (List.replicate c.toNat z)) false false)) ((Instr.makeSlice t vl vc).run K.P w) := by
  simp only [VR, VR1, SR, SR0] at hl hc
  subst hl hc
  obtain ⟨z', hz1, hz2⟩ := hz.run w
  obtain ⟨hcz, _⟩ := (hz2 σ).cells hz.tup
  have hfe : K.fix z.sh := by rw [hzs]; exact (hK d).2.2 e hS
  have hlz := CR.len hK z _ hfe hcz
  simp only [Array.length_toList, hzs] at hlz
  have hrep := CRl.rep hcz hzs c.toNat
  obtain ⟨i, dd, hi, hd, his, hib, _⟩ := ty.ex
  have w1 : IntKind.i64.wrap l = l := by unfold IntKind.wrap; simp [IntKind.bits, IntKind.signed]; omega
  have w2 : IntKind.i64.wrap c = c := by unfold IntKind.wrap; simp [IntKind.bits, IntKind.signed]; omega
  have hbc : (i.bytes : Int) * c ≤ 2 ^ 46 := by rw [hib, Int.mul_comm]; exact h2
  have hcond : (decide (c < 0) || decide ((i.bytes : Int) * c > 2 ^ 48)) = false := by
    simp only [Bool.or_eq_false_iff, decide_eq_false_iff_not]; omega
  have hcn : ((c.toNat : Nat) : Int) = c := by omega
  obtain ⟨base, hbase, hrun⟩ : ∃ base : Array Value, base.toList = (List.replicate c.toNat z'.cells.toList).flatten ∧
      (Instr.makeSlice t (.int .i64 l) (.int .i64 c)).run K.P w = .ok (.slice (some ⟨w.heap.size, 0, none⟩) l.toNat c.toNat) (w.alloc (.cells base el)) := by
    have hsz : (Go.sizeOf el).run K.P w = .ok (K.sz e) w := ty.size w
    by_cases hc0 : c.toNat = 0
    · refine ⟨#[], by simp [hc0], ?_⟩
      have hlc : ¬ (l < 0) := by omega
      have hlc2 : ¬ (l > c) := by omega
      simp only [Instr.makeSlice, Sem.run_bind, run_underlying hu, Result.andThen_ok, asInt, asIntOf, Sem.run_pure, typeInfo, run_program, hi, w1, w2, hcond, Bool.false_or, hlc, hlc2, decide_false, Bool.or_self, Bool.false_eq_true, if_false, run_askRoom, hsz, hc0, Nat.zero_mul, if_true]
      simp [newRow, range0]
    · have hne : ¬ c.toNat * K.sz e = 0 := by rw [Nat.mul_eq_zero]; omega
      refine ⟨(Array.range (c.toNat * K.sz e)).map (z'.cells[· % z'.cells.size]!), by rw [← hlz]; exact range_zero _ _ (by omega), ?_⟩
      have hlc : ¬ (l < 0) := by omega
      have hlc2 : ¬ (l > c) := by omega
      simp only [Instr.makeSlice, Sem.run_bind, run_underlying hu, Result.andThen_ok, asInt, asIntOf, Sem.run_pure, typeInfo, run_program, hi, w1, w2, hcond, Bool.false_or, hlc, hlc2, decide_false, Bool.or_self, Bool.false_eq_true, if_false, run_askRoom, hsz, hne, hz1]
      simp [newRow]
  have hca : CR K σ (.agg d (List.replicate c.toNat z)) base.toList := by
    simp only [CR]
    exact ⟨List.replicate c.toNat e, by rw [hS]; simp [kids], by rw [hbase]; exact hrep⟩
  obtain ⟨a1, a2, a3⟩ := hR.alloc (v := .agg d (List.replicate c.toNat z)) (g := false) (cs := base.toList) (tl := []) (T := el) hca (by simp)
  refine ⟨_, _, _, hrun, by simpa using a1, a2, by simpa using a3, ?_⟩
  simp only [VR, VR1, SR, SR0]
  refine ⟨_, _, c.toNat, Sig.put_same _ _ _, rfl, by simp, by omega, fun k hk => by cases hk; rfl, fun _ => ⟨0, d, rfl, .inr hS, .inr ⟨by simp, ?_⟩⟩⟩
  have := congrArg List.length hbase
  simp only [Array.length_toList, List.length_flatten, List.map_replicate, List.sum_replicate_nat] at this
  simp [this, hlz]

end
end Go.Rae

/- Each operation on abstract values does what the model's does. Fourth part: cuts, parts of values, numbers, texts. -/
namespace Go.Rae
open Go

section
variable {K : Ctx} {σ σ' : Sig} {h : H} {w : World}

/-- An operand that may be missing. -/
inductive OV (K : Ctx) (σ : Sig) : Option V → Option Value → Prop
  | none : OV K σ none none
  | some {v c} : VR K σ v c → OV K σ (some v) (some c)

theorem run_bound {most most' : Nat} {v : V} {c : Value} {d r : Nat} (code : BoundsCode) (hv : VR K σ v c) (hb : bound most (some v) d = some r) (hm : most ≤ most') :
    (Instr.sliceBound c most' code).run K.P w = .ok r w ∧ r ≤ most := by
  cases v with
  | i k n =>
    simp only [VR, VR1, SR, SR0] at hv; subst hv
    simp only [bound] at hb
    split at hb
    · rename_i hn
      injection hb with hb; subst hb
      refine ⟨?_, by omega⟩
      simp only [Instr.sliceBound, asIntOf, Sem.run_bind, Sem.run_pure, Result.andThen_ok]
      rw [if_pos (by omega)]; rfl
    · cases hb
  | _ => simp only [bound] at hb; cases hb

theorem run_bounds {len cap' : Nat} {cap : Option Nat} {lo hi mx : Option V} {clo chi cmx : Option Value} {a b : Nat} {m : Option Nat} (isS : Bool)
    (hlo : OV K σ lo clo) (hhi : OV K σ hi chi) (hmx : OV K σ mx cmx) (hlen : len ≤ cap') (hcap : ∀ k, cap = some k → cap' = k)
    (hb : bounds len cap lo hi mx = some (a, b, m)) :
    ∃ m', (Instr.sliceBounds isS len cap' clo chi cmx).run K.P w = .ok (a, b, m') w ∧ a ≤ b ∧ b ≤ m' ∧ m' ≤ cap' ∧ (∀ k, m = some k → m' = k) := by
  have hc : cap.getD len ≤ cap' := by
    cases cap with
    | none => exact hlen
    | some k => rw [hcap k rfl]; exact Nat.le_refl _
  have low : ∀ (b' : Nat) (r : Nat) (code : BoundsCode), bound b' lo 0 = some r → (match clo with | some v => Instr.sliceBound v b' code | none => pure 0 : Sem Nat).run K.P w = .ok r w ∧ r ≤ b' := by
    intro b' r code hr
    cases hlo with
    | none => simp only [bound, Option.some.injEq] at hr; subst hr; exact ⟨rfl, Nat.zero_le _⟩
    | some hv => exact run_bound code hv hr (Nat.le_refl _)
  cases hmx with
  | none =>
    simp only [bounds] at hb
    cases hbh : bound (cap.getD len) hi len with
    | none => rw [hbh] at hb; cases hb
    | some r =>
      rw [hbh] at hb
      simp only at hb
      cases hbl : bound r lo 0 with
      | none => rw [hbl] at hb; cases hb
      | some l =>
        rw [hbl] at hb
        simp only [Option.some.injEq, Prod.mk.injEq] at hb
        obtain ⟨rfl, rfl, rfl⟩ := hb
        obtain ⟨hl1, hl2⟩ := low r l .sliceB hbl
        refine ⟨cap', ?_, hl2, ?_, Nat.le_refl _, hcap⟩
        · cases hhi with
          | none =>
            simp only [bound, Option.some.injEq] at hbh; subst hbh
            simp only [Instr.sliceBounds, Sem.run_bind, Sem.run_pure, Result.andThen_ok]
            simp only [Option.isSome_none, Bool.false_eq_true, if_false] at hl1 ⊢
            cases clo with
            | none => simp only [Sem.run_bind] at hl1 ⊢; rw [hl1]; rfl
            | some v => simp only [Sem.run_bind] at hl1 ⊢; rw [hl1]; rfl
          | some hv =>
            obtain ⟨h1, h2⟩ := run_bound (w := w) (if isS then .sliceAcap else .sliceAlen) hv hbh hc
            simp only [Instr.sliceBounds, Sem.run_bind, Sem.run_pure, Result.andThen_ok, h1]
            simp only [Option.isSome_none, Bool.false_eq_true, if_false] at hl1 ⊢
            cases clo with
            | none => simp only [Sem.run_bind] at hl1 ⊢; rw [hl1]; rfl
            | some v => simp only [Sem.run_bind] at hl1 ⊢; rw [hl1]; rfl
        · cases hhi with
          | none => simp only [bound, Option.some.injEq] at hbh; omega
          | some hv => have := (run_bound (w := w) .sliceB hv hbh hc).2; omega
  | @some mv mc hm =>
    simp only [bounds] at hb
    cases hbm : bound (cap.getD len) (some mv) 0 with
    | none => rw [hbm] at hb; cases hb
    | some r =>
      rw [hbm] at hb
      cases hhi with
      | none => cases hb
      | @some hvv hcc hv =>
        simp only at hb
        cases hbh : bound r (some hvv) 0 with
        | none => rw [hbh] at hb; cases hb
        | some r2 =>
          rw [hbh] at hb
          simp only at hb
          cases hbl : bound r2 lo 0 with
          | none => rw [hbl] at hb; cases hb
          | some l =>
            rw [hbl] at hb
            simp only [Option.some.injEq, Prod.mk.injEq] at hb
            obtain ⟨rfl, rfl, rfl⟩ := hb
            obtain ⟨hl1, hl2⟩ := low r2 l .slice3C hbl
            obtain ⟨h1, h2⟩ := run_bound (w := w) (if isS then .slice3Acap else .slice3Alen) hm hbm hc
            obtain ⟨h3, h4⟩ := run_bound (w := w) .slice3B hv hbh (Nat.le_refl _)
            refine ⟨r, ?_, hl2, h4, by omega, fun k hk => by cases hk; rfl⟩
            simp only [Instr.sliceBounds, Sem.run_bind, Result.andThen_ok, h1, h3]
            simp only [Option.isSome_some, if_true] at hl1 ⊢
            cases clo with
            | none => simp only [Sem.run_bind] at hl1 ⊢; rw [hl1]; rfl
            | some v => simp only [Sem.run_bind] at hl1 ⊢; rw [hl1]; rfl

theorem extract_list (l : List UInt8) (a b : Nat) : (ByteArray.mk l.toArray).extract a b = ByteArray.mk ((l.drop a).take (b - a)).toArray := by
  apply ByteArray.ext
  rw [ByteArray.data_extract]
  apply Array.ext'
  simp [List.extract_eq_take_drop]

/-- A cut of a text. -/
theorem step_slS (hR : R K σ h w) {t : TypeId} {l : List UInt8} {x : Value} {lo hi : Option V} {clo chi : Option Value} {a b : Nat} {m : Option Nat}
    (hx : VR K σ (.s l) x) (hu : K.P.underlying t = some .string) (hlo : OV K σ lo clo) (hhi : OV K σ hi chi) (hb : bounds l.length (some l.length) lo hi none = some (a, b, m)) :
    Step K σ h w (.s ((l.drop a).take (b - a))) h ((Instr.sliceAt t x clo chi none).run K.P w) := by
  simp only [VR, VR1, SR, SR0] at hx; subst hx
  obtain ⟨m', h1, _⟩ := run_bounds (w := w) (K := K) false hlo hhi .none (Nat.le_refl _) (fun k hk => by cases hk; rfl) hb
  refine Step.same hR (c := .string ⟨((l.drop a).take (b - a)).toArray⟩) ?_ (by simp only [VR, VR1, SR, SR0])
  have hsz : (ByteArray.mk l.toArray).size = l.length := by simp [ByteArray.size]
  simp only [Instr.sliceAt, Sem.run_bind, run_underlying hu, Result.andThen_ok, Instr.slice]
  simp only [Option.isSome_none, Bool.false_eq_true, if_false, Sem.run_bind, hsz, h1, Result.andThen_ok, Sem.run_pure, extract_list]

/-- A cut of a slice. -/
theorem step_slL (hR : R K σ h w) {t e bb : Nat} {el : TypeId} {id st off len : Nat} {p : List Nat} {cap : Option Nat} {x : Value} {lo hi mx : Option V} {clo chi cmx : Option Value} {a b : Nat} {m : Option Nat}
    (hx : VR K σ (.sl id st p e off len cap) x) (hu : K.P.underlying t = some (.slice el)) (ty : TyF K el e bb) (hlo : OV K σ lo clo) (hhi : OV K σ hi chi) (hmx : OV K σ mx cmx) (hb : bounds len cap lo hi mx = some (a, b, m)) :
    Step K σ h w (.sl id st p e (off + a) (b - a) (m.map fun m => m - a)) h ((Instr.sliceAt t x clo chi cmx).run K.P w) := by
  simp only [VR, VR1, SR, SR0] at hx
  obtain ⟨L, ad, cap', hs, rfl, hle, hlen, hcap, hval⟩ := hx
  obtain ⟨m', h1, h2, h3, h4, h5⟩ := run_bounds (w := w) (K := K) true hlo hhi hmx hlen hcap hb
  refine Step.same hR (c := .slice (some (if m' = a then ad else ad.add (a * K.sz e))) (b - a) (m' - a)) ?_ ?_
  · simp only [Instr.sliceAt, Sem.run_bind, run_underlying hu, Result.andThen_ok, Instr.slice, h1, ty.size, Sem.run_pure, Option.map_some]
    split <;> rfl
  · simp only [VR, VR1, SR, SR0]
    refine ⟨L, _, m' - a, hs, rfl, hle, by omega, ?_, fun est => ?_⟩
    · intro k hk
      cases m with
      | none => cases hk
      | some m => simp only [Option.map_some, Option.some.injEq] at hk; rw [h5 m rfl]; exact hk
    · obtain ⟨o, s, ho, hS, hr⟩ := hval est
      refine ⟨o, s, ho, ?_, ?_⟩
      · rcases hS with ⟨n, hn, hle⟩ | hd
        · exact .inl ⟨n, hn, by omega⟩
        · exact .inr hd
      · by_cases hma : m' = a
        · exact .inl (by omega)
        · right
          have hc0 : cap' ≠ 0 := by omega
          obtain ⟨rfl, hroom⟩ := hr.resolve_left hc0
          rw [if_neg hma]
          constructor
          · unfold Addr.add; split
            · rename_i hz; rw [Nat.add_mul, hz]; simp
            · simp [Nat.add_mul, Nat.add_assoc]
          · have : (off + a + (m' - a)) * K.sz e ≤ (off + cap') * K.sz e := Nat.mul_le_mul_right _ (by omega)
            omega

/-- A cut of the nil slice. -/
theorem step_slN (hR : R K σ h w) {t e bb : Nat} {el : TypeId} {x : Value} {lo hi mx : Option V} {clo chi cmx : Option Value} {r : Nat × Nat × Option Nat}
    (hx : VR K σ .nilsl x) (hu : K.P.underlying t = some (.slice el)) (ty : TyF K el e bb) (hlo : OV K σ lo clo) (hhi : OV K σ hi chi) (hmx : OV K σ mx cmx) (hb : bounds 0 (some 0) lo hi mx = some r) :
    Step K σ h w .nilsl h ((Instr.sliceAt t x clo chi cmx).run K.P w) := by
  simp only [VR, VR1, SR, SR0] at hx; subst hx
  obtain ⟨a, b, m⟩ := r
  obtain ⟨m', h1, h2, h3, h4, h5⟩ := run_bounds (w := w) (K := K) true hlo hhi hmx (Nat.le_refl 0) (fun k hk => by cases hk; rfl) hb
  refine Step.same hR (c := .slice none 0 0) ?_ (by simp only [VR, VR1, SR, SR0])
  have e1 : m' = 0 := by omega
  have e2 : b = 0 := by omega
  have e3 : a = 0 := by omega
  subst e1 e2 e3
  simp only [Instr.sliceAt, Sem.run_bind, run_underlying hu, Result.andThen_ok, Instr.slice, h1, ty.size, Sem.run_pure]
  rfl

/-- A cut of an array in memory. -/
theorem step_slA (hR : R K σ h w) {t ash n e bb : Nat} {el : TypeId} {id st : Nat} {p : List Nat} {x : Value} {lo hi mx : Option V} {clo chi cmx : Option Value} {a b : Nat} {m : Option Nat}
    (hx : VR K σ (.ptr id st p ash) x) (hu : K.P.underlying t = some (.array n el)) (hS : K.S ash = .arr n e) (ty : TyF K el e bb) (hroom : ∀ L o, σ id = some L → st = L.st → offs K L.sh p = some (o, ash) → L.off + o + n * K.sz e ≤ L.room)
    (hlo : OV K σ lo clo) (hhi : OV K σ hi chi) (hmx : OV K σ mx cmx) (hb : bounds n (some n) lo hi mx = some (a, b, m)) :
    Step K σ h w (.sl id st p e a (b - a) (m.map fun m => m - a)) h ((Instr.sliceAt t x clo chi cmx).run K.P w) := by
  simp only [VR, VR1, SR, SR0] at hx
  obtain ⟨L, ad, hs, rfl, hle, hval⟩ := hx
  obtain ⟨m', h1, h2, h3, h4, h5⟩ := run_bounds (w := w) (K := K) false hlo hhi hmx (Nat.le_refl n) (fun k hk => by cases hk; rfl) hb
  refine Step.same hR (c := .slice (some (if m' = a then ad else ad.add (a * K.sz e))) (b - a) (m' - a)) ?_ ?_
  · simp only [Instr.sliceAt, Sem.run_bind, run_underlying hu, Result.andThen_ok, Instr.sureAddr, h1, ty.size, Sem.run_pure]
  · simp only [VR, VR1, SR, SR0]
    refine ⟨L, _, m' - a, hs, rfl, hle, by omega, ?_, fun est => ?_⟩
    · intro k hk
      cases m with
      | none => cases hk
      | some m => simp only [Option.map_some, Option.some.injEq] at hk; rw [h5 m rfl]; exact hk
    · obtain ⟨o, ho, rfl⟩ := hval est
      have hrm := hroom L o hs est ho
      refine ⟨o, ash, ho, .inl ⟨n, hS, by omega⟩, ?_⟩
      by_cases hma : m' = a
      · exact .inl (by omega)
      · right
        rw [if_neg hma]
        constructor
        · unfold Addr.add; split
          · rename_i hz; rw [hz]; simp
          · simp
        · have : (a + (m' - a)) * K.sz e ≤ n * K.sz e := Nat.mul_le_mul_right _ (by omega)
          omega

/-- A whole variable lies in its block. -/
theorem R.roomOf (hK : K.flat) (hR : R K σ h w) {id st : Nat} {p : List Nat} {x : V} (hr : h.read id st p = some x) (hf : K.fix x.sh) :
    ∀ L o, σ id = some L → offs K L.sh p = some (o, x.sh) → L.off + o + K.sz x.sh ≤ L.room := by
  intro L o hs ho
  obtain ⟨L', m, o', hs', _, ho', hm, hroom, _⟩ := hR.read hK hr
  rw [hs] at hs'; cases hs'
  rw [ho] at ho'
  simp only [Option.some.injEq, Prod.mk.injEq, and_true] at ho'
  subst ho'
  rw [CR.len hK x m hf hm] at hroom
  exact hroom

/-- One of a row's values, as one. -/
theorem CRl.value (hK : K.flat) {fs : List Nat} {l : List V} {cs : List Value} {i : Nat} {x : V} (hf : ∀ f ∈ fs, K.fix f) (hc : CRl K σ fs l cs) (hx : l[i]? = some x) :
    ∃ s, fs[i]? = some s ∧ x.sh = s ∧ ((aggS (K.S s) = true ∧ VR K σ x (.agg ((cs.drop ((fs.take i).map K.sz).sum).take (K.sz s)).toArray)) ∨
      (aggS (K.S s) = false ∧ ∃ c, cs[((fs.take i).map K.sz).sum]? = some c ∧ VR K σ x c)) := by
  obtain ⟨a, m, b, e, hm, hfs, hal, _⟩ := CRl.at hK fs l cs i x hf hc hx
  have hfx := hf _ (List.mem_of_getElem? hfs)
  have hlm := CR.len hK x m hfx hm
  refine ⟨x.sh, hfs, rfl, ?_⟩
  rw [← hal]
  rcases hm.value hfx with ⟨h1, hv⟩ | ⟨h1, c, rfl, hv⟩
  · left
    refine ⟨h1, ?_⟩
    have : (cs.drop a.length).take (K.sz x.sh) = m := by
      rw [e, List.append_assoc, List.drop_left, ← hlm, List.take_left]
    rw [this]; exact hv
  · right
    refine ⟨h1, c, ?_, hv⟩
    rw [e, List.append_assoc, List.getElem?_append_right (Nat.le_refl _)]
    simp

/-- A part of an aggregate, as the model takes it out. -/
theorem run_part {ty : TypeId} {s b : Nat} (hty : TyF K ty s b) {cs : Array Value} {off : Nat} {x : V}
    (hv : (aggS (K.S s) = true ∧ VR K σ x (.agg ((cs.toList.drop off).take (K.sz s)).toArray)) ∨ (aggS (K.S s) = false ∧ ∃ c, cs.toList[off]? = some c ∧ VR K σ x c)) :
    ∃ c, (part ty cs off).run K.P w = .ok c w ∧ VR K σ x c := by
  rcases hv with ⟨h1, hv⟩ | ⟨h1, c, hc, hv⟩
  · refine ⟨_, ?_, hv⟩
    simp only [part, Sem.run_bind, hty.agg, Result.andThen_ok, h1, if_true, hty.size, Sem.run_pure]
    congr 2
    apply Array.ext'
    simp [List.extract_eq_take_drop]
  · refine ⟨c, ?_, hv⟩
    rw [Array.getElem?_toList] at hc
    simp only [part, Sem.run_bind, hty.agg, Result.andThen_ok, h1, Bool.false_eq_true, if_false, hc, Sem.run_pure]

/-- A field of a struct. -/
theorem step_fld (hK : K.flat) (hR : R K σ h w) {t sh k b : Nat} {fs : List Nat} {l : List V} {x : V} {a : Value} (ha : VR K σ (.agg sh l) a) (hS : K.S sh = .str fs)
    (hst : ∃ flds f s, K.P.underlying t = some (.struct flds) ∧ flds[k]? = some f ∧ fs[k]? = some s ∧ TyF K f.type s b ∧ f.offset = ((fs.take k).map K.sz).sum) (hx : l[k]? = some x) :
    Step K σ h w x h ((Instr.field t a k).run K.P w) := by
  obtain ⟨flds, f, s, hu, hf, hfs, hty, hof⟩ := hst
  simp only [VR, VR1] at ha
  obtain ⟨arr, rfl, hc⟩ := ha
  simp only [CR] at hc
  obtain ⟨fs', hk, hl⟩ := hc
  have hfix := kids_fix hK hk
  rw [hS] at hk
  simp only [kids] at hk
  split at hk
  · injection hk with hk; subst hk
    obtain ⟨s', hs', _, hv⟩ := CRl.value hK hfix hl hx
    rw [hfs] at hs'; cases hs'
    rw [← hof] at hv
    obtain ⟨c, hr, hvc⟩ := run_part (w := w) hty hv
    refine Step.same hR (c := c) ?_ hvc
    simp only [Instr.field, Sem.run_bind, run_underlying hu, Result.andThen_ok, hf, asAgg, Sem.run_pure, hr]
  · cases hk

/-- An array's element. -/
theorem step_ixA (hK : K.flat) (hR : R K σ h w) {t ash n e b : Nat} {el : TypeId} {l : List V} {x : V} {a ix : Value} {k : IntKind} {j : Int} (ha : VR K σ (.agg ash l) a) (hi : VR K σ (.i k j) ix)
    (hu : K.P.underlying t = some (.array n el)) (hS : K.S ash = .arr n e) (ty : TyF K el e b) (h0 : 0 ≤ j) (hn : j < (n : Int)) (hx : l[j.toNat]? = some x) :
    Step K σ h w x h ((Instr.index t a ix).run K.P w) := by
  simp only [VR, VR1, SR, SR0] at hi; subst hi
  simp only [VR, VR1] at ha
  obtain ⟨arr, rfl, hc⟩ := ha
  simp only [CR] at hc
  obtain ⟨fs', hk, hl⟩ := hc
  have hfix := kids_fix hK hk
  rw [hS] at hk
  simp only [kids] at hk
  split at hk
  · rename_i hnl
    injection hk with hk; subst hk
    obtain ⟨s', hs', _, hv⟩ := CRl.value hK hfix hl hx
    obtain ⟨_, rfl⟩ := List.mem_replicate.1 (List.mem_of_getElem? hs')
    have hlt := (List.getElem?_eq_some_iff.1 hx).1
    have e1 : (((List.replicate l.length s').take j.toNat).map K.sz).sum = j.toNat * K.sz s' := by
      have : min j.toNat l.length = j.toNat := by omega
      simp [this]
    rw [e1] at hv
    obtain ⟨c, hr, hvc⟩ := run_part (w := w) ty hv
    refine Step.same hR (c := c) ?_ hvc
    simp only [Instr.index, asIntOf, Sem.run_bind, Sem.run_pure, Result.andThen_ok, run_underlying hu]
    rw [if_pos ⟨h0, hn⟩]
    simp only [Sem.run_bind, ty.size, Result.andThen_ok, hr]
  · cases hk

/-- A byte of a text. -/
theorem step_ixS (hR : R K σ h w) {t : TypeId} {l : List UInt8} {a ix : Value} {k : IntKind} {j : Int} {c : UInt8} (ha : VR K σ (.s l) a) (hi : VR K σ (.i k j) ix)
    (hu : K.P.underlying t = some .string) (h0 : 0 ≤ j) (hx : l[j.toNat]? = some c) :
    Step K σ h w (byteV c) h ((Instr.index t a ix).run K.P w) := by
  simp only [VR, VR1, SR, SR0] at hi ha; subst hi ha
  refine Step.same hR (c := .int .u8 c.toNat) ?_ (by simp only [byteV, VR, VR1, SR, SR0])
  have hlt := (List.getElem?_eq_some_iff.1 hx)
  obtain ⟨hlt, hval⟩ := hlt
  have hb : (ByteArray.mk l.toArray)[j.toNat]? = some c := by
    have : j.toNat < (ByteArray.mk l.toArray).size := by simpa [ByteArray.size] using hlt
    rw [getElem?_pos (ByteArray.mk l.toArray) j.toNat this]
    simp only [Option.some.injEq]
    rw [← hval]; rfl
  simp only [Instr.index, asIntOf, Sem.run_bind, Sem.run_pure, Result.andThen_ok, run_underlying hu, h0, if_true, hb]

/-- A component of a tuple. -/
theorem step_ext (hR : R K σ h w) {l : List V} {i : Nat} {x : V} {a : Value} (ha : VR K σ (.tup l) a) (hx : l[i]? = some x) (hnt : ∀ m, x ≠ .tup m) :
    Step K σ h w x h ((Instr.extract a i).run K.P w) := by
  simp only [VR] at ha
  obtain ⟨arr, rfl, h2⟩ := ha
  obtain ⟨c, hc, hv⟩ := h2.at hx
  refine Step.same hR (c := c) ?_ ?_
  · rw [Array.getElem?_toList] at hc
    simp only [Instr.extract, hc, Sem.run_pure]
  · cases x with
    | tup m => exact absurd rfl (hnt m)
    | _ => simpa only [VR] using hv

end
end Go.Rae

/- Each operation on abstract values does what the model's does. Fifth part: arithmetic, comparisons, conversions. -/
namespace Go.Rae
open Go

section
variable {K : Ctx} {σ σ' : Sig} {h : H} {w : World}

theorem vri {k : IntKind} {n : Int} {c : Value} (hv : VR K σ (.i k n) c) : c = .int k n := by simpa only [VR, VR1, SR, SR0] using hv
theorem vrb {x : Bool} {c : Value} (hv : VR K σ (.b x) c) : c = .bool x := by simpa only [VR, VR1, SR, SR0] using hv
theorem vrs {l : List UInt8} {c : Value} (hv : VR K σ (.s l) c) : c = .string ⟨l.toArray⟩ := by simpa only [VR, VR1, SR, SR0] using hv
theorem mki (k : IntKind) (n : Int) : VR K σ (.i k n) (.int k n) := by simp only [VR, VR1, SR, SR0]
theorem mkb (x : Bool) : VR K σ (.b x) (.bool x) := by simp only [VR, VR1, SR, SR0]
theorem mks (l : List UInt8) : VR K σ (.s l) (.string ⟨l.toArray⟩) := by simp only [VR, VR1, SR, SR0]

theorem bitI_ok {op : BinOp} {k : IntKind} {a b : Int} {v : V} (hb : bitI op k a b = some v) : ∃ c, (Op.intBits op k a b).run K.P w = .ok c w ∧ VR K σ v c := by
  cases op <;> simp only [bitI] at hb <;> first
    | (injection hb with hb; subst hb; exact ⟨_, rfl, mki _ _⟩)
    | cases hb

theorem cmpI_ok {op : BinOp} {a b : Int} {v : V} (hb : cmpI op a b = some v) : ∃ c, (Op.intCmp op a b).run K.P w = .ok c w ∧ VR K σ v c := by
  cases op <;> simp only [cmpI] at hb <;> first
    | (injection hb with hb; subst hb; exact ⟨_, rfl, mkb _⟩)
    | cases hb

theorem binI_ok {op : BinOp} {k : IntKind} {a b : Int} {v : V} (t : TypeId) (hb : binI op k a b = some v) : ∃ c, (binOp op t (.int k a) (.int k b)).run K.P w = .ok c w ∧ VR K σ v c := by
  cases op with
  | shl => simp only [binI] at hb; cases hb
  | shr => simp only [binI] at hb; cases hb
  | add => simp only [binI] at hb; injection hb with hb; subst hb; exact ⟨_, by simp [binOp, Op.intArith], mki _ _⟩
  | sub => simp only [binI] at hb; injection hb with hb; subst hb; exact ⟨_, by simp [binOp, Op.intArith], mki _ _⟩
  | mul => simp only [binI] at hb; injection hb with hb; subst hb; exact ⟨_, by simp [binOp, Op.intArith], mki _ _⟩
  | quo =>
    simp only [binI] at hb
    split at hb
    · cases hb
    · rename_i h0; injection hb with hb; subst hb; exact ⟨.int k (k.wrap (a.tdiv b)), by simp [binOp, Op.intDiv, h0], mki _ _⟩
  | rem =>
    simp only [binI] at hb
    split at hb
    · cases hb
    · rename_i h0; injection hb with hb; subst hb; exact ⟨.int k (a.tmod b), by simp [binOp, Op.intDiv, h0], mki _ _⟩
  | and => simp only [binI] at hb; obtain ⟨c, h1, h2⟩ := bitI_ok (w := w) (σ := σ) (K := K) hb; exact ⟨c, by simpa [binOp] using h1, h2⟩
  | or => simp only [binI] at hb; obtain ⟨c, h1, h2⟩ := bitI_ok (w := w) (σ := σ) (K := K) hb; exact ⟨c, by simpa [binOp] using h1, h2⟩
  | xor => simp only [binI] at hb; obtain ⟨c, h1, h2⟩ := bitI_ok (w := w) (σ := σ) (K := K) hb; exact ⟨c, by simpa [binOp] using h1, h2⟩
  | andNot => simp only [binI] at hb; obtain ⟨c, h1, h2⟩ := bitI_ok (w := w) (σ := σ) (K := K) hb; exact ⟨c, by simpa [binOp] using h1, h2⟩
  | eql => simp only [binI] at hb; obtain ⟨c, h1, h2⟩ := cmpI_ok (w := w) (σ := σ) (K := K) hb; exact ⟨c, by simpa [binOp] using h1, h2⟩
  | neq => simp only [binI] at hb; obtain ⟨c, h1, h2⟩ := cmpI_ok (w := w) (σ := σ) (K := K) hb; exact ⟨c, by simpa [binOp] using h1, h2⟩
  | lss => simp only [binI] at hb; obtain ⟨c, h1, h2⟩ := cmpI_ok (w := w) (σ := σ) (K := K) hb; exact ⟨c, by simpa [binOp] using h1, h2⟩
  | leq => simp only [binI] at hb; obtain ⟨c, h1, h2⟩ := cmpI_ok (w := w) (σ := σ) (K := K) hb; exact ⟨c, by simpa [binOp] using h1, h2⟩
  | gtr => simp only [binI] at hb; obtain ⟨c, h1, h2⟩ := cmpI_ok (w := w) (σ := σ) (K := K) hb; exact ⟨c, by simpa [binOp] using h1, h2⟩
  | geq => simp only [binI] at hb; obtain ⟨c, h1, h2⟩ := cmpI_ok (w := w) (σ := σ) (K := K) hb; exact ⟨c, by simpa [binOp] using h1, h2⟩

theorem shI_ok {op : BinOp} {k k' : IntKind} {a b : Int} {v : V} (t : TypeId) (hop : op = .shl ∨ op = .shr) (hb : shI op k a b = some v) :
    ∃ c, (binOp op t (.int k a) (.int k' b)).run K.P w = .ok c w ∧ VR K σ v c := by
  unfold shI at hb
  split at hb
  · cases hb
  · rename_i h0
    rcases hop with rfl | rfl
    · simp only at hb; injection hb with hb; subst hb; exact ⟨_, by simp only [binOp, Op.shift, h0, if_false]; rfl, mki _ _⟩
    · simp only at hb; injection hb with hb; subst hb; exact ⟨_, by simp only [binOp, Op.shift, h0, if_false]; rfl, mki _ _⟩

theorem append_bytes (a b : List UInt8) : (ByteArray.mk a.toArray) ++ (ByteArray.mk b.toArray) = ByteArray.mk (a ++ b).toArray := by
  apply ByteArray.ext
  rw [ByteArray.data_append]
  simp

theorem binS_ok {op : BinOp} {a b : List UInt8} {v : V} (t : TypeId) (hb : binS op a b = some v) :
    ∃ c, (binOp op t (.string ⟨a.toArray⟩) (.string ⟨b.toArray⟩)).run K.P w = .ok c w ∧ VR K σ v c := by
  cases op <;> simp only [binS] at hb <;> first
    | (cases hb; done)
    | (injection hb with hb; subst hb; refine ⟨.bool _, ?_, mkb _⟩; simp [binOp, Op.stringOp]; done)
    | (split at hb
       · rename_i hl
         injection hb with hb; subst hb
         refine ⟨_, ?_, mks _⟩
         have : ¬ (((ByteArray.mk a.toArray).size + (ByteArray.mk b.toArray).size : Nat) : Int) > IntKind.i64.max := by
           simp only [ByteArray.size, List.size_toArray, IntKind.max, IntKind.signed, IntKind.bits]
           omega
         simp only [binOp, Op.stringOp, this, if_false, append_bytes]
         rfl
       · cases hb)

theorem guard_int (op : BinOp) (t : TypeId) (x y : Operand) (k k' : IntKind) (a b : Int) : (eqGuard op t x y (.int k a) (.int k' b)).run K.P w = .ok () w := by
  cases op <;> rfl
theorem guard_str (op : BinOp) (t : TypeId) (x y : Operand) (a b : ByteArray) : (eqGuard op t x y (.string a) (.string b)).run K.P w = .ok () w := by
  cases op <;> rfl
theorem guard_bool (op : BinOp) (t : TypeId) (x y : Operand) (a b : Bool) : (eqGuard op t x y (.bool a) (.bool b)).run K.P w = .ok () w := by
  cases op <;> rfl

theorem step_bin (hR : R K σ h w) {op : BinOp} {t : TypeId} {x y : Operand} {a b v : V} {ca cb : Value} (ha : VR K σ a ca) (hb : VR K σ b cb) (hv : binV op a b = some v) :
    Step K σ h w v h ((do eqGuard op t x y ca cb; binOp op t ca cb : Sem Value).run K.P w) := by
  have key : ∀ c, (eqGuard op t x y ca cb).run K.P w = .ok () w → (binOp op t ca cb).run K.P w = .ok c w ∧ VR K σ v c → Step K σ h w v h ((do eqGuard op t x y ca cb; binOp op t ca cb : Sem Value).run K.P w) :=
    fun c h1 h2 => Step.same hR (c := c) (by simp only [Sem.run_bind, h1, Result.andThen_ok, h2.1]) h2.2
  cases a with
  | i k n =>
    cases b with
    | i k' m =>
      rw [vri ha, vri hb] at key ⊢
      simp only [binV] at hv
      cases op with
      | shl => obtain ⟨c, h1, h2⟩ := shI_ok (K := K) (σ := σ) (w := w) (k' := k') t (.inl rfl) hv; exact key c (guard_int ..) ⟨h1, h2⟩
      | shr => obtain ⟨c, h1, h2⟩ := shI_ok (K := K) (σ := σ) (w := w) (k' := k') t (.inr rfl) hv; exact key c (guard_int ..) ⟨h1, h2⟩
      | _ =>
        simp only at hv
        split at hv
        · rename_i e; subst e
          obtain ⟨c, h1, h2⟩ := binI_ok (K := K) (σ := σ) (w := w) t hv
          exact key c (guard_int ..) ⟨h1, h2⟩
        · cases hv
    | _ => simp only [binV] at hv; cases hv
  | s l =>
    cases b with
    | s m =>
      rw [vrs ha, vrs hb] at key ⊢
      simp only [binV] at hv
      obtain ⟨c, h1, h2⟩ := binS_ok (K := K) (σ := σ) (w := w) t hv
      exact key c (guard_str ..) ⟨h1, h2⟩
    | _ => simp only [binV] at hv; cases hv
  | _ => simp only [binV] at hv; cases hv

theorem step_eqb (hR : R K σ h w) {t : TypeId} {x y : Operand} {a b neg : Bool} {ca cb : Value} (ha : VR K σ (.b a) ca) (hb : VR K σ (.b b) cb) (hu : K.P.underlying t = some .bool) :
    Step K σ h w (.b (if neg then !(a == b) else a == b)) h ((do eqGuard (if neg then .neq else .eql) t x y ca cb; binOp (if neg then .neq else .eql) t ca cb : Sem Value).run K.P w) := by
  rw [vrb ha, vrb hb]
  refine Step.same hR (c := .bool (if neg then !(a == b) else a == b)) ?_ (mkb _)
  simp only [Sem.run_bind, guard_bool, Result.andThen_ok]
  cases neg
  · simp [binOp, Op.equal, Op.maxDepth, run_equalIn_bool' w 9999 t a b hu]
  · simp [binOp, Op.equal, Op.maxDepth, run_equalIn_bool' w 9999 t a b hu]

/-- The kind of a type whose values may be nil, as 'eqn' counts them. -/
def nilKind (k : Nat) (d : TypeDesc) : Prop :=
  match k, d with
  | 0, .pointer _ => True
  | 1, .slice _ => True
  | 2, .map _ _ => True
  | 3, .func _ _ _ => True
  | 4, .interface _ => True
  | _, _ => False

theorem eqn_in {k : Nat} {t : TypeId} {d : TypeDesc} {a b : V} {r : Bool} {ca cb : Value} (ha : VR K σ a ca) (hb : VR K σ b cb) (hu : K.P.underlying t = some d) (hk : nilKind k d)
    (he : eqn k a b = some r) (D : Nat) : (Op.equalIn (D + 1) t ca cb).run K.P w = .ok r w ∧
      (binOp .eql t ca cb = (do pure (.bool (← Op.equal t ca cb)) : Sem Value)) ∧ (binOp .neq t ca cb = (do pure (.bool (!(← Op.equal t ca cb))) : Sem Value)) ∧
      ∀ (op : BinOp) (x y : Operand), ((∃ v, x = .const v) ∨ (∃ v, y = .const v)) → (eqGuard op t x y ca cb).run K.P w = .ok () w := by
  unfold eqn at he
  split at he <;> first
    | (cases he; done)
    | (injection he with he; subst he
       simp only [VR, VR1, SR, SR0] at ha hb
       repeat' (first | (obtain ⟨L, a', ha1, rfl, ha2⟩ := ha) | (obtain ⟨L, a', c', ha1, rfl, ha2⟩ := ha) | (obtain ⟨L, ha1, a', rfl, ha2⟩ := ha) | (obtain ⟨a', rfl, ha2⟩ := ha) | subst ha)
       repeat' (first | (obtain ⟨L, a', hb1, rfl, hb2⟩ := hb) | (obtain ⟨L, a', c', hb1, rfl, hb2⟩ := hb) | (obtain ⟨L, hb1, a', rfl, hb2⟩ := hb) | (obtain ⟨a', rfl, hb2⟩ := hb) | subst hb)
       cases d <;> simp only [nilKind] at hk
       refine ⟨by simp [Op.equalIn, run_underlying hu], rfl, rfl, fun op x y hc => ?_⟩
       first
         | (cases op <;> rfl; done)
         | (rcases hc with ⟨v, rfl⟩ | ⟨v, rfl⟩ <;> cases op <;> simp [eqGuard]))

theorem step_eqn (hR : R K σ h w) {k : Nat} {t : TypeId} {d : TypeDesc} {x y : Operand} {a b : V} {neg r : Bool} {ca cb : Value} (ha : VR K σ a ca) (hb : VR K σ b cb) (hu : K.P.underlying t = some d) (hk : nilKind k d)
    (hc : (∃ v, x = .const v) ∨ (∃ v, y = .const v)) (he : eqn k a b = some r) :
    Step K σ h w (.b (if neg then !r else r)) h ((do eqGuard (if neg then .neq else .eql) t x y ca cb; binOp (if neg then .neq else .eql) t ca cb : Sem Value).run K.P w) := by
  obtain ⟨h2, h3, h4, h1⟩ := eqn_in (w := w) ha hb hu hk he 9999
  refine Step.same hR (c := .bool (if neg then !r else r)) ?_ (mkb _)
  simp only [Sem.run_bind, h1 _ x y hc, Result.andThen_ok]
  have e : Op.equal t ca cb = Op.equalIn (9999 + 1) t ca cb := rfl
  cases neg
  · simp only [Bool.false_eq_true, if_false]
    rw [h3, e]
    simp only [Sem.run_bind, h2, Result.andThen_ok, Sem.run_pure]
  · simp only [if_true]
    rw [h4, e]
    simp only [Sem.run_bind, h2, Result.andThen_ok, Sem.run_pure]

theorem step_un (hR : R K σ h w) {op : UnOp} {a v : V} {ca : Value} (ha : VR K σ a ca) (hv : unV op a = some v) :
    Step K σ h w v h ((Op.unary op ca).run K.P w) := by
  cases a with
  | b x =>
    rw [vrb ha]
    cases op <;> simp only [unV] at hv <;> first
      | (cases hv; done)
      | (injection hv with hv; subst hv; exact Step.same hR (c := .bool (!x)) rfl (mkb _))
  | i k n =>
    rw [vri ha]
    cases op <;> simp only [unV] at hv <;> first
      | (cases hv; done)
      | (injection hv with hv; subst hv; exact Step.same hR (c := .int k (k.wrap (0 - n))) rfl (mki _ _))
      | (obtain ⟨c, h1, h2⟩ := bitI_ok (K := K) (σ := σ) (w := w) hv; exact Step.same hR (c := c) (by simpa only [Op.unary] using h1) h2)
  | _ => cases op <;> simp only [unV] at hv <;> cases hv

theorem step_cint (hR : R K σ h w) {src dst : TypeId} {d : TypeDesc} {k k' : IntKind} {n : Int} {ca : Value} (ha : VR K σ (.i k n) ca) (hs : K.P.underlying src = some d) (hd : K.P.underlying dst = some (.int k')) :
    Step K σ h w (.i k' (k'.wrap n)) h ((convert src dst ca).run K.P w) := by
  rw [vri ha]
  refine Step.same hR (c := .int k' (k'.wrap n)) ?_ (mki _ _)
  simp [convert, run_underlying hs, run_underlying hd, Conv.intToInt]

theorem step_cid (hR : R K σ h w) {src dst : TypeId} {d : TypeDesc} {l : List UInt8} {ca : Value} (ha : VR K σ (.s l) ca) (hs : K.P.underlying src = some d) (hd : K.P.underlying dst = some .string) :
    Step K σ h w (.s l) h ((convert src dst ca).run K.P w) := by
  rw [vrs ha]
  refine Step.same hR (c := .string ⟨l.toArray⟩) ?_ (mks _)
  simp [convert, run_underlying hs, run_underlying hd]

theorem step_ifc (hR : R K σ h w) {t : TypeId} {d : TypeDesc} {tid : Nat} {a : V} {ca : Value} (ha : VR K σ a ca) (hu : K.P.underlying t = some d) (hd : ∀ ms, d ≠ .interface ms) (ht : K.tid tid = t)
    (hs : (match a with | .b _ | .i _ _ | .s _ | .nilp | .ptr .. | .nilsl | .sl .. | .top => true | _ => false) = true) :
    Step K σ h w (.ifc tid a) h ((Instr.makeInterface t ca).run K.P w) := by
  refine Step.same hR (c := .iface t ca) ?_ ?_
  · simp only [Instr.makeInterface, Sem.run_bind, run_underlying hu, Result.andThen_ok]
    cases d <;> first | rfl | exact absurd rfl (hd _)
  · simp only [VR, VR1, SR]
    refine ⟨ca, by rw [ht], ?_⟩
    cases a <;> first | (simpa only [VR, VR1, SR] using ha) | cases hs

theorem VR.not_tup1 {v : V} {c : Value} (hv : SR0 K σ v c) : (∀ k l, v ≠ .agg k l) ∧ ∀ l, v ≠ .tup l := by
  constructor
  · intro k l e; subst e; exact hv
  · intro l e; subst e; exact hv

theorem step_mx (hR : R K σ h w) {vs : List V} {cs : Array Value} {v : V} {ats : Array TypeId} {t : TypeId} (h2 : All2 (VR K σ) vs cs.toList) (hv : maxI vs = some v) :
    Step K σ h w v h ((Builtin.max_ ats t cs).run K.P w) := by
  have fold : ∀ (vs : List V) (cs : List Value) (x v : V) (cx : Value), All2 (VR K σ) vs cs → VR K σ x cx →
      vs.foldlM (fun a y => match a, y with | .i k m, .i _ n => some (.i k (if n > m then n else m)) | _, _ => none) x = some v →
      ∃ c, (cs.foldlM Builtin.max2 cx).run K.P w = .ok c w ∧ VR K σ v c := by
    intro vs cs x v cx h2
    induction h2 generalizing x cx with
    | nil => intro hx he; simp only [List.foldlM_nil] at he; cases he; exact ⟨cx, rfl, hx⟩
    | cons hab _ ih =>
      rename_i y cy l m _
      intro hx he
      simp only [List.foldlM_cons] at he ⊢
      cases x with
      | i k a =>
        cases y with
        | i k' b =>
          rw [vri hx, vri hab]
          simp only [Option.bind_eq_bind, Option.bind_some] at he
          obtain ⟨c, h3, h4⟩ := ih (.i k (if b > a then b else a)) _ (mki _ _) he
          exact ⟨c, by simp only [Sem.run_bind, Builtin.max2, Sem.run_pure, Result.andThen_ok]; exact h3, h4⟩
        | _ => cases he
      | _ => cases he
  cases h2' : cs.toList with
  | nil => rw [h2'] at h2; cases h2; simp only [maxI] at hv; cases hv
  | cons c0 cr =>
    rw [h2'] at h2
    cases h2 with
    | cons ha hr =>
      simp only [maxI] at hv
      obtain ⟨c, h3, h4⟩ := fold _ _ _ _ _ hr ha hv
      exact Step.same hR (c := c) (by simp only [Builtin.max_, h2']; exact h3) h4

theorem step_mn (hR : R K σ h w) {vs : List V} {cs : Array Value} {v : V} {ats : Array TypeId} {t : TypeId} (h2 : All2 (VR K σ) vs cs.toList) (hv : minI vs = some v) :
    Step K σ h w v h ((Builtin.min_ ats t cs).run K.P w) := by
  have fold : ∀ (vs : List V) (cs : List Value) (x v : V) (cx : Value), All2 (VR K σ) vs cs → VR K σ x cx →
      vs.foldlM (fun a y => match a, y with | .i k m, .i _ n => some (.i k (if n < m then n else m)) | _, _ => none) x = some v →
      ∃ c, (cs.foldlM Builtin.min2 cx).run K.P w = .ok c w ∧ VR K σ v c := by
    intro vs cs x v cx h2
    induction h2 generalizing x cx with
    | nil => intro hx he; simp only [List.foldlM_nil] at he; cases he; exact ⟨cx, rfl, hx⟩
    | cons hab _ ih =>
      rename_i y cy l m _
      intro hx he
      simp only [List.foldlM_cons] at he ⊢
      cases x with
      | i k a =>
        cases y with
        | i k' b =>
          rw [vri hx, vri hab]
          simp only [Option.bind_eq_bind, Option.bind_some] at he
          obtain ⟨c, h3, h4⟩ := ih (.i k (if b < a then b else a)) _ (mki _ _) he
          exact ⟨c, by simp only [Sem.run_bind, Builtin.min2, Sem.run_pure, Result.andThen_ok]; exact h3, h4⟩
        | _ => cases he
      | _ => cases he
  cases h2' : cs.toList with
  | nil => rw [h2'] at h2; cases h2; simp only [minI] at hv; cases hv
  | cons c0 cr =>
    rw [h2'] at h2
    cases h2 with
    | cons ha hr =>
      simp only [minI] at hv
      obtain ⟨c, h3, h4⟩ := fold _ _ _ _ _ hr ha hv
      exact Step.same hR (c := c) (by simp only [Builtin.min_, h2']; exact h3) h4

end
end Go.Rae

/- Each operation on abstract values does what the model's does. Sixth part: a slice's elements; append; copy; bytes and texts. -/
namespace Go.Rae
open Go

section
variable {K : Ctx} {σ σ' : Sig} {h : H} {w : World}

theorem CRl.split : ∀ (n : Nat) (fs : List Nat) (l : List V) (cs : List Value), CRl K σ fs l cs →
    ∃ a b, cs = a ++ b ∧ CRl K σ (fs.take n) (l.take n) a ∧ CRl K σ (fs.drop n) (l.drop n) b := by
  intro n
  induction n with
  | zero => intro fs l cs hc; exact ⟨[], cs, rfl, by simp [CRl], by simpa using hc⟩
  | succ n ih =>
    intro fs l cs hc
    match fs, l with
    | [], [] => simp only [CRl] at hc; subst hc; exact ⟨[], [], rfl, by simp [CRl], by simp [CRl]⟩
    | f :: fs, v :: l =>
      simp only [CRl] at hc
      obtain ⟨hs, a, b, rfl, ha, hb⟩ := hc
      obtain ⟨a1, b1, rfl, h1, h2⟩ := ih fs l b hb
      refine ⟨a ++ a1, b1, by simp, ?_, by simpa using h2⟩
      simp only [List.take_succ_cons, CRl]
      exact ⟨hs, a, a1, rfl, ha, h1⟩
    | [], _ :: _ => simp only [CRl] at hc
    | _ :: _, [] => simp only [CRl] at hc

theorem CRl.append : ∀ (fs : List Nat) (l : List V) (cs : List Value) (gs : List Nat) (m : List V) (ds : List Value), CRl K σ fs l cs → CRl K σ gs m ds → CRl K σ (fs ++ gs) (l ++ m) (cs ++ ds) := by
  intro fs
  induction fs with
  | nil =>
    intro l cs gs m ds h1 h2
    cases l with
    | nil => simp only [CRl] at h1; subst h1; simpa using h2
    | cons => simp only [CRl] at h1
  | cons f fs ih =>
    intro l cs gs m ds h1 h2
    cases l with
    | nil => simp only [CRl] at h1
    | cons v l =>
      simp only [CRl] at h1
      obtain ⟨hs, a, b, rfl, ha, hb⟩ := h1
      simp only [List.cons_append, CRl]
      exact ⟨hs, a, b ++ ds, by simp, ha, ih l b gs m ds hb h2⟩

theorem CRl.lens : ∀ (fs : List Nat) (l : List V) (cs : List Value), CRl K σ fs l cs → fs.length = l.length := by
  intro fs
  induction fs with
  | nil => intro l cs h1; cases l with | nil => rfl | cons => simp only [CRl] at h1
  | cons f fs ih =>
    intro l cs h1
    cases l with
    | nil => simp only [CRl] at h1
    | cons v l => simp only [CRl] at h1; obtain ⟨_, a, b, _, _, hb⟩ := h1; simp [ih l b hb]

theorem kids_el {s e n : Nat} {fs : List Nat} (hS : (∃ m, K.S s = .arr m e ∧ True) ∨ K.S s = .dyn e) (hk : kids (K.S s) n = some fs) : fs = List.replicate n e := by
  rcases hS with ⟨m, hm, _⟩ | hd
  · rw [hm] at hk; simp only [kids] at hk
    split at hk
    · rename_i e1; subst e1; injection hk with hk; exact hk.symm
    · cases hk
  · rw [hd] at hk; simp only [kids] at hk; injection hk with hk; exact hk.symm

/-- A slice's elements lie one behind the other. -/
theorem R.elems (hK : K.flat) (hR : R K σ h w) {id st off len e : Nat} {p : List Nat} {cap : Option Nat} {c : Value} {xs : List V} (hv : VR K σ (.sl id st p e off len cap) c)
    (he : h.elems (.sl id st p e off len cap) = some xs) :
    ∃ a cap' cs, c = .slice (some a) len cap' ∧ CRl K σ (List.replicate len e) xs cs ∧ xs.length = len ∧ cs.length = len * K.sz e ∧ (∀ j v, cs[j]? = some v → w.cell? (a.add j) = some v) := by
  simp only [H.elems] at he
  cases hr : h.read id st p with
  | none => rw [hr] at he; cases he
  | some x =>
    rw [hr] at he
    cases x with
    | agg k l =>
      simp only at he
      split at he
      · rename_i hle
        injection he with he; subst he
        obtain ⟨L, m, o, hs, hst, hof, hm, hroom, arr, T, fr, hb, hz, hcell⟩ := hR.read hK hr
        simp only [VR, VR1, SR, SR0] at hv
        obtain ⟨L', a, cap', hs', rfl, hle', hlen, hcap, hval⟩ := hv
        rw [hs] at hs'; cases hs'
        obtain ⟨o', s, ho', hS, hadr⟩ := hval hst.symm
        rw [hof] at ho'
        simp only [Option.some.injEq, Prod.mk.injEq, V.sh] at ho'
        obtain ⟨rfl, rfl⟩ := ho'
        simp only [CR] at hm
        obtain ⟨fs, hk, hl⟩ := hm
        have hfix := kids_fix hK hk
        have hfs := kids_el (hS.imp (fun ⟨n, hn, _⟩ => ⟨n, hn, trivial⟩) _root_.id) hk
        subst hfs
        obtain ⟨m1, m2, rfl, h1, h2⟩ := CRl.split off _ _ _ hl
        obtain ⟨m3, m4, rfl, h3, h4⟩ := CRl.split len _ _ _ h2
        have e1 : ((List.replicate l.length e).drop off).take len = List.replicate len e := by
          rw [List.drop_replicate, List.take_replicate]; congr 1; omega
        have e2 : (List.replicate l.length e).take off = List.replicate off e := by
          rw [List.take_replicate]; congr 1; omega
        rw [e1] at h3
        rw [e2] at h1
        have hfe : len ≠ 0 ∨ off ≠ 0 → K.fix e := fun hne => hfix e (List.mem_replicate.2 ⟨by omega, rfl⟩)
        have hl3 : m3.length = len * K.sz e := by
          rw [CRl.len hK _ _ _ (fun f hf => by obtain ⟨hne, rfl⟩ := List.mem_replicate.1 hf; exact hfe (.inl hne)) h3]; simp
        have hl1 : m1.length = off * K.sz e := by
          rw [CRl.len hK _ _ _ (fun f hf => by obtain ⟨hne, rfl⟩ := List.mem_replicate.1 hf; exact hfe (.inr hne)) h1]; simp
        refine ⟨a, cap', m3, rfl, h3, by simp; omega, hl3, fun j v hj => ?_⟩
        have hjl := (List.getElem?_eq_some_iff.1 hj).1
        have hc0 : cap' ≠ 0 := by
          intro h0
          have : len = 0 := by omega
          rw [this, Nat.zero_mul] at hl3; omega
        obtain ⟨rfl, _⟩ := hadr.resolve_left hc0
        have hadd : (⟨L.blk, L.off + o + off * K.sz e, none⟩ : Addr).add j = ⟨L.blk, L.off + o + off * K.sz e + j, none⟩ := by unfold Addr.add; split <;> simp_all
        rw [hadd, cell_of_row w _ _ arr T fr hb]
        have := hcell (off * K.sz e + j) v (by
          rw [← hl1, List.getElem?_append_right (by omega), List.getElem?_append_left (by omega)]
          rw [← hj]; congr 1; omega)
        rw [← this]; congr 1; omega
      · cases he
    | _ => simp at he

theorem run_first {a : Addr} {n len cap s : Nat} {cs : List Value} (hl : cs.length = n * s) (hc : ∀ j v, cs[j]? = some v → w.cell? (a.add j) = some v) :
    (Builtin.firstCells s n (.slice (some a) len cap)).run K.P w = .ok cs.toArray w := by
  simp only [Builtin.firstCells, ← hl]
  exact run_loadCells_list w a cs hc

theorem size_zeroCells (z : Array Value) (n : Nat) : (Builtin.zeroCells z n).size = n * z.size := by simp [Builtin.zeroCells]

/-- What is appended, as the model reads it. -/
structure Src (K : Ctx) (σ : Sig) (w : World) (e : Nat) (ys : List V) (xv : Value) (cs : List Value) : Prop where
  rel : CRl K σ (List.replicate ys.length e) ys cs
  len : ∀ w', (Builtin.lenOf xv).run K.P w' = .ok ys.length w'
  run : ∀ w', (∀ b, b < w.heap.size → w'.heap[b]? = w.heap[b]?) → (Builtin.firstCells (K.sz e) ys.length xv).run K.P w' = .ok cs.toArray w'

theorem notInt : ∀ d : TypeDesc, (∀ k, d ≠ .int k) → (match d with | .int _ => true | _ => false) = false := by
  intro d hd
  cases d <;> first | rfl | exact absurd rfl (hd _)

/-- An append that finds room. -/
theorem run_app_fits {sT xT ty el : TypeId} {d : TypeDesc} {e b n sLen sCap : Nat} {base : Option Addr} {xv : Value} {cs : List Value}
    (hu : K.P.underlying sT = some (.slice el)) (hx : K.P.underlying xT = some d) (hd : ∀ k, d ≠ .int k) (hty : TyF K el e b)
    (hlen : (Builtin.lenOf xv).run K.P w = .ok n w) (hrun : (Builtin.firstCells (K.sz e) n xv).run K.P w = .ok cs.toArray w) (hfit : sLen + n ≤ sCap) :
    (Builtin.append_ #[sT, xT] ty #[.slice base sLen sCap, xv]).run K.P w =
      (match base with
        | some a => ((storeCells (a.add (sLen * K.sz e)) cs).run K.P w).andThen fun _ w' => .ok (.slice base (sLen + n) sCap) w'
        | none => .ok (.slice base (sLen + n) sCap) w) := by
  simp only [Builtin.append_, List.getElem?_toArray, List.getElem?_cons_zero, List.getElem?_cons_succ, Sem.run_bind, run_underlying hu, Result.andThen_ok, hty.size, run_underlying hx, Sem.run_pure]
  simp only [Bool.false_eq_true, if_false, Sem.run_bind, hlen, Result.andThen_ok, hfit, if_true, Bool.not_false, hrun]
  cases base with
  | none => rfl
  | some a => simp only [Sem.run_bind, Sem.run_pure]

/-- An append that makes a new array. -/
theorem run_app_new {sT xT ty el : TypeId} {d : TypeDesc} {e b n sLen sCap : Nat} {z : V} {base : Option Addr} {xv : Value} {cs co : List Value}
    (hK : K.flat) (hu : K.P.underlying sT = some (.slice el)) (hx : K.P.underlying xT = some d) (hd : ∀ k, d ≠ .int k) (hty : TyF K el e b) (hz : ZF K el z) (hzs : z.sh = e) (hb : 0 < b)
    (hlen : (Builtin.lenOf xv).run K.P w = .ok n w) (hrun : (Builtin.firstCells (K.sz e) n xv).run K.P w.drew = .ok cs.toArray w.drew)
    (hold : (Builtin.firstCells (K.sz e) sLen (.slice base sLen sCap)).run K.P w.drew = .ok co.toArray w.drew) (hfit : sCap < sLen + n) (hsz : (sLen + n) * b ≤ 2 ^ 46) :
    ∃ cap' rest, sLen + n ≤ cap' ∧ rest.length = (cap' - (sLen + n)) * K.sz e ∧
      (Builtin.append_ #[sT, xT] ty #[.slice base sLen sCap, xv]).run K.P w =
        .ok (.slice (some ⟨w.heap.size, 0, none⟩) (sLen + n) cap') (w.drew.alloc (.cells ((co ++ cs) ++ rest).toArray el)) := by
  obtain ⟨i, dd, hi, hdd, his, hib, _⟩ := hty.ex
  obtain ⟨z', hz1, hz2⟩ := hz.run w.drew
  obtain ⟨hcz, _⟩ := (hz2 (fun _ => none)).cells hz.tup
  have hlz := CR.len hK z _ (by rw [hzs]; exact hty.fix) hcz
  simp only [Array.length_toList, hzs] at hlz
  let cap' := (Question.appendCap (sLen + n) sCap el).cut (w.tape w.drawn (.appendCap (sLen + n) sCap el))
  have hcap : sLen + n ≤ cap' := by simp only [cap', Question.cut]; omega
  have hng : ¬ (sLen + n ≤ sCap) := by omega
  have hneed : sLen + n ≤ (sLen + n) * b := Nat.le_mul_of_pos_right _ hb
  have hmax : ¬ (((sLen + n : Nat) : Int) > IntKind.i64.max ∧ (false = true ∨ i.bytes = 0)) := by
    rintro ⟨h1, h2⟩
    rcases h2 with h2 | h2
    · cases h2
    · omega
  have hgrow : ¬ (Builtin.nextslicecap (sLen + n) sCap * i.bytes > 2 ^ 48) := by
    have := growslice_fits (need := sLen + n) (old := sCap) (bytes := b) (by omega) (by omega)
    rw [hib]; omega
  refine ⟨cap', (Builtin.zeroCells z'.cells (cap' - (sLen + n))).toList, hcap, by simp [size_zeroCells, hlz], ?_⟩
  simp only [Builtin.append_, List.getElem?_toArray, List.getElem?_cons_zero, List.getElem?_cons_succ, Sem.run_bind, run_underlying hu, Result.andThen_ok, hty.size, run_underlying hx, Sem.run_pure]
  simp only [Bool.false_eq_true, if_false, Sem.run_bind, hlen, Result.andThen_ok, hng, typeInfo, run_program, Sem.run_bind, hi, Sem.run_pure]
  rw [if_neg (by simpa using hmax)]
  simp only [Sem.run_bind, Sem.run_pure, Result.andThen_ok, run_program, hi]
  rw [if_neg hgrow]
  simp only [Sem.run_bind, run_choose, Question.forced, Bool.false_eq_true, if_false, Result.andThen_ok, run_program, hi, Sem.run_pure, run_askRoom, World.drew_eq]
  simp only [hold, Result.andThen_ok, Bool.not_false, if_true, hrun, hz1, newRow, Sem.run_bind, run_newObj, Sem.run_pure, World.alloc_eq, World.size_drew]
  congr 4
  apply Array.ext'
  simp [cap']

end
end Go.Rae

/- Each operation on abstract values does what the model's does. Seventh part: append, copy, bytes and texts as values. -/
namespace Go.Rae
open Go

section
variable {K : Ctx} {σ σ' : Sig} {h : H} {w : World}

theorem take_over (l : List V) (i : Nat) (xs : List V) (hl : i + xs.length ≤ l.length) : (ovr l i xs).length = l.length := by
  simp [ovr]; omega

/-- Elements laid over a row. -/
theorem CRl.over (hK : K.flat) {e n i : Nat} {l ys : List V} {m cs : List Value} (hfix : n ≠ 0 → K.fix e) (hl : CRl K σ (List.replicate n e) l m) (hy : CRl K σ (List.replicate ys.length e) ys cs) (hi : i + ys.length ≤ n) :
    CRl K σ (List.replicate n e) (ovr l i ys) (m.take (i * K.sz e) ++ cs ++ m.drop ((i + ys.length) * K.sz e)) ∧ cs.length = ys.length * K.sz e ∧ m.length = n * K.sz e := by
  have fx : ∀ k, k ≤ n → ∀ f ∈ List.replicate k e, K.fix f := fun k hk f hf => by obtain ⟨h0, rfl⟩ := List.mem_replicate.1 hf; exact hfix (by omega)
  have lm : m.length = n * K.sz e := by rw [CRl.len hK _ _ _ (fx n (Nat.le_refl _)) hl]; simp
  have lc : cs.length = ys.length * K.sz e := by rw [CRl.len hK _ _ _ (fx _ (by omega)) hy]; simp
  obtain ⟨a, b, rfl, h1, h2⟩ := CRl.split i _ _ _ hl
  obtain ⟨c, d, rfl, h3, h4⟩ := CRl.split ys.length _ _ _ h2
  have e1 : (List.replicate n e).take i = List.replicate i e := by rw [List.take_replicate]; congr 1; omega
  have e3 : ((List.replicate n e).drop i).take ys.length = List.replicate ys.length e := by rw [List.drop_replicate, List.take_replicate]; congr 1; omega
  rw [e1] at h1
  rw [e3] at h3
  have la : a.length = i * K.sz e := by rw [CRl.len hK _ _ _ (fx i (by omega)) h1]; simp
  have lcc : c.length = ys.length * K.sz e := by rw [CRl.len hK _ _ _ (fx _ (by omega)) h3]; simp
  have e2 : (i + ys.length) * K.sz e = a.length + c.length := by rw [la, lcc, Nat.add_mul]
  refine ⟨?_, lc, lm⟩
  rw [e2, ← la, List.take_left, ← List.append_assoc a c d, ← List.length_append, List.drop_left]
  have h5 := CRl.append _ _ _ _ _ _ (CRl.append _ _ _ _ _ _ h1 hy) h4
  have e5 : List.replicate i e ++ List.replicate ys.length e ++ List.drop ys.length (List.drop i (List.replicate n e)) = List.replicate n e := by
    rw [List.drop_replicate, List.drop_replicate, List.replicate_append_replicate, List.replicate_append_replicate]; congr 1; omega
  rw [e5] at h5
  have e6 : ovr l i ys = List.take i l ++ ys ++ List.drop ys.length (List.drop i l) := by unfold ovr; rw [List.drop_drop]
  rw [e6]; exact h5

/-- Cells laid into an array of ours, at a slice. -/
theorem R.lay (hK : K.flat) (hR : R K σ h w) {id st off len e : Nat} {p : List Nat} {cap : Option Nat} {c : Value} {v v' : V} {g : Bool} {s i : Nat} {l ys : List V} {cs : List Value}
    (hv : VR K σ (.sl id st p e off len cap) c) (hg : h.get id = some (.cells v g false)) (hst : stampOf (.cells v g false) = st) (hs : sub v p = some (.agg s l)) (hi : i + ys.length ≤ l.length) (hne : ys ≠ [])
    (hoi : off ≤ i) (hp : put v p (.agg s (ovr l i ys)) = some v') (hy : CRl K σ (List.replicate ys.length e) ys cs) :
    ∃ a cap' w', c = .slice (some a) len cap' ∧ (i + ys.length ≤ off + cap' → (storeCells (a.add ((i - off) * K.sz e)) cs).run K.P w = .ok () w' ∧ R K σ (h.set id (.cells v' g false)) w' ∧ Fr σ w σ w') := by
  simp only [VR, VR1, SR, SR0] at hv
  obtain ⟨L, a, cap', hsg, rfl, hle, hlen, hcap, hval⟩ := hv
  obtain ⟨L', hsg', ho⟩ := hR.objOf hg
  rw [hsg] at hsg'; cases hsg'
  obtain ⟨h0, h1, h2, h3, arr, T, fr, pre, cs0, post, hb, hz, hal, hpl, hc, hf⟩ := ho
  obtain ⟨o, s', ho', hS, hadr⟩ := hval (by rw [h0, hst])
  obtain ⟨a1, m, b1, rfl, hm, hof, hput⟩ := CR.sub hK p v cs0 _ hc hs
  rw [h2, hof] at ho'
  simp only [Option.some.injEq, Prod.mk.injEq, V.sh] at ho'
  obtain ⟨rfl, rfl⟩ := ho'
  simp only [CR] at hm
  obtain ⟨fs, hk, hl⟩ := hm
  have hfixk := kids_fix hK hk
  have hfs := kids_el (hS.imp (fun ⟨n, hn, _⟩ => ⟨n, hn, trivial⟩) _root_.id) hk
  subst hfs
  have hlne : l.length ≠ 0 := by
    have : ys.length ≠ 0 := by intro e0; exact hne (List.length_eq_zero_iff.1 e0)
    omega
  obtain ⟨hov, lc, lm⟩ := CRl.over hK (fun h0 => hfixk e (List.mem_replicate.2 ⟨h0, rfl⟩)) hl hy hi
  have hov' : CR K σ (.agg s (ovr l i ys)) (m.take (i * K.sz e) ++ cs ++ m.drop ((i + ys.length) * K.sz e)) := by
    simp only [CR]
    exact ⟨List.replicate l.length e, by rw [take_over _ _ _ hi]; exact hk, hov⟩
  obtain ⟨hc', hsh'⟩ := hput (.agg s (ovr l i ys)) _ v' rfl hov' hp
  have hmul : (i + ys.length) * K.sz e = i * K.sz e + ys.length * K.sz e := Nat.add_mul ..
  have hile : i * K.sz e ≤ m.length := by rw [lm]; exact Nat.mul_le_mul_right _ (by omega)
  have hiye : (i + ys.length) * K.sz e ≤ m.length := by rw [lm]; exact Nat.mul_le_mul_right _ hi
  have hlen2 : (m.take (i * K.sz e) ++ cs ++ m.drop ((i + ys.length) * K.sz e)).length = m.length := by
    simp only [List.length_append, List.length_take, List.length_drop, lc]; omega
  have hstamp : stampOf (.cells v' g false) = stampOf (.cells v g false) := by
    cases p with
    | cons j p => exact put_stamp hp (.inl (by simp))
    | nil =>
      simp only [sub, Option.some.injEq] at hs; subst hs
      simp only [put] at hp
      split at hp
      · cases hp; cases g <;> simp [stampOf, take_over _ _ _ hi]
      · cases hp
  obtain ⟨hR', hFr⟩ := hR.over hsg hg hstamp hsh' hb hz hal hpl (cs' := a1 ++ (m.take (i * K.sz e) ++ cs ++ m.drop ((i + ys.length) * K.sz e)) ++ b1) (by simp only [List.length_append] at hlen2 ⊢; omega) hc' (hf rfl)
  refine ⟨a, cap', _, rfl, fun hroom => ⟨?_, hR', hFr⟩⟩
  have hc0 : cap' ≠ 0 := by
    intro e0
    have : ys.length ≠ 0 := by intro e1; exact hne (List.length_eq_zero_iff.1 e1)
    omega
  obtain ⟨rfl, _⟩ := hadr.resolve_left hc0
  have hoff : off * K.sz e + (i - off) * K.sz e = i * K.sz e := by rw [← Nat.add_mul]; congr 1; omega
  have hadd : (⟨L.blk, L.off + a1.length + off * K.sz e, none⟩ : Addr).add ((i - off) * K.sz e) = ⟨L.blk, L.off + a1.length + i * K.sz e, none⟩ := by
    unfold Addr.add; split
    · rename_i hz; simp; omega
    · simp; omega
  rw [hadd]
  have hsize := congrArg List.length hal
  simp only [Array.length_toList, List.length_append] at hsize
  have hrun := run_cells K.P L.blk (L.off + a1.length + i * K.sz e) T fr cs 0 arr w hb (hf rfl) (by omega) (CRl.ones _ _ _ hy)
  rw [hrun, hal]
  simp only [Nat.add_zero]
  congr 2
  have e1 : pre ++ (a1 ++ m ++ b1) ++ post = pre ++ ((a1 ++ m.take (i * K.sz e)) ++ ((m.drop (i * K.sz e)).take (ys.length * K.sz e)) ++ (m.drop ((i + ys.length) * K.sz e) ++ b1)) ++ post := by
    have : m = m.take (i * K.sz e) ++ ((m.drop (i * K.sz e)).take (ys.length * K.sz e) ++ m.drop ((i + ys.length) * K.sz e)) := by
      rw [hmul, ← List.drop_drop, List.take_append_drop, List.take_append_drop]
    conv => lhs; rw [this]
    simp
  have e2 : L.off + a1.length + i * K.sz e = pre.length + (a1 ++ m.take (i * K.sz e)).length := by
    simp only [List.length_append, List.length_take]; omega
  rw [e1, e2, splice_eq pre (a1 ++ m.take (i * K.sz e)) _ cs _ post (by simp only [List.length_take, List.length_drop, lc]; omega)]
  simp

/-- A slice of elements of a shape. -/
def slE (e : Nat) : V → Prop
  | .nilsl => True
  | .sl _ _ _ e' _ _ _ => e' = e
  | _ => False

theorem src_slice (hK : K.flat) (hR : R K σ h w) {e : Nat} {b : V} {cb : Value} {ys : List V} (hb : VR K σ b cb) (he : h.elems b = some ys) (hbe : slE e b) :
    ∃ cs, Src K σ w e ys cb cs := by
  cases b with
  | nilsl =>
    simp only [H.elems, Option.some.injEq] at he; subst he
    simp only [VR, VR1, SR, SR0] at hb; subst hb
    exact ⟨[], by simp [CRl], fun _ => rfl, fun _ _ => rfl⟩
  | sl id st p e' off len cap =>
    simp only [slE] at hbe; subst hbe
    obtain ⟨a, cap', cs, rfl, h1, h2, h3, h4⟩ := hR.elems hK hb he
    refine ⟨cs, by rw [h2]; exact h1, fun _ => by rw [h2]; rfl, fun w' hw' => ?_⟩
    rw [h2]
    refine run_first h3 fun j v hj => ?_
    have := h4 j v hj
    have hlt := World.block_lt_of_cell? w _ this
    rw [World.cell?_of_block (w := w)] <;> first | exact this | exact hw' _ hlt
  | _ => exact (show False from hbe).elim

theorem Src.drew {e : Nat} {ys : List V} {cb : Value} {cs : List Value} (hs : Src K σ w e ys cb cs) : Src K σ w.drew e ys cb cs := ⟨hs.rel, hs.len, hs.run⟩

/-- An append. -/
theorem step_app (hK : K.flat) (hR : R K σ h w) {sT xT ty el : TypeId} {d : TypeDesc} {dn e b : Nat} {z a v : V} {ca cb : Value} {ys : List V} {cs : List Value} {h' : H}
    (hu : K.P.underlying sT = some (.slice el)) (hx : K.P.underlying xT = some d) (hd : ∀ k, d ≠ .int k) (hty : TyF K el e b) (hz : ZF K el z) (hzs : z.sh = e) (hb : 0 < b) (hS : K.S dn = .dyn e)
    (ha : VR K σ a ca) (hsrc : Src K σ w e ys cb cs) (hr : appendV h dn e b a ys = some (v, h')) :
    Step K σ h w v h' ((Builtin.append_ #[sT, xT] ty #[ca, cb]).run K.P w) := by
  have hlen := hsrc.len w
  have hrun := hsrc.run w (fun _ _ => rfl)
  have hfe : K.fix e := (hK dn).2.2 e hS
  have hcl : cs.length = ys.length * K.sz e := by
    rw [CRl.len hK _ _ _ (fun f hf => by obtain ⟨_, rfl⟩ := List.mem_replicate.1 hf; exact hfe) hsrc.rel]; simp
  have hcr : ∀ l m, CRl K σ (List.replicate l.length e) l m → CR K σ (.agg dn l) m := fun l m hl => by
    simp only [CR]; exact ⟨_, by rw [hS]; rfl, hl⟩
  unfold appendV at hr
  by_cases hemp : ys = []
  · subst hemp
    have hc0 : cs = [] := List.length_eq_zero_iff.1 (by simpa using hcl)
    subst hc0
    simp only [List.isEmpty_nil, if_true] at hr
    cases a with
    | nilsl =>
      simp only [Option.some.injEq, Prod.mk.injEq] at hr
      obtain ⟨rfl, rfl⟩ := hr
      have ha' := ha
      simp only [VR, VR1, SR, SR0] at ha'; subst ha'
      refine Step.same hR (c := .slice none 0 0) ?_ ha
      rw [run_app_fits hu hx hd hty hlen hrun (by simp)]
      rfl
    | sl id st p e' off len cap =>
      simp only [Option.some.injEq, Prod.mk.injEq] at hr
      obtain ⟨rfl, rfl⟩ := hr
      have ha' := ha
      simp only [VR, VR1, SR, SR0] at ha'
      obtain ⟨L, ad, cap', _, rfl, _, hl, _⟩ := ha'
      refine Step.same hR (c := .slice (some ad) len cap') ?_ ha
      rw [run_app_fits hu hx hd hty hlen hrun (by simpa using hl)]
      rfl
    | _ => cases hr
  · have hne : ys.isEmpty = false := by simpa using hemp
    have hn0 : 0 < ys.length := List.length_pos_iff.2 hemp
    rw [hne] at hr
    simp only [Bool.false_eq_true, if_false] at hr
    -- a new array
    have fresh : ∀ (base : Option Addr) (sLen sCap : Nat) (xs : List V) (co : List Value), xs.length = sLen → CRl K σ (List.replicate sLen e) xs co →
        (Builtin.firstCells (K.sz e) sLen (.slice base sLen sCap)).run K.P w.drew = .ok co.toArray w.drew → sCap < sLen + ys.length → (sLen + ys.length) * b ≤ 2 ^ 46 → ca = .slice base sLen sCap →
        Step K σ h w (.sl h.n (sLen + ys.length) [] e 0 (sLen + ys.length) none) (h.push (.cells (.agg dn (xs ++ ys)) true false)) ((Builtin.append_ #[sT, xT] ty #[ca, cb]).run K.P w) := by
      intro base sLen sCap xs co hxl hxs hold hfit hsz hca
      subst hca
      obtain ⟨cap', rest, hc1, hc2, hrn⟩ := run_app_new (ty := ty) hK hu hx hd hty hz hzs hb hlen (hsrc.run w.drew (fun _ _ => rfl)) hold hfit hsz
      have hall : CRl K σ (List.replicate (xs ++ ys).length e) (xs ++ ys) (co ++ cs) := by
        rw [List.length_append, ← List.replicate_append_replicate, hxl]
        exact CRl.append _ _ _ _ _ _ hxs hsrc.rel
      have hxs' : co.length = sLen * K.sz e := by
        rw [CRl.len hK _ _ _ (fun f hf => by obtain ⟨_, rfl⟩ := List.mem_replicate.1 hf; exact hfe) hxs]; simp
      obtain ⟨a1, a2, a3⟩ := hR.drew.alloc (v := .agg dn (xs ++ ys)) (g := true) (cs := co ++ cs) (tl := rest) (T := el) (hcr _ _ hall) (fun _ => ⟨e, hS⟩)
      refine ⟨_, _, _, hrn, by simpa only [List.append_assoc] using a1, a2, (Fr.drew σ w).trans (by simpa only [List.append_assoc] using a3), ?_⟩
      simp only [VR, VR1, SR, SR0]
      refine ⟨_, _, cap', Sig.put_same _ _ _, rfl, by simp [stampOf, hxl], hc1, (fun k hk => by cases hk), fun _ => ⟨0, dn, rfl, .inr hS, .inr ⟨by simp, ?_⟩⟩⟩
      simp only [List.length_append, hxs', hcl, hc2, Nat.zero_add]
      rw [← Nat.add_mul, ← Nat.add_mul]
      exact Nat.mul_le_mul_right _ (by omega)
    cases a with
    | nilsl =>
      simp only at hr
      split at hr
      · rename_i hsz
        simp only [Option.some.injEq, Prod.mk.injEq] at hr
        obtain ⟨rfl, rfl⟩ := hr
        simp only [VR, VR1, SR, SR0] at ha
        have := fresh none 0 0 [] [] rfl (by simp [CRl]) rfl (by omega) (by simpa using hsz) ha
        simpa using this
      · cases hr
    | sl id st p e' off len cap =>
      simp only at hr
      split at hr
      · cases hr
      · rename_i hee
        have hee : e' = e := Classical.byContradiction hee
        subst hee
        cases cap with
        | some c =>
          simp only at hr
          split at hr
          · rename_i hfit
            cases hg : h.get id with
            | none => rw [hg] at hr; cases hr
            | some ob =>
              rw [hg] at hr
              cases ob with
              | cells v0 g ro =>
                cases g with
                | true => cases hr
                | false =>
                cases ro with
                | true => cases hr
                | false =>
                  simp only at hr
                  cases hsub : sub v0 p with
                  | none => rw [hsub] at hr; cases hr
                  | some y =>
                    rw [hsub] at hr
                    cases y with
                    | agg s l =>
                      simp only at hr
                      split at hr
                      · rename_i hcond
                        cases hput : put v0 p (.agg s (ovr l (off + len) ys)) with
                        | none => rw [hput] at hr; cases hr
                        | some v' =>
                          rw [hput] at hr
                          simp only [Option.some.injEq, Prod.mk.injEq] at hr
                          obtain ⟨rfl, rfl⟩ := hr
                          have hst0 : stampOf (.cells v0 false false) = st := by rw [hcond.2]; cases v0 <;> rfl
                          obtain ⟨ad, cap', w', rfl, hlay⟩ := hR.lay hK ha hg hst0 hsub (i := off + len) (by omega) hemp (by omega) hput hsrc.rel
                          have ha' := ha
                          simp only [VR, VR1, SR, SR0] at ha'
                          obtain ⟨L, ad', cap'', hsg, heq, hle, hl, hcap, hval⟩ := ha'
                          cases heq
                          have hcc := hcap c rfl
                          subst hcc
                          obtain ⟨hw, hR', hF'⟩ := hlay (by omega)
                          refine ⟨.slice (some ad) (len + ys.length) cap', w', σ, ?_, hR', Ext.refl σ, hF', ?_⟩
                          · rw [run_app_fits hu hx hd hty hlen hrun hfit]
                            have : off + len - off = len := by omega
                            rw [this] at hw
                            simp only [hw, Result.andThen_ok]
                          · simp only [VR, VR1, SR, SR0]
                            exact ⟨L, ad, cap', hsg, rfl, hle, hfit, hcap, hval⟩
                      · cases hr
                    | _ => cases hr
              | _ => cases hr
          · rename_i hnf
            split at hr
            · rename_i hsz
              cases hel : h.elems (.sl id st p e' off len (some c)) with
              | none => rw [hel] at hr; cases hr
              | some xs =>
                rw [hel] at hr
                simp only [Option.some.injEq, Prod.mk.injEq] at hr
                obtain ⟨rfl, rfl⟩ := hr
                obtain ⟨ad, cap', co, rfl, h1, h2, h3, h4⟩ := hR.elems hK ha hel
                have ha' := ha
                simp only [VR, VR1, SR, SR0] at ha'
                obtain ⟨L, ad', cap'', hsg, heq, hle, hl, hcap, hval⟩ := ha'
                cases heq
                have hcc := hcap c rfl
                subst hcc
                exact fresh (some ad) len cap' xs co h2 h1 (run_first h3 h4) (by omega) hsz rfl
            · cases hr
        | none =>
          simp only at hr
          split at hr
          · rename_i d' l hg
            split at hr
            · rename_i hcond
              obtain ⟨hl1, hl2, rfl, hsz⟩ := hcond
              simp only [Option.some.injEq, Prod.mk.injEq] at hr
              obtain ⟨rfl, rfl⟩ := hr
              have ha' := ha
              simp only [VR, VR1, SR, SR0] at ha'
              obtain ⟨L, ad, cap', hsg, rfl, hle, hlc, _, hval⟩ := ha'
              obtain ⟨L', hsg', hob⟩ := hR.objOf hg
              rw [hsg] at hsg'; cases hsg'
              obtain ⟨h0, h1, h2, h3, arr, T, fr, pre, cs0, post, hbk, hzz, hal, hpl, hc, hf⟩ := hob
              have hst : st = L.st := by rw [h0, ← hl1]; rfl
              obtain ⟨o, s, ho, hS2, hadr⟩ := hval hst
              simp only [offs, Option.some.injEq, Prod.mk.injEq] at ho
              obtain ⟨rfl, rfl⟩ := ho
              have hc' := hc
              simp only [CR] at hc'
              obtain ⟨fs, hk, hl⟩ := hc'
              rw [hS] at hk
              simp only [kids, Option.some.injEq] at hk
              subst hk
              have hl0 : cs0.length = len * K.sz e' := by
                rw [CRl.len hK _ _ _ (fun f hf => by obtain ⟨_, rfl⟩ := List.mem_replicate.1 hf; exact hfe) hl, hl1, hl2]; simp
              have hall : CRl K σ (List.replicate (l ++ ys).length e') (l ++ ys) (cs0 ++ cs) := by
                rw [List.length_append, ← List.replicate_append_replicate]
                exact CRl.append _ _ _ _ _ _ hl hsrc.rel
              have hext : ∀ L2 : Loc, L2.st = len + ys.length → Ext σ (σ.put id L2) := by
                intro L2 hL2 j M hM
                by_cases e1 : j = id
                · subst e1
                  rw [hsg] at hM; cases hM
                  exact ⟨L2, Sig.put_same _ _ _, by omega, fun e2 => by omega⟩
                · exact ⟨M, by rw [Sig.put_ne _ _ e1]; exact hM, Nat.le_refl _, fun _ => rfl⟩
              have hsize := congrArg List.length hal
              simp only [Array.length_toList, List.length_append] at hsize
              by_cases hfit : len + ys.length ≤ cap'
              · -- in place
                have hc0 : cap' ≠ 0 := by omega
                obtain ⟨rfl, hroom⟩ := hadr.resolve_left hc0
                simp only [Nat.add_zero, Nat.zero_mul, Nat.zero_add] at hroom hrun ⊢
                have hm1 : len * K.sz e' + ys.length * K.sz e' ≤ cap' * K.sz e' := by rw [← Nat.add_mul]; exact Nat.mul_le_mul_right _ hfit
                let cs' := cs0 ++ cs
                have hadd : (⟨L.blk, L.off, none⟩ : Addr).add (len * K.sz e') = ⟨L.blk, L.off + len * K.sz e', none⟩ := by
                  unfold Addr.add; split
                  · rename_i hz; simp [hz]
                  · rfl
                have hst2 := run_cells K.P L.blk (L.off + len * K.sz e') T fr cs 0 arr w hbk (hf rfl) (by omega) (CRl.ones _ _ _ hsrc.rel)
                have hnew : arr.toList.take (L.off + len * K.sz e' + 0) ++ cs ++ arr.toList.drop (L.off + len * K.sz e' + 0 + cs.length) = pre ++ (cs0 ++ cs) ++ post.drop cs.length := by
                  rw [hal, Nat.add_zero, ← hpl, ← hl0]
                  rw [← List.length_append, List.take_left, List.drop_append]
                  have : (pre ++ cs0).length + cs.length - (pre ++ cs0).length = cs.length := by omega
                  rw [this, List.drop_eq_nil_of_le (by omega)]
                  simp
                rw [hnew] at hst2
                have hsz2 : (pre ++ (cs0 ++ cs) ++ post.drop cs.length).toArray.size = L.room := by
                  simp only [List.size_toArray, List.length_append, List.length_drop]; omega
                let L2 : Loc := { L with st := len + ys.length }
                refine ⟨.slice (some ⟨L.blk, L.off, none⟩) (len + ys.length) cap', w.setRow L.blk (pre ++ (cs0 ++ cs) ++ post.drop cs.length).toArray, σ.put id L2, ?_, ?_, hext L2 rfl, ?_, ?_⟩
                · rw [run_app_fits hu hx hd hty hlen hrun hfit]
                  simp only [hadd, hst2, Result.andThen_ok]
                · refine hR.set hsg _ L2 (hext L2 rfl) (fun j M hM hne => heap_setRow_ne w _ _ _ (fun e => hR.sep id j L M hsg hM (Ne.symm hne) h1 e.symm))
                    (fun j M hM hne e => hR.sep id j L M hsg hM (Ne.symm hne) h1 e.symm) ?_
                  refine ⟨by simp [stampOf, L2, hl1, hl2], h1, h2, fun _ => ⟨e', hS⟩, (pre ++ (cs0 ++ cs) ++ post.drop cs.length).toArray, T, fr, pre, cs0 ++ cs, post.drop cs.length, setRow_heap w _ _ _ _ _ hbk, hsz2, by simp, hpl, ?_, ?_⟩
                  · exact CR.ext (hext L2 rfl) _ _ (hcr _ _ hall)
                  · intro _ j hj
                    exact hf rfl j (by omega)
                · refine ⟨rfl, rfl, rfl, by simp [World.setRow], fun bb hb' hno => heap_setRow_ne w _ _ _ (fun e => hno id L hsg h1 e.symm), fun j M hM => ?_⟩
                  by_cases e1 : j = id
                  · subst e1; rw [Sig.put_same] at hM; cases hM; exact .inr ⟨j, L, hsg, rfl, rfl⟩
                  · rw [Sig.put_ne _ _ e1] at hM; exact .inr ⟨j, M, hM, rfl, rfl⟩
                · simp only [VR, VR1, SR, SR0]
                  refine ⟨L2, _, cap', Sig.put_same _ _ _, rfl, Nat.le_refl _, hfit, (fun k hk => by cases hk), fun _ => ⟨0, L.sh, rfl, hS2.imp (fun ⟨n, hn, hh⟩ => ⟨n, hn, by omega⟩) _root_.id, .inr ⟨by simp [L2], by simpa [L2] using hroom⟩⟩⟩
              · -- a new array
                have hcell : ∀ j v, cs0[j]? = some v → w.cell? (ad.add j) = some v := by
                  intro j v hj
                  have hjl := (List.getElem?_eq_some_iff.1 hj).1
                  have hc0 : cap' ≠ 0 := by
                    intro e0
                    have : len = 0 := by omega
                    rw [this, Nat.zero_mul] at hl0; omega
                  obtain ⟨rfl, _⟩ := hadr.resolve_left hc0
                  have hadd : (⟨L.blk, L.off + 0 + 0 * K.sz e', none⟩ : Addr).add j = ⟨L.blk, L.off + j, none⟩ := by unfold Addr.add; split <;> simp_all
                  rw [hadd, cell_of_row w _ _ arr T fr hbk, ← Array.getElem?_toList, hal, List.append_assoc, List.getElem?_append_right (by omega), List.getElem?_append_left (by omega), ← hj]
                  congr 1; omega
                obtain ⟨cap2, rest, hc1, hc2, hrn⟩ := run_app_new (ty := ty) hK hu hx hd hty hz hzs hb hlen (hsrc.run w.drew (fun _ _ => rfl)) (run_first (w := w.drew) (len := len) (cap := cap') hl0 hcell) (by omega) hsz
                let L2 : Loc := ⟨w.heap.size, 0, (cs0 ++ cs ++ rest).length, len + ys.length, L.sh, false⟩
                refine ⟨_, _, σ.put id L2, hrn, ?_, hext L2 rfl, ?_, ?_⟩
                · refine hR.set hsg _ L2 (hext L2 rfl) (fun j M hM hne => heap_alloc_old w.drew _ _ (hR.lt hM)) (fun j M hM hne => Nat.ne_of_lt (hR.lt hM)) ?_
                  refine ⟨by simp [stampOf, L2, hl1, hl2], rfl, h2, fun _ => ⟨e', hS⟩, (cs0 ++ cs ++ rest).toArray, el, (0, 0), [], cs0 ++ cs, rest, heap_alloc_new w.drew _, by simp [L2], by simp, rfl, ?_, ?_⟩
                  · exact CR.ext (hext L2 rfl) _ _ (hcr _ _ hall)
                  · intro _ j _ hj; exact absurd hj.2 (Nat.not_lt_zero _)
                · refine ⟨rfl, rfl, rfl, by simp, fun bb hb' _ => heap_alloc_old w.drew _ _ hb', fun j M hM => ?_⟩
                  by_cases e1 : j = id
                  · subst e1; rw [Sig.put_same] at hM; cases hM; exact .inl (Nat.le_refl _)
                  · rw [Sig.put_ne _ _ e1] at hM; exact .inr ⟨j, M, hM, rfl, rfl⟩
                · simp only [VR, VR1, SR, SR0]
                  refine ⟨L2, _, cap2, Sig.put_same _ _ _, rfl, Nat.le_refl _, hc1, (fun k hk => by cases hk), fun _ => ⟨0, L.sh, rfl, ?_, .inr ⟨by simp [L2], ?_⟩⟩⟩
                  · rw [h2]; exact .inr hS
                  · simp only [L2, List.length_append, hl0, hcl, hc2, Nat.zero_add]
                    rw [← Nat.add_mul, ← Nat.add_mul]
                    exact Nat.mul_le_mul_right _ (by omega)
            · cases hr
          · cases hr
    | _ => cases hr

end
end Go.Rae

/- Each operation on abstract values does what the model's does. Eighth part: copy, bytes and texts, lengths, equality of plain data. -/
namespace Go.Rae
open Go

section
variable {K : Ctx} {σ σ' : Sig} {h : H} {w : World}

theorem CRl.take_bytes : ∀ (l : List UInt8), K.szd 7 (by decide) = K.szd 7 (by decide) → CRl K σ (List.replicate (l.map byteV).length 7) (l.map byteV) (l.map fun b => Value.int .u8 b.toNat)
  | [], _ => by simp [CRl]
  | b :: l, h => by
    simp only [List.map_cons, List.length_cons, List.replicate_succ, CRl]
    refine ⟨rfl, [.int .u8 b.toNat], _, rfl, ?_, CRl.take_bytes l h⟩
    simp only [byteV, CR]
    exact ⟨_, rfl, by simp only [SR, SR0]⟩

theorem src_str {l : List UInt8} {c : Value} (hv : VR K σ (.s l) c) : Src K σ w 7 (l.map byteV) c (l.map fun b => Value.int .u8 b.toNat) := by
  rw [vrs hv]
  have hsz : (ByteArray.mk l.toArray).size = l.length := by simp [ByteArray.size]
  refine ⟨CRl.take_bytes l rfl, fun _ => by simp [Builtin.lenOf, hsz], fun w' _ => ?_⟩
  have hex : (ByteArray.mk l.toArray).extract 0 l.length = ByteArray.mk l.toArray := by
    rw [extract_list]; simp
  simp only [Builtin.firstCells, Sem.run_pure, List.length_map, hex]
  congr 1
  apply Array.ext'
  simp

/-- The first n of what is appended or copied. -/
theorem first_slice (hK : K.flat) (hR : R K σ h w) {e n : Nat} {b : V} {cb : Value} {ys : List V} (hb : VR K σ b cb) (he : h.elems b = some ys) (hbe : slE e b) (hn : n ≤ ys.length) :
    ∃ cs, CRl K σ (List.replicate n e) (ys.take n) cs ∧ (Builtin.firstCells (K.sz e) n cb).run K.P w = .ok cs.toArray w ∧ (Builtin.lenOf cb).run K.P w = .ok ys.length w := by
  cases b with
  | nilsl =>
    simp only [H.elems, Option.some.injEq] at he; subst he
    simp only [VR, VR1, SR, SR0] at hb; subst hb
    have : n = 0 := by simpa using hn
    subst this
    exact ⟨[], by simp [CRl], rfl, rfl⟩
  | sl id st p e' off len cap =>
    simp only [slE] at hbe; subst hbe
    obtain ⟨a, cap', cs, rfl, h1, h2, h3, h4⟩ := hR.elems hK hb he
    obtain ⟨c1, c2, rfl, h5, _⟩ := CRl.split n _ _ _ h1
    have e1 : (List.replicate len e').take n = List.replicate n e' := by rw [List.take_replicate]; congr 1; omega
    rw [e1] at h5
    have hl1 : c1.length = n * K.sz e' := by
      by_cases h0 : n = 0
      · subst h0
        simp only [List.replicate_zero, List.take_zero, CRl] at h5; subst h5; simp
      · have : K.fix e' := by
          simp only [H.elems] at he
          cases hr : h.read id st p with
          | none => rw [hr] at he; cases he
          | some x =>
            rw [hr] at he
            cases x with
            | agg k l =>
              simp only at he
              split at he
              · injection he with he; subst he
                obtain ⟨L, m, o, hs, hst, hof, hm, _⟩ := hR.read hK hr
                simp only [CR] at hm
                obtain ⟨fs, hk, hl⟩ := hm
                simp only [VR, VR1, SR, SR0] at hb
                have hb' := hb
                obtain ⟨L', a', cap'', hs', _, _, _, _, hval⟩ := hb'
                rw [hs] at hs'; cases hs'
                obtain ⟨o', s, ho', hS, _⟩ := hval hst.symm
                rw [hof] at ho'
                simp only [Option.some.injEq, Prod.mk.injEq, V.sh] at ho'
                obtain ⟨rfl, rfl⟩ := ho'
                have hfs := kids_el (hS.imp (fun ⟨n, hn, _⟩ => ⟨n, hn, trivial⟩) _root_.id) hk
                subst hfs
                have hne : l.length ≠ 0 := by
                  have h9 : n ≤ ((l.drop off).take len).length := hn
                  rw [List.length_take, List.length_drop] at h9
                  clear hS hval hb
                  intro hz; rw [hz] at h9; omega
                exact kids_fix hK hk e' (List.mem_replicate.2 ⟨hne, rfl⟩)
              · cases he
            | _ => simp at he
        rw [CRl.len hK _ _ _ (fun f hf => by obtain ⟨_, rfl⟩ := List.mem_replicate.1 hf; exact this) h5]; simp
    refine ⟨c1, h5, run_first hl1 fun j v hj => h4 j v (by rw [List.getElem?_append_left (List.getElem?_eq_some_iff.1 hj).1]; exact hj), by rw [h2]; rfl⟩
  | _ => exact (show False from hbe).elim

/-- A copy: what was read is laid. -/
theorem step_cpy (hK : K.flat) (hR : R K σ h w) {dT sT ty el : TypeId} {e b n : Nat} {a : V} {ca cb : Value} {xs ys : List V} {cs : List Value} {h' : H}
    (hu : K.P.underlying dT = some (.slice el)) (hty : TyF K el e b) (ha : VR K σ a ca) (hx : h.elems a = some xs) (hae : slE e a)
    (hcs : CRl K σ (List.replicate ys.length e) ys cs) (hn : ys.length = n) (hle : n ≤ xs.length) {m : Nat} (hm : n = Nat.min m xs.length)
    (hlen : (Builtin.lenOf cb).run K.P w = .ok m w) (hrun : (Builtin.firstCells (K.sz e) n cb).run K.P w = .ok cs.toArray w) (hl : layV h a ys = some h') :
    Step K σ h w (.i .i64 n) h' ((Builtin.copy_ #[dT, sT] ty #[ca, cb]).run K.P w) := by
  have hsh : ∃ base len cap, ca = .slice base len cap ∧ xs.length = len := by
    cases a with
    | nilsl =>
      simp only [VR, VR1, SR, SR0] at ha; simp only [H.elems, Option.some.injEq] at hx; subst hx
      exact ⟨_, _, _, ha, rfl⟩
    | sl id st p e' off len cap =>
      obtain ⟨ad, cap', co, rfl, _, h2, _⟩ := hR.elems hK ha hx
      exact ⟨_, _, _, rfl, h2⟩
    | _ => exact (show False from hae).elim
  obtain ⟨base, len, cap, rfl, hxl⟩ := hsh
  have hmn : Nat.min m len = n := by rw [hm, hxl]
  have hfirst : (Builtin.copy_ #[dT, sT] ty #[.slice base len cap, cb]).run K.P w =
      (match base with
        | some a => ((storeCells a cs).run K.P w).andThen fun _ w' => .ok (goInt n) w'
        | none => .ok (goInt n) w) := by
    simp only [Builtin.copy_, List.getElem?_toArray, List.getElem?_cons_zero, List.getElem?_cons_succ, Sem.run_bind, run_underlying hu, Result.andThen_ok, hlen, hmn, hty.size, hrun]
    cases base with
    | none => rfl
    | some a => simp only [Sem.run_bind, Sem.run_pure]
  rw [hfirst]
  by_cases hy0 : ys = []
  · subst hy0
    have hc0 : cs = [] := by simpa [CRl] using hcs
    subst hc0
    have hn0 : n = 0 := by simpa using hn.symm
    subst hn0
    have hh : h' = h := by
      cases a with
      | nilsl => simp only [layV, List.isEmpty_nil, if_true, Option.some.injEq] at hl; exact hl.symm
      | sl id st p e' off len' cap' =>
        simp only [layV, List.length_nil, Nat.zero_le, if_true] at hl
        cases hg : h.get id with
        | none => rw [hg] at hl; cases hl
        | some ob =>
          rw [hg] at hl
          cases ob with
          | cells v g ro =>
            cases ro with
            | true => cases hl
            | false =>
              simp only at hl
              split at hl
              · cases hl
              · cases hsub : sub v p with
                | none => rw [hsub] at hl; cases hl
                | some y =>
                  rw [hsub] at hl
                  cases y with
                  | agg s l =>
                    simp only at hl
                    split at hl
                    · have e1 : ovr l off [] = l := by simp [ovr]
                      rw [e1] at hl
                      have hps : ∀ (p : List Nat) (v y : V), sub v p = some y → put v p y = some v := by
                        intro p
                        induction p with
                        | nil => intro v y hs; simp only [sub, Option.some.injEq] at hs; subst hs; simp [put]
                        | cons i p ih =>
                          intro v y hs
                          cases v with
                          | agg k l =>
                            simp only [sub] at hs
                            cases hli : l[i]? with
                            | none => rw [hli] at hs; cases hs
                            | some z =>
                              rw [hli] at hs
                              simp only [put, hli, ih z y hs]
                              congr 2
                              obtain ⟨hlt, hval⟩ := List.getElem?_eq_some_iff.1 hli
                              rw [← hval, List.set_getElem_self]
                          | _ => simp only [sub] at hs; cases hs
                      rw [hps p v _ hsub] at hl
                      simp only [Option.some.injEq] at hl
                      rw [← hl]
                      unfold H.get at hg
                      split at hg
                      · obtain ⟨hlt, hval⟩ := List.getElem?_eq_some_iff.1 hg
                        unfold H.set
                        rw [← hval, List.set_getElem_self]
                      · cases hg
                    · cases hl
                  | _ => cases hl
          | _ => cases hl
      | _ => exact (show False from hae).elim
    subst hh
    refine Step.same hR (c := goInt 0) ?_ (mki _ _)
    cases base with
    | none => rfl
    | some a => rfl
  · cases a with
    | nilsl =>
      simp only [H.elems, Option.some.injEq] at hx; subst hx
      have : ys = [] := List.length_eq_zero_iff.1 (by rw [hn]; simpa using hle)
      exact absurd this hy0
    | sl id st p e' off len' cap' =>
      simp only [slE] at hae; subst hae
      simp only [layV] at hl
      split at hl
      · rename_i hyl
        cases hg : h.get id with
        | none => rw [hg] at hl; cases hl
        | some ob =>
          rw [hg] at hl
          cases ob with
          | cells v g ro =>
            cases ro with
            | true => cases hl
            | false =>
              simp only at hl
              split at hl
              · cases hl
              · rename_i hst
                have hst : stampOf (.cells v g false) = st := Classical.byContradiction hst
                cases hsub : sub v p with
                | none => rw [hsub] at hl; cases hl
                | some y =>
                  rw [hsub] at hl
                  cases y with
                  | agg s l =>
                    simp only at hl
                    split at hl
                    · rename_i hol
                      cases hput : put v p (.agg s (ovr l off ys)) with
                      | none => rw [hput] at hl; cases hl
                      | some v' =>
                        rw [hput] at hl
                        simp only [Option.some.injEq] at hl
                        subst hl
                        obtain ⟨ad, cc, w', heq, hlay⟩ := hR.lay hK ha hg hst hsub (i := off) (by omega) hy0 (Nat.le_refl _) hput hcs
                        cases heq
                        have ha' := ha
                        simp only [VR, VR1, SR, SR0] at ha'
                        obtain ⟨L, ad', cap'', hsg, heq, hle', hl', hcap, hval⟩ := ha'
                        cases heq
                        obtain ⟨hw, hR', hF'⟩ := hlay (by omega)
                        refine ⟨goInt n, w', σ, ?_, hR', Ext.refl σ, hF', mki _ _⟩
                        rw [Nat.sub_self, Nat.zero_mul, add_zero_addr] at hw
                        simp only [hw, Result.andThen_ok]
                    · cases hl
                  | _ => cases hl
          | _ => cases hl
      · cases hl
    | _ => exact (show False from hae).elim

/-- Bytes as a text. -/
theorem step_cbs (hK : K.flat) (hR : R K σ h w) {src dst el : TypeId} {a : V} {ca : Value} {xs : List V} {l : List UInt8} (ha : VR K σ a ca) (hx : h.elems a = some xs) (hl : toBytes? xs = some l)
    (hae : slE 7 a) (hs : K.P.underlying src = some (.slice el)) (hd : K.P.underlying dst = some .string) (he : K.P.underlying el = some (.int .u8)) :
    Step K σ h w (.s l) h ((convert src dst ca).run K.P w) := by
  have conv : ∀ c, (∀ s, c ≠ .string s) → (∀ k n, c ≠ .int k n) → (convert src dst c).run K.P w = (Conv.bytesToString c).run K.P w := by
    intro c h1 h2
    simp only [convert, Sem.run_bind, run_underlying hs, run_underlying hd, Result.andThen_ok]
    cases c <;> first | exact absurd rfl (h1 _) | exact absurd rfl (h2 _ _) | simp [run_underlying he]
  cases a with
  | nilsl =>
    simp only [H.elems, Option.some.injEq] at hx; subst hx
    simp only [toBytes?, Option.some.injEq] at hl; subst hl
    simp only [VR, VR1, SR, SR0] at ha; subst ha
    refine Step.same hR (c := .string ⟨#[]⟩) ?_ (mks _)
    rw [conv _ (by intros; simp) (by intros; simp)]
    rfl
  | sl id st p e off len cap =>
    simp only [slE] at hae; subst hae
    obtain ⟨ad, cap', cs, rfl, h1, h2, h3, h4⟩ := hR.elems hK ha hx
    rw [K.szd 7 (by decide), Nat.mul_one] at h3
    refine Step.same hR (c := .string ⟨l.toArray⟩) ?_ (mks _)
    rw [conv _ (by intros; simp) (by intros; simp)]
    have hrun := run_loadCells_list (P := K.P) w ad cs h4
    rw [h3] at hrun
    simp only [Conv.bytesToString, Sem.run_bind, hrun, Result.andThen_ok]
    -- the fold over the cells
    have fold : ∀ F : Value → ByteArray → Sem (ForInStep ByteArray), (∀ n s, F (.int .u8 n) s = pure (ForInStep.yield (s.push (UInt8.ofNat n.toNat)))) →
        ∀ (xs : List V) (cs : List Value) (l : List UInt8) (n : Nat) (s : ByteArray), CRl K σ (List.replicate n 7) xs cs → toBytes? xs = some l →
        ∃ r : ByteArray, r.data.toList = s.data.toList ++ l ∧ (forIn cs s F).run K.P w = .ok r w := by
      intro F hF xs
      induction xs with
      | nil =>
        intro cs l n s hc hb
        cases n with
        | zero => simp only [List.replicate_zero, CRl] at hc; subst hc; simp only [toBytes?, Option.some.injEq] at hb; subst hb; exact ⟨s, by simp, rfl⟩
        | succ n => simp only [List.replicate_succ, CRl] at hc
      | cons x xs ih =>
        intro cs l n s hc hb
        cases n with
        | zero => simp only [List.replicate_zero, CRl] at hc
        | succ n =>
          simp only [List.replicate_succ, CRl] at hc
          obtain ⟨hsx, a1, b1, rfl, ha1, hb1⟩ := hc
          simp only [toBytes?] at hb
          cases hx1 : toByte? x with
          | none => rw [hx1] at hb; simp at hb
          | some c =>
            rw [hx1] at hb
            cases hx2 : toBytes? xs with
            | none => rw [hx2] at hb; simp at hb
            | some r =>
              rw [hx2] at hb
              simp only [Option.some.injEq] at hb
              subst hb
              unfold toByte? at hx1
              split at hx1
              · rename_i m
                simp only [Option.some.injEq] at hx1
                simp only [CR] at ha1
                obtain ⟨cc, rfl, hsc⟩ := ha1
                simp only [SR, SR0] at hsc; subst hsc
                obtain ⟨rr, h5, h6⟩ := ih b1 r n (s.push (UInt8.ofNat m.toNat)) hb1 hx2
                refine ⟨rr, ?_, ?_⟩
                · rw [h5, ByteArray.data_push, hx1]; simp
                · simp only [List.singleton_append, List.forIn_cons, hF, Sem.run_bind, Sem.run_pure, Result.andThen_ok]
                  exact h6
              · cases hx1
    have fin : ∀ F : Value → ByteArray → Sem (ForInStep ByteArray), (∀ n s, F (.int .u8 n) s = pure (ForInStep.yield (s.push (UInt8.ofNat n.toNat)))) →
        (forIn cs ByteArray.empty F).run K.P w = .ok ⟨l.toArray⟩ w := by
      intro F hF
      obtain ⟨r, h5, h6⟩ := fold F hF xs cs l len ByteArray.empty h1 hl
      have hr : r = ⟨l.toArray⟩ := by
        apply ByteArray.ext
        apply Array.ext'
        rw [h5]; rfl
      rw [h6, hr]
    simp only [← Array.forIn_toList]
    rw [fin _ (fun _ _ => rfl)]
    rfl
  | _ => exact (show False from hae).elim

theorem R.stamped (hR : R K σ h w) {v : V} {g : Bool} {cs tl : List Value} {T : TypeId} {k : Nat} (hc : CR K σ v cs) (hg : g = true → ∃ e, K.S v.sh = .dyn e) (hk : (cs ++ tl).length ≤ k) :
    R K (σ.put h.n ⟨w.heap.size, 0, (cs ++ tl).length, stampOf (.cells v g false), v.sh, false⟩) (h.push (.cells v g false)) ((w.alloc (.cells (cs ++ tl).toArray T)).freeze ⟨w.heap.size, k, none⟩ 1) ∧
    Ext σ (σ.put h.n ⟨w.heap.size, 0, (cs ++ tl).length, stampOf (.cells v g false), v.sh, false⟩) ∧
    Fr σ w (σ.put h.n ⟨w.heap.size, 0, (cs ++ tl).length, stampOf (.cells v g false), v.sh, false⟩) ((w.alloc (.cells (cs ++ tl).toArray T)).freeze ⟨w.heap.size, k, none⟩ 1) := by
  have hf := hR.fresh (Nat.le_refl h.n)
  have hx := Ext.put_fresh hf ⟨w.heap.size, 0, (cs ++ tl).length, stampOf (.cells v g false), v.sh, false⟩
  have hold : ∀ b, b < w.heap.size → ((w.alloc (.cells (cs ++ tl).toArray T)).freeze ⟨w.heap.size, k, none⟩ 1).heap[b]? = w.heap[b]? := by
    intro b hb
    simp only [World.freeze, Nat.succ_ne_zero, if_false, Array.getElem?_modify]
    rw [if_neg (by omega)]
    exact heap_alloc_old w _ _ hb
  have hnew : ((w.alloc (.cells (cs ++ tl).toArray T)).freeze ⟨w.heap.size, k, none⟩ 1).heap[w.heap.size]? = some (.cells (cs ++ tl).toArray T (k, k + 1)) := by
    simp only [World.freeze, Nat.succ_ne_zero, if_false, Array.getElem?_modify, if_true, heap_alloc_new]
    rfl
  refine ⟨hR.push _ _ (fun id M hM => hold _ (hR.lt hM)) (fun id M hM => Nat.ne_of_lt (hR.lt hM)) ?_, hx, ?_⟩
  · refine ⟨rfl, rfl, rfl, hg, (cs ++ tl).toArray, T, (k, k + 1), [], cs, tl, hnew, by simp, by simp, rfl, CR.ext hx _ _ hc, fun _ j hj hjk => ?_⟩
    have h1 : j < (cs ++ tl).length := by simpa using hj
    have h2 : k ≤ j := hjk.1
    omega
  · refine ⟨rfl, rfl, rfl, by simp [World.freeze], fun b hb _ => hold b hb, fun id M hM => ?_⟩
    by_cases e : id = h.n
    · subst e; rw [Sig.put_same] at hM; cases hM; exact .inl (Nat.le_refl _)
    · rw [Sig.put_ne _ _ e] at hM; exact .inr ⟨id, M, hM, rfl, rfl⟩

/-- A text as bytes. -/
theorem step_csb (hR : R K σ h w) {src dst el : TypeId} {d : TypeDesc} {dn : Nat} {l : List UInt8} {ca : Value} (ha : VR K σ (.s l) ca) (hs : K.P.underlying src = some d) (hd : K.P.underlying dst = some (.slice el)) (he : K.P.underlying el = some (.int .u8))
    (hS : K.S dn = .dyn 7) :
    Step K σ h w (.sl h.n l.length [] 7 0 l.length none) (h.push (.cells (.agg dn (l.map byteV)) true false)) ((convert src dst ca).run K.P w) := by
  rw [vrs ha]
  have hsz : (ByteArray.mk l.toArray).size = l.length := by simp [ByteArray.size]
  let cap' := (Question.appendCap l.length 0 el).cut (w.tape w.drawn (.appendCap l.length 0 el))
  have hcap : l.length ≤ cap' := by simp only [cap', Question.cut]; omega
  let cs : List Value := l.map fun b => Value.int .u8 b.toNat
  let tl : List Value := List.replicate (cap' - l.length) (Value.int .u8 0)
  have hc : CR K σ (.agg dn (l.map byteV)) cs := by
    simp only [CR]
    exact ⟨List.replicate (l.map byteV).length 7, by rw [hS]; rfl, CRl.take_bytes l rfl⟩
  obtain ⟨a1, a2, a3⟩ := hR.drew.stamped (v := .agg dn (l.map byteV)) (g := true) (cs := cs) (tl := tl) (T := el) (k := (cs ++ tl).length) hc (fun _ => ⟨7, hS⟩) (Nat.le_refl _)
  refine ⟨.slice (some ⟨w.heap.size, 0, none⟩) l.length cap', _, _, ?_, a1, a2, (Fr.drew σ w).trans a3, ?_⟩
  · simp only [convert, Sem.run_bind, run_underlying hs, run_underlying hd, Result.andThen_ok, run_underlying he]
    have hsh : ∀ (o : Go.Obj), (w.drew.alloc o).heap[w.heap.size]? = some o := fun o => heap_alloc_new w.drew o
    simp only [Conv.stringToBytes, Sem.run_bind, hsz, run_choose, Question.forced, Bool.false_eq_true, if_false, Result.andThen_ok, World.drew_eq, newRow, run_newObj, World.alloc_eq, Sem.run_pure, World.size_drew, markStringish, run_shape, World.shape?]
    have harr : Array.map (fun (b : UInt8) => Value.int .u8 b.toNat) l.toArray ++ Array.replicate ((Question.appendCap l.length 0 el).cut (w.tape w.drawn (Question.appendCap l.length 0 el)) - l.length) (Value.int .u8 0) = (cs ++ tl).toArray := by
      apply Array.ext'
      simp [cs, tl, cap']
    rw [harr, hsh]
    simp only [run_freeze, Result.andThen_ok, List.size_toArray]
    rfl
  · simp only [VR, VR1, SR, SR0]
    refine ⟨_, _, cap', Sig.put_same _ _ _, rfl, by simp [stampOf], hcap, (fun k hk => by cases hk), fun _ => ⟨0, dn, rfl, .inr hS, .inr ⟨by simp, ?_⟩⟩⟩
    rw [K.szd 7 (by decide)]
    simp only [cs, tl, List.length_append, List.length_map, List.length_replicate]
    omega

/-- The length of a text, of a slice. -/
theorem step_lenS (hR : R K σ h w) {t ty : TypeId} {l : List UInt8} {ca : Value} (ha : VR K σ (.s l) ca) (hu : K.P.underlying t = some .string) :
    Step K σ h w (.i .i64 l.length) h ((Builtin.len_ #[t] ty #[ca]).run K.P w) := by
  rw [vrs ha]
  refine Step.same hR (c := goInt l.length) ?_ (mki _ _)
  have hsz : (ByteArray.mk l.toArray).size = l.length := by simp [ByteArray.size]
  simp [Builtin.len_, run_underlying hu, hsz]

theorem step_lenL (hR : R K σ h w) {t ty el : TypeId} {id st off len e : Nat} {p : List Nat} {cap : Option Nat} {ca : Value} (ha : VR K σ (.sl id st p e off len cap) ca) (hu : K.P.underlying t = some (.slice el)) :
    Step K σ h w (.i .i64 len) h ((Builtin.len_ #[t] ty #[ca]).run K.P w) := by
  simp only [VR, VR1, SR, SR0] at ha
  obtain ⟨L, a, cap', _, rfl, _⟩ := ha
  refine Step.same hR (c := goInt len) ?_ (mki _ _)
  simp [Builtin.len_, run_underlying hu]

theorem step_lenN (hR : R K σ h w) {t ty el : TypeId} {ca : Value} (ha : VR K σ .nilsl ca) (hu : K.P.underlying t = some (.slice el)) :
    Step K σ h w (.i .i64 0) h ((Builtin.len_ #[t] ty #[ca]).run K.P w) := by
  simp only [VR, VR1, SR, SR0] at ha; subst ha
  refine Step.same hR (c := goInt 0) ?_ (mki _ _)
  simp [Builtin.len_, run_underlying hu]

end
end Go.Rae

/- Each operation on abstract values does what the model's does. Ninth part: '==' of structs and arrays of plain data. -/
namespace Go.Rae
open Go

/-- Types of plain data: bools, integers, texts; structs and arrays of them. -/
inductive DT (K : Ctx) : Nat → TypeId → Nat → Prop
  | bool {d t} : K.P.underlying t = some .bool → DT K d t 0
  | str {d t} : K.P.underlying t = some .string → DT K d t 2
  | int {d t k} : K.P.underlying t = some (.int k) → DT K d t (kindNo k)
  | struct {d t sh fs flds} : K.P.underlying t = some (.struct flds) → K.P.stoodInHeld t = false → K.S sh = .str fs → flds.size = fs.length →
      (∀ k f, flds[k]? = some f → f.name ≠ "_" ∧ ∃ s b, fs[k]? = some s ∧ f.offset = ((fs.take k).map K.sz).sum ∧ TyF K f.type s b) → (∀ (k : Nat) (f : Field) (s : Nat), flds[k]? = some f → fs[k]? = some s → DT K d f.type s) → DT K (d + 1) t sh
  | arr {d t sh n e el b} : K.P.underlying t = some (.array n el) → K.S sh = .arr n e → TyF K el e b → DT K d el e → DT K (d + 1) t sh

section
variable {K : Ctx} {σ σ' : Sig} {h : H} {w : World}

theorem small_agg {k : Nat} {l : List V} {c : Value} (hk : k < 11) (hv : VR K σ (.agg k l) c) : False := by
  simp only [VR, VR1] at hv
  obtain ⟨arr, _, hc⟩ := hv
  simp only [CR] at hc
  obtain ⟨fs, hf, _⟩ := hc
  rcases K.Sd k hk with h | h <;> rw [h] at hf <;> simp [kids] at hf

theorem kindNo_inj {a b : IntKind} (h : kindNo a = kindNo b) : a = b := by cases a <;> cases b <;> first | rfl | (simp [kindNo] at h)
theorem kindNo_lt (a : IntKind) : kindNo a < 11 ∧ 2 < kindNo a := by cases a <;> simp [kindNo]

theorem eq_in (hK : K.flat) : ∀ (d : Nat) (t sh : Nat), DT K d t sh → ∀ (D : Nat) (x y : V) (cx cy : Value), d < D → x.sh = sh → y.sh = sh → VR K σ x cx → VR K σ y cy →
    (Op.equalIn D t cx cy).run K.P w = .ok (veq x y) w := by
  intro d t sh hdt
  induction hdt with
  | @bool d t hu =>
    intro D x y cx cy hD hx hy hvx hvy
    obtain ⟨D, rfl⟩ : ∃ m, D = m + 1 := ⟨D - 1, by omega⟩
    cases x with
    | b x =>
      cases y with
      | b y => rw [vrb hvx, vrb hvy, run_equalIn_bool' w D t x y hu]; simp only [veq]
      | agg k l => exact (small_agg (by simp only [V.sh] at hy; omega) hvy).elim
      | i k n => simp only [V.sh] at hy; have := (kindNo_lt k).2; omega
      | _ => simp [V.sh] at hy
    | agg k l => exact (small_agg (by simp only [V.sh] at hx; omega) hvx).elim
    | i k n => simp only [V.sh] at hx; have := (kindNo_lt k).2; omega
    | _ => simp [V.sh] at hx
  | @str d t hu =>
    intro D x y cx cy hD hx hy hvx hvy
    obtain ⟨D, rfl⟩ : ∃ m, D = m + 1 := ⟨D - 1, by omega⟩
    cases x with
    | s x =>
      cases y with
      | s y => rw [vrs hvx, vrs hvy, run_equalIn_string w D t _ _ hu]; simp [veq]
      | agg k l => exact (small_agg (by simp only [V.sh] at hy; omega) hvy).elim
      | i k n => simp only [V.sh] at hy; have := (kindNo_lt k).2; omega
      | _ => simp [V.sh] at hy
    | agg k l => exact (small_agg (by simp only [V.sh] at hx; omega) hvx).elim
    | i k n => simp only [V.sh] at hx; have := (kindNo_lt k).2; omega
    | _ => simp [V.sh] at hx
  | @int d t k hu =>
    intro D x y cx cy hD hx hy hvx hvy
    obtain ⟨D, rfl⟩ : ∃ m, D = m + 1 := ⟨D - 1, by omega⟩
    have hk := kindNo_lt k
    cases x with
    | i kx x =>
      cases y with
      | i ky y =>
        simp only [V.sh] at hx hy
        have e1 := kindNo_inj hx
        have e2 := kindNo_inj hy
        subst e1 e2
        rw [vri hvx, vri hvy, run_equalIn_int w D t _ _ x y hu]; simp only [veq]
      | agg k l => exact (small_agg (by simp only [V.sh] at hy; omega) hvy).elim
      | _ => simp only [V.sh] at hy; omega
    | agg k l => exact (small_agg (by simp only [V.sh] at hx; omega) hvx).elim
    | _ => simp only [V.sh] at hx; omega
  | @struct d t sh fs flds hu hst hS hsz hf _ ih =>
    intro D x y cx cy hD hx hy hvx hvy
    obtain ⟨D, rfl⟩ : ∃ m, D = m + 1 := ⟨D - 1, by omega⟩
    have big : ∀ (z : V) (c : Value), z.sh = sh → VR K σ z c → ∃ l arr, z = .agg sh l ∧ c = .agg arr ∧ CRl K σ fs l arr.toList ∧ fs.length = l.length := by
      intro z c hz hv
      cases z with
      | agg k l =>
        simp only [V.sh] at hz; subst hz
        simp only [VR, VR1] at hv
        obtain ⟨arr, rfl, hc⟩ := hv
        simp only [CR] at hc
        obtain ⟨fs', hk, hl⟩ := hc
        rw [hS] at hk; simp only [kids] at hk
        split at hk
        · injection hk with hk; subst hk; exact ⟨l, arr, rfl, rfl, hl, by assumption⟩
        · cases hk
      | i k n => have := K.Sd _ (kindNo_lt k).1; simp only [V.sh] at hz; rw [hz, hS] at this; simp at this
      | b _ => have := K.Sd 0 (by decide); simp only [V.sh] at hz; rw [hz, hS] at this; simp at this
      | s _ => have := K.Sd 2 (by decide); simp only [V.sh] at hz; rw [hz, hS] at this; simp at this
      | tup _ => have := K.St; simp only [V.sh] at hz; rw [hz, hS] at this; simp at this
      | _ => have := K.Sd 1 (by decide); simp only [V.sh] at hz; rw [hz, hS] at this; simp at this
    obtain ⟨l, xs, rfl, rfl, hl, hll⟩ := big x cx hx hvx
    obtain ⟨m, ys, rfl, rfl, hm, hml⟩ := big y cy hy hvy
    have hfix : ∀ f ∈ fs, K.fix f := (hK sh).1 fs hS
    have hfo : K.P.fieldsOf t = flds := by simp [Program.fieldsOf, hu]
    rw [run_equalIn_struct w D t xs ys (by rw [hfo]; exact hu) hst, hfo]
    have key : ∀ (n k : Nat), k + n = fs.length → (Op.eqFields D xs ys (flds.toList.drop k)).run K.P w = .ok (veqs (l.drop k) (m.drop k)) w := by
      intro n
      induction n with
      | zero =>
        intro k hk
        rw [List.drop_eq_nil_of_le (by simp; omega), List.drop_eq_nil_of_le (by omega), List.drop_eq_nil_of_le (by omega)]
        rfl
      | succ n ihn =>
        intro k hk
        have hkf : k < flds.size := by omega
        have hkl : k < l.length := by omega
        have hkm : k < m.length := by omega
        rw [List.drop_eq_getElem_cons (by simpa using hkf), List.drop_eq_getElem_cons hkl, List.drop_eq_getElem_cons hkm]
        obtain ⟨hn, s, b, hs, hof, hty⟩ := hf k flds[k] (by simp [hkf])
        have ihd := ih k flds[k] s (by simp [hkf]) hs
        obtain ⟨s1, h1, hsx, hvx1⟩ := CRl.value hK hfix hl (List.getElem?_eq_getElem hkl)
        obtain ⟨s2, h2, hsy, hvy1⟩ := CRl.value hK hfix hm (List.getElem?_eq_getElem hkm)
        rw [hs] at h1 h2; cases h1; cases h2
        rw [← hof] at hvx1 hvy1
        obtain ⟨c1, hr1, hv1⟩ := run_part (w := w) hty hvx1
        obtain ⟨c2, hr2, hv2⟩ := run_part (w := w) hty hvy1
        have heq := ihd D _ _ c1 c2 (by omega) hsx hsy hv1 hv2
        simp only [Array.getElem_toList, Op.eqFields, hn, ne_eq, not_false_eq_true, if_true, Sem.run_bind, hr1, hr2, heq, Result.andThen_ok, veqs]
        cases hq : veq l[k] m[k]
        · simp
        · simp only [Bool.not_true, Bool.false_eq_true, if_false, Bool.true_and]
          exact ihn (k + 1) (by omega)
    have := key fs.length 0 (by omega)
    simp only [List.drop_zero] at this
    rw [this]; simp only [veq]
  | @arr d t sh n e el b hu hS hty hdt ih =>
    intro D x y cx cy hD hx hy hvx hvy
    obtain ⟨D, rfl⟩ : ∃ m, D = m + 1 := ⟨D - 1, by omega⟩
    have big : ∀ (z : V) (c : Value), z.sh = sh → VR K σ z c → ∃ l arr, z = .agg sh l ∧ c = .agg arr ∧ CRl K σ (List.replicate n e) l arr.toList ∧ l.length = n := by
      intro z c hz hv
      cases z with
      | agg k l =>
        simp only [V.sh] at hz; subst hz
        simp only [VR, VR1] at hv
        obtain ⟨arr, rfl, hc⟩ := hv
        simp only [CR] at hc
        obtain ⟨fs', hk, hl⟩ := hc
        rw [hS] at hk; simp only [kids] at hk
        split at hk
        · rename_i hn; injection hk with hk; subst hk; exact ⟨l, arr, rfl, rfl, by rw [hn]; exact hl, hn.symm⟩
        · cases hk
      | i k n => have := K.Sd _ (kindNo_lt k).1; simp only [V.sh] at hz; rw [hz, hS] at this; simp at this
      | b _ => have := K.Sd 0 (by decide); simp only [V.sh] at hz; rw [hz, hS] at this; simp at this
      | s _ => have := K.Sd 2 (by decide); simp only [V.sh] at hz; rw [hz, hS] at this; simp at this
      | tup _ => have := K.St; simp only [V.sh] at hz; rw [hz, hS] at this; simp at this
      | _ => have := K.Sd 1 (by decide); simp only [V.sh] at hz; rw [hz, hS] at this; simp at this
    obtain ⟨l, xs, rfl, rfl, hl, hll⟩ := big x cx hx hvx
    obtain ⟨m, ys, rfl, rfl, hm, hml⟩ := big y cy hy hvy
    have hfe : K.fix e := (hK sh).2.1 n e hS
    have hfix : ∀ f ∈ List.replicate n e, K.fix f := fun f hf => by obtain ⟨_, rfl⟩ := List.mem_replicate.1 hf; exact hfe
    obtain ⟨i, dd, hi, hdd, his, _⟩ := hty.ex
    rw [run_equalIn_array w D xs ys hu hi]
    have hco : K.P.cellsOf el = K.sz e := by simp [Program.cellsOf, hi, his]
    rw [hco]
    have hoff : ∀ k, k < n → (((List.replicate n e).take k).map K.sz).sum = k * K.sz e := by
      intro k hk
      have : min k n = k := by omega
      simp [this]
    have key : ∀ (r k : Nat), k + r = n → (Op.eqItems D el (K.sz e) xs ys (List.range' k r)).run K.P w = .ok (veqs (l.drop k) (m.drop k)) w := by
      intro r
      induction r with
      | zero =>
        intro k hk
        rw [List.drop_eq_nil_of_le (by omega), List.drop_eq_nil_of_le (by omega)]
        rfl
      | succ r ihr =>
        intro k hk
        have hkl : k < l.length := by omega
        have hkm : k < m.length := by omega
        rw [List.drop_eq_getElem_cons hkl, List.drop_eq_getElem_cons hkm]
        obtain ⟨s1, h1, hsx, hvx1⟩ := CRl.value hK hfix hl (List.getElem?_eq_getElem hkl)
        obtain ⟨s2, h2, hsy, hvy1⟩ := CRl.value hK hfix hm (List.getElem?_eq_getElem hkm)
        obtain ⟨_, rfl⟩ := List.mem_replicate.1 (List.mem_of_getElem? h1)
        obtain ⟨_, rfl⟩ := List.mem_replicate.1 (List.mem_of_getElem? h2)
        rw [hoff k (by omega)] at hvx1 hvy1
        obtain ⟨c1, hr1, hv1⟩ := run_part (w := w) hty hvx1
        obtain ⟨c2, hr2, hv2⟩ := run_part (w := w) hty hvy1
        have heq := ih D _ _ c1 c2 (by omega) hsx hsy hv1 hv2
        simp only [List.range'_succ, Op.eqItems, Sem.run_bind, hr1, hr2, heq, Result.andThen_ok, veqs]
        cases hq : veq l[k] m[k]
        · simp
        · simp only [Bool.not_true, Bool.false_eq_true, if_false, Bool.true_and]
          exact ihr (k + 1) (by omega)
    have := key n 0 (by omega)
    rw [List.range_eq_range']
    simp only [List.drop_zero] at this
    rw [this]; simp only [veq]

theorem step_eqv (hK : K.flat) (hR : R K σ h w) {d t sh : Nat} {x y : Operand} {a b : V} {neg : Bool} {ca cb : Value} (hdt : DT K d t sh) (hd : d < 10000) (hb : 10 < sh) (hb2 : sh ≠ 65535) (hg : K.P.eqGuardType K.P.depth t = false)
    (ha : VR K σ a ca) (hbb : VR K σ b cb) (h1 : a.sh = sh) (h2 : b.sh = sh) :
    Step K σ h w (.b (if neg then !veq a b else veq a b)) h ((do eqGuard (if neg then .neq else .eql) t x y ca cb; binOp (if neg then .neq else .eql) t ca cb : Sem Value).run K.P w) := by
  have agg : ∀ (z : V) (c : Value), z.sh = sh → VR K σ z c → ∃ arr, c = .agg arr := by
    intro z c hz hv
    cases z with
    | agg k l => simp only [VR, VR1] at hv; obtain ⟨arr, rfl, _⟩ := hv; exact ⟨arr, rfl⟩
    | i k n => simp only [V.sh] at hz; have := kindNo_lt k; omega
    | _ => simp only [V.sh] at hz; omega
  obtain ⟨xs, rfl⟩ := agg a ca h1 ha
  obtain ⟨ys, rfl⟩ := agg b cb h2 hbb
  have heq := eq_in (w := w) hK d t sh hdt 10000 a b _ _ hd h1 h2 ha hbb
  refine Step.same hR (c := .bool (if neg then !veq a b else veq a b)) ?_ (mkb _)
  simp only [Sem.run_bind, run_eqGuard_agg w _ t x y xs ys hg, Result.andThen_ok]
  cases neg
  · simp only [Bool.false_eq_true, if_false, run_eql_struct, heq, Result.andThen_ok]
  · simp only [if_true, run_neq_struct, heq, Result.andThen_ok]

end
end Go.Rae

/- Rounds over a text. -/
namespace Go.Rae
open Go

section
variable {K : Ctx} {σ : Sig} {h : H} {w : World}

/-- The begin of a round over a text. -/
theorem step_rng (hR : R K σ h w) {t : TypeId} {l : List UInt8} {c : Value} (hu : K.P.underlying t = some .string) (hc : VR K σ (.s l) c) :
    Step K σ h w (.ptr h.n 0 [] 65535) (h.push (.iter l 0)) ((Instr.range t c).run K.P w) := by
  simp only [VR, VR1, SR, SR0] at hc
  subst hc
  have hf := hR.fresh (Nat.le_refl h.n)
  have hx := Ext.put_fresh hf ⟨w.heap.size, 0, 0, 0, 65535, false⟩
  have hnew : ({ w with heap := w.heap.push (.stringIter ⟨l.toArray⟩ 0) } : World).heap[w.heap.size]? = some (.stringIter ⟨l.toArray⟩ 0) := by simp
  have hold : ∀ b, b < w.heap.size → ({ w with heap := w.heap.push (.stringIter ⟨l.toArray⟩ 0) } : World).heap[b]? = w.heap[b]? := by
    intro b hb
    simp [Array.getElem?_push, Nat.ne_of_lt hb]
  refine ⟨.pointer (some ⟨w.heap.size, 0, none⟩), { w with heap := w.heap.push (.stringIter ⟨l.toArray⟩ 0) }, σ.put h.n ⟨w.heap.size, 0, 0, 0, 65535, false⟩, ?_, ?_, hx, ?_, ?_⟩
  · simp only [Instr.range, underlying, Sem.run_bind, run_program, Result.andThen_ok, hu, Sem.run_pure, run_newObj]
  · exact hR.push _ _ (fun id M hM => hold _ (hR.lt hM)) (fun id M hM => Nat.ne_of_lt (hR.lt hM)) ⟨rfl, rfl, rfl, rfl, hnew⟩
  · refine ⟨rfl, rfl, rfl, by simp, fun b hb _ => hold b hb, fun id M hM => ?_⟩
    by_cases e : id = h.n
    · subst e; rw [Sig.put_same] at hM; cases hM; exact .inl (Nat.le_refl _)
    · rw [Sig.put_ne _ _ e] at hM; exact .inr ⟨id, M, hM, rfl, rfl⟩
  · simp only [VR, VR1, SR, SR0]
    exact ⟨_, _, Sig.put_same _ _ _, rfl, Nat.le_refl _, fun _ => ⟨0, rfl, rfl⟩⟩

theorem iter_ptr (hR : R K σ h w) {id st sh pos : Nat} {l : List UInt8} {c : Value} (hg : h.get id = some (.iter l pos)) (hc : VR K σ (.ptr id st [] sh) c) :
    ∃ L, σ id = some L ∧ L.st = 0 ∧ L.ro = false ∧ L.off = 0 ∧ L.sh = 65535 ∧ c = .pointer (some ⟨L.blk, 0, none⟩) ∧ w.heap[L.blk]? = some (.stringIter ⟨l.toArray⟩ pos) := by
  simp only [VR, VR1, SR, SR0] at hc
  obtain ⟨L, a, hs, rfl, hle, hst⟩ := hc
  obtain ⟨h0, h1, h2, h3, h4⟩ := hR.obj id _ L hg hs
  simp only [stampOf] at h0
  obtain ⟨o, ho, rfl⟩ := hst (by omega)
  simp only [offs, Option.some.injEq, Prod.mk.injEq] at ho
  obtain ⟨rfl, _⟩ := ho
  exact ⟨L, hs, h0, h1, h2, h3, by rw [h2], h4⟩

theorem step_nxt_end (hR : R K σ h w) {id st sh pos : Nat} {l : List UInt8} {c : Value} {t : TypeId} (hg : h.get id = some (.iter l pos)) (hc : VR K σ (.ptr id st [] sh) c) (hlt : ¬ pos < l.length) :
    Step K σ h w (.tup [.b false]) h ((Instr.next c true t).run K.P w) := by
  obtain ⟨L, hs, h0, h1, h2, h3, rfl, h4⟩ := iter_ptr hR hg hc
  refine Step.same hR (c := .tuple #[.bool false]) ?_ ?_
  · have hsz : ¬ pos < (⟨l.toArray⟩ : ByteArray).size := by simpa [ByteArray.size] using hlt
    simp only [Instr.next, getObj, Sem.run_bind, Sem.run, h4, Result.andThen_ok]
    rw [if_neg hsz]
    rfl
  · simp only [VR]
    exact ⟨_, rfl, .cons rfl .nil⟩

theorem step_nxt (hR : R K σ h w) {id st sh pos : Nat} {l : List UInt8} {c : Value} {t : TypeId} (hg : h.get id = some (.iter l pos)) (hc : VR K σ (.ptr id st [] sh) c) (hlt : pos < l.length) :
    Step K σ h w (.tup [.b true, .i .i64 pos, .i .i32 (Utf8.decode ⟨l.toArray⟩ pos).1]) (h.set id (.iter l (pos + (Utf8.decode ⟨l.toArray⟩ pos).2))) ((Instr.next c true t).run K.P w) := by
  obtain ⟨L, hs, h0, h1, h2, h3, rfl, h4⟩ := iter_ptr hR hg hc
  have hsz : pos < (⟨l.toArray⟩ : ByteArray).size := by simpa [ByteArray.size] using hlt
  let o' : Go.Obj := .stringIter ⟨l.toArray⟩ (pos + (Utf8.decode ⟨l.toArray⟩ pos).2)
  have hrun : (Instr.next (.pointer (some ⟨L.blk, 0, none⟩)) true t).run K.P w = .ok (.tuple #[.bool true, .int .i64 pos, .int .i32 (Utf8.decode ⟨l.toArray⟩ pos).1]) { w with heap := w.heap.setIfInBounds L.blk o' } := by
    simp only [Instr.next, getObj, setObj, Sem.run_bind, Sem.run, h4, Result.andThen_ok]
    rw [if_pos hsz]
    simp only [Sem.run_bind, Sem.run, h4, Result.andThen_ok]
    rfl
  have hlb : L.blk < w.heap.size := hR.lt hs
  have hne : ∀ b, b ≠ L.blk → (w.heap.setIfInBounds L.blk o')[b]? = w.heap[b]? := fun b hb => Array.getElem?_setIfInBounds_ne (Ne.symm hb)
  have hsame : (w.heap.setIfInBounds L.blk o')[L.blk]? = some o' := by simp [hlb]
  refine ⟨_, _, σ, hrun, ?_, Ext.refl σ, ?_, ?_⟩
  · have key := hR.set (w' := { w with heap := w.heap.setIfInBounds L.blk o' }) hs (.iter l (pos + (Utf8.decode ⟨l.toArray⟩ pos).2)) L (by rw [Sig.put_eq hs]; exact Ext.refl σ)
      (fun j M hM hn => hne _ (fun e => hR.sep id j L M hs hM (Ne.symm hn) h1 e.symm))
      (fun j M hM hn e => hR.sep id j L M hs hM (Ne.symm hn) h1 e.symm)
      (by
        rw [Sig.put_eq hs]
        exact ⟨h0, h1, h2, h3, hsame⟩)
    rw [Sig.put_eq hs] at key
    exact key
  · exact ⟨rfl, rfl, rfl, by simp, fun b _ hno => hne b (fun e => hno id L hs h1 e.symm), fun i M hM => .inr ⟨i, M, hM, rfl, rfl⟩⟩
  · simp only [VR]
    exact ⟨_, rfl, .cons rfl (.cons rfl (.cons rfl .nil))⟩

end
end Go.Rae
