/- Regions whose operations may run in any order: what each operation does to the memory. -/
import Derived.Test.YtannfoaobeoafaaDoorRaeExec
import Derived.Orders
set_option linter.unusedVariables false
set_option linter.unusedSimpArgs false
namespace Go.Rae
open Go

mutual
theorem vsame_eq (a b : V) (h : vsame a b = true) : a = b := by
  cases a with
  | agg k l => cases b <;> simp only [vsame, Bool.and_eq_true, beq_iff_eq, Bool.false_eq_true] at h; obtain ⟨rfl, h⟩ := h; rw [vsames_eq _ _ h]
  | tup l => cases b <;> simp only [vsame, Bool.false_eq_true] at h; rw [vsames_eq _ _ h]
  | fn f l => cases b <;> simp only [vsame, Bool.and_eq_true, beq_iff_eq, Bool.false_eq_true] at h; obtain ⟨rfl, h⟩ := h; rw [vsames_eq _ _ h]
  | ifc t x => cases b <;> simp only [vsame, Bool.and_eq_true, beq_iff_eq, Bool.false_eq_true] at h; obtain ⟨rfl, h⟩ := h; rw [vsame_eq _ _ h]
  | _ => cases b <;> simp_all [vsame]
theorem vsames_eq (l m : List V) (h : vsames l m = true) : l = m := by
  match l, m with
  | [], [] => rfl
  | x :: l, y :: m => simp only [vsames, Bool.and_eq_true] at h; rw [vsame_eq _ _ h.1, vsames_eq _ _ h.2]
  | [], _ :: _ => simp [vsames] at h
  | _ :: _, [] => simp [vsames] at h
end

theorem osame_eq (a b : Option Obj) (h : osame a b = true) : a = b := by
  unfold osame at h
  split at h
  · rfl
  · simp only [Bool.and_eq_true, beq_iff_eq] at h
    obtain ⟨⟨rfl, rfl⟩, h⟩ := h
    rw [vsame_eq _ _ h]
  · cases h

section
variable {p : Nat → Bool} {C : Orc} {e : Env} {h h' : H} {v : V} {op : IOp}

set_option maxHeartbeats 1000000 in
theorem pu_any (hp : isPu op = true) (hr : aop p C e h op = some (v, h')) : h' = h ∧ ∀ h2, aop p C e h2 op = some (v, h2) := by
  cases op <;> simp only [isPu, Bool.false_eq_true] at hp <;> clear hp <;> simp only [aop] at hr ⊢ <;> (repeat' (split at hr)) <;>
    first
      | (cases hr; done)
      | (simp only [Option.some.injEq, Prod.mk.injEq] at hr; obtain ⟨rfl, rfl⟩ := hr; refine ⟨rfl, fun h2 => ?_⟩; simp_all)

theorem read_get {h h2 : H} {id st : Nat} {q : List Nat} (e : h2.get id = h.get id) : h2.read id st q = h.read id st q := by
  simp only [H.read, H.root, e]

theorem read_some {h : H} {id st : Nat} {q : List Nat} {x : V} (hr : h.read id st q = some x) : (h.get id).isSome = true := by
  unfold H.read H.root at hr
  cases hg : h.get id with
  | none => rw [hg] at hr; simp at hr
  | some o => rfl

theorem rd_any {id : Nat} (hp : isPu op = false) (hi : rdId e op = some id) (hr : aop p C e h op = some (v, h')) : (h.get id).isSome = true ∧ h' = h ∧ ∀ h2, h2.get id = h.get id → aop p C e h2 op = some (v, h2) := by
  cases op with
  | load sh a =>
    simp only [rdId] at hi
    simp only [aop] at hr ⊢
    split at hr
    · rename_i id' st q sh' hev
      rw [hev] at hi; simp only [Option.some.injEq] at hi; subst hi
      split at hr
      · split at hr
        · rename_i hrd
          simp only [Option.some.injEq, Prod.mk.injEq] at hr; obtain ⟨rfl, rfl⟩ := hr
          refine ⟨read_some hrd, rfl, fun h2 e2 => ?_⟩
          simp_all [read_get e2]
        · cases hr
      · cases hr
    · cases hr
  | slA sh el n a lo hi' mx =>
    simp only [rdId] at hi
    simp only [aop] at hr ⊢
    split at hr
    · rename_i id' st q sh' lo' hi'' mx' hev h1 h2 h3
      rw [hev] at hi; simp only [Option.some.injEq] at hi; subst hi
      split at hr
      · rename_i hc
        split at hr
        · rename_i hb
          simp only [Option.some.injEq, Prod.mk.injEq] at hr; obtain ⟨rfl, rfl⟩ := hr
          have hsm : (H.get h id').isSome = true := by
            have := hc.2
            unfold H.isAt at this
            cases hrd : H.read h id' st q with
            | none => rw [hrd] at this; cases this
            | some x => exact read_some hrd
          refine ⟨hsm, rfl, fun h2' e2 => ?_⟩
          have : h2'.isAt id' st q sh = H.isAt h id' st q sh := by simp only [H.isAt, read_get e2]
          simp_all
        · cases hr
      · cases hr
    · cases hr
  | cbs a =>
    simp only [rdId] at hi
    simp only [aop] at hr ⊢
    split at hr
    · rename_i x hev
      rw [hev] at hi
      cases x <;> simp only [Option.some.injEq, reduceCtorEq] at hi
      subst hi
      split at hr
      · rename_i hsl
        split at hr
        · rename_i l hl
          split at hr
          · rename_i r hrb
            simp only [Option.some.injEq, Prod.mk.injEq] at hr; obtain ⟨rfl, rfl⟩ := hr
            simp only [H.elems] at hl
            refine ⟨?_, rfl, fun h2' e2 => ?_⟩
            · split at hl
              · rename_i hrd; exact read_some hrd
              · cases hl
            simp only [H.elems, read_get e2, hl, hrb, hsl, if_true]
          · cases hr
        · cases hr
      · cases hr
    · cases hr
  | _ => simp [rdId] at hi

theorem pureCall_any (hi : pureCall p C e op = some v) (h2 : H) : aop p C e h2 op = some (v, h2) := by
  cases op with
  | call f args =>
    simp only [pureCall] at hi
    simp only [aop]
    split at hi
    · rename_i f' caps vs h1 h3
      split at hi
      · rename_i hn
        split at hi
        · rename_i v0 h0 hc
          split at hi
          · rename_i hnr
            injection hi with hi; subst hi
            simp only [callV, hn, if_true, hc, hnr]
          · cases hi
        · cases hi
      · cases hi
    · cases hi
  | _ => simp [pureCall] at hi

theorem get_set_ne {h : H} {i j : Nat} (o : Obj) (hi : i < h.n) (hne : j ≠ i) : (h.set i o).get j = h.get j := by
  unfold H.set H.get
  simp only
  by_cases hj : j < h.n
  · rw [if_pos hj, if_pos hj, List.getElem?_set_ne (by omega)]
  · rw [if_neg hj, if_neg hj]

theorem write_get {h h' : H} {id st : Nat} {q : List Nat} {x : V} (hw : h.write id st q x = some h') : ∀ j, j ≠ id → h'.get j = h.get j := by
  intro j hj
  unfold H.write at hw
  split at hw
  · rename_i v g hg
    have hlt := H.get_lt hg
    split at hw
    · split at hw
      · split at hw
        · cases hw
        · split at hw
          · injection hw with hw; subst hw; exact get_set_ne _ hlt hj
          · cases hw
      · split at hw
        · injection hw with hw; subst hw; exact get_set_ne _ hlt hj
        · cases hw
    · cases hw
  · cases hw

theorem wr_any {id : Nat} (hi : wrId e op = some id) (hr : aop p C e h op = some (v, h')) : ∀ j, j ≠ id → h'.get j = h.get j := by
  cases op with
  | store sh a x =>
    simp only [wrId] at hi
    simp only [aop] at hr
    split at hr
    · rename_i id' st q sh' v' hev hx
      rw [hev] at hi; simp only [Option.some.injEq] at hi; subst hi
      split at hr
      · split at hr
        · rename_i hw
          simp only [Option.some.injEq, Prod.mk.injEq] at hr; obtain ⟨rfl, rfl⟩ := hr
          exact write_get hw
        · cases hr
      · cases hr
    · cases hr
  | _ => simp [wrId] at hi

end

/-- What an operation of a region is. -/
inductive StepD (p : Nat → Bool) (C : Orc) (al : List (Nat × Nat)) (e : Env) (h : H) (o : IOper) : V → H → Cls → Prop
  | skip : wantedV e o.guard = some false → hits al (guardTm o.guard) = false → StepD p C al e h o unit h .pu
  | pu {v} : wantedV e o.guard = some true → (∀ h2, aop p C e h2 o.op = some (v, h2)) → hits al o.tms = false → StepD p C al e h o v h .pu
  | rd {v id} : wantedV e o.guard = some true → (h.get id).isSome = true → (∀ h2, h2.get id = h.get id → aop p C e h2 o.op = some (v, h2)) → hits al o.tms = false → (∀ q ∈ al, q.2 ≠ id) → StepD p C al e h o v h (.rd id)
  | al {sh z d} : wantedV e o.guard = some true → o.op = .box sh (.c z) → noId z = true → z.sh = sh → z.isTup = false → o.dst = some d → hits al (guardTm o.guard) = false → StepD p C al e h o (.ptr h.n 0 [] sh) (h.push (.cells z false false)) .al
  | wr {v id h'} : wantedV e o.guard = some true → aop p C e h o.op = some (v, h') → (∀ j, j ≠ id → h'.get j = h.get j) → StepD p C al e h o v h' (.wr id)
  | ge {v h'} : wantedV e o.guard = some true → aop p C e h o.op = some (v, h') → StepD p C al e h o v h' (.ge h h')

theorem stepD_ok {p : Nat → Bool} {C : Orc} {al : List (Nat × Nat)} {e : Env} {h h' : H} {o : IOper} {v : V} {c : Cls} (hs : stepD p C al e h o = some (v, h', c)) :
    StepD p C al (e.keep o.tms) h o v h' c ∧ hits al o.dst.toList = false := by
  unfold stepD at hs
  simp only at hs
  split at hs
  · cases hs
  rename_i hh
  simp only [Bool.or_eq_true, not_or, Bool.not_eq_true] at hh
  refine ⟨?_, hh.1⟩
  split at hs
  · cases hs
  · rename_i hw
    simp only [Option.some.injEq, Prod.mk.injEq] at hs
    obtain ⟨rfl, rfl, rfl⟩ := hs
    exact .skip hw hh.2
  · rename_i hw
    split at hs
    · rename_i hal
      split at hs
      · rename_i d v' h'' hd ha
        simp only [Option.some.injEq, Prod.mk.injEq] at hs
        obtain ⟨rfl, rfl, rfl⟩ := hs
        obtain ⟨dst, op, g⟩ := o
        simp only at hal ha hd
        cases op <;> simp only [alCls, Bool.false_eq_true] at hal
        rename_i sh x
        cases x <;> simp only [alCls, Bool.false_eq_true, Bool.and_eq_true, beq_iff_eq] at hal
        rename_i z
        obtain ⟨hz, rfl⟩ := hal
        simp only [aop, ev, true_and] at ha
        split at ha
        · rename_i ht
          simp only [Option.some.injEq, Prod.mk.injEq] at ha
          obtain ⟨rfl, rfl⟩ := ha
          exact .al hw rfl hz rfl ht hd hh.2
        · cases ha
      · cases hs
    · split at hs
      · rename_i id hid
        split at hs
        · rename_i v' h'' ha
          simp only [Option.some.injEq, Prod.mk.injEq] at hs
          obtain ⟨rfl, rfl, rfl⟩ := hs
          exact .wr hw ha (wr_any hid ha)
        · cases hs
      · split at hs
        · rename_i v' hp
          simp only [Option.some.injEq, Prod.mk.injEq] at hs
          obtain ⟨rfl, rfl, rfl⟩ := hs
          split at hp
          · cases hp
          · rename_i hhit
            exact .pu hw (pureCall_any hp) (by simpa using hhit)
        · split at hs
          · rename_i v' h'' ha
            split at hs
            · simp only [Option.some.injEq, Prod.mk.injEq] at hs
              obtain ⟨rfl, rfl, rfl⟩ := hs
              exact .ge hw ha
            · rename_i hhit
              split at hs
              · rename_i hpu
                simp only [Option.some.injEq, Prod.mk.injEq] at hs
                obtain ⟨rfl, rfl, rfl⟩ := hs
                obtain ⟨rfl, h2⟩ := pu_any hpu ha
                exact .pu hw h2 (by simpa using hhit)
              · rename_i hpu
                split at hs
                · rename_i id hid
                  split at hs
                  · simp only [Option.some.injEq, Prod.mk.injEq] at hs
                    obtain ⟨rfl, rfl, rfl⟩ := hs
                    exact .ge hw ha
                  · rename_i hnal
                    simp only [Option.some.injEq, Prod.mk.injEq] at hs
                    obtain ⟨rfl, rfl, rfl⟩ := hs
                    obtain ⟨hsm, rfl, h2⟩ := rd_any (by simpa using hpu) hid ha
                    refine .rd hw hsm h2 (by simpa using hhit) ?_
                    intro q hq e1
                    apply hnal
                    simp only [List.any_eq_true, beq_iff_eq]
                    exact ⟨q, hq, e1⟩
                · simp only [Option.some.injEq, Prod.mk.injEq] at hs
                  obtain ⟨rfl, rfl, rfl⟩ := hs
                  exact .ge hw ha
          · cases hs

/-- A region's run in the order of the text. -/
structure Tr (p : Nat → Bool) (C : Orc) (is : List IOper) (E : Nat → Env) (Hh : Nat → H) (A : Nat → List (Nat × Nat)) (Vv : Nat → V) (Cc : Nat → Cls) : Prop where
  step : ∀ i o, is[i]? = some o → StepD p C (A i) ((E i).keep o.tms) (Hh i) o (Vv i) (Hh (i + 1)) (Cc i) ∧ hits (A i) o.dst.toList = false ∧
    E (i + 1) = (E i).putO o.dst (Vv i) ∧ A (i + 1) = alNext (A i) (Hh i) o.dst (Cc i)

theorem runD_tr {p : Nat → Bool} {C : Orc} : ∀ {is : List IOper} {al : List (Nat × Nat)} {e : Env} {h : H} {cs : List Cls} {ef : Env} {hf : H}, runD p C al e h is = some (cs, ef, hf) →
    ∃ E Hh A Vv, Tr p C is E Hh A Vv (fun i => cs.getD i .pu) ∧ E 0 = e ∧ Hh 0 = h ∧ A 0 = al ∧ E is.length = ef ∧ Hh is.length = hf ∧ cs.length = is.length := by
  intro is
  induction is with
  | nil =>
    intro al e h cs ef hf hr
    simp only [runD, Option.some.injEq, Prod.mk.injEq] at hr
    obtain ⟨rfl, rfl, rfl⟩ := hr
    exact ⟨fun _ => e, fun _ => h, fun _ => al, fun _ => .nilp, ⟨fun i o hi => by simp at hi⟩, rfl, rfl, rfl, rfl, rfl, rfl⟩
  | cons o r ih =>
    intro al e h cs ef hf hr
    simp only [runD] at hr
    split at hr
    · rename_i v h' c hs
      split at hr
      · rename_i cs' e' h'' hr'
        simp only [Option.some.injEq, Prod.mk.injEq] at hr
        obtain ⟨rfl, rfl, rfl⟩ := hr
        obtain ⟨E, Hh, A, Vv, ht, h0, h1, h2, h3, h4, h5⟩ := ih hr'
        refine ⟨fun | 0 => e | i + 1 => E i, fun | 0 => h | i + 1 => Hh i, fun | 0 => al | i + 1 => A i, fun | 0 => v | i + 1 => Vv i, ⟨?_⟩, rfl, rfl, rfl, h3, h4, by simp [h5]⟩
        intro i o' hi
        cases i with
        | zero =>
          simp only [List.getElem?_cons_zero, Option.some.injEq] at hi; subst hi
          obtain ⟨hd, hn⟩ := stepD_ok hs
          refine ⟨?_, hn, h0, h2⟩
          show StepD p C al (e.keep o.tms) h o v (Hh 0) c
          rw [h1]; exact hd
        | succ i =>
          simp only [List.getElem?_cons_succ] at hi
          exact ht.step i o' hi
      · cases hr
    · cases hr

theorem pairOk_spec {b : Nat} {c : Cls} : ∀ {l : List Cls} {i : Nat}, pairOk b c i l = true → ∀ j d, l[j]? = some d → swapOk d c = true ∨ b.testBit (i + j) = true := by
  intro l
  induction l with
  | nil => intro i _ j d hj; simp at hj
  | cons x l ih =>
    intro i h j d hj
    simp only [pairOk, Bool.and_eq_true, Bool.or_eq_true] at h
    cases j with
    | zero => simp only [List.getElem?_cons_zero, Option.some.injEq] at hj; subst hj; exact h.1
    | succ j =>
      simp only [List.getElem?_cons_succ] at hj
      have := ih h.2 j d hj
      rwa [Nat.add_assoc, Nat.add_comm 1 j] at this

theorem pairsOk_spec : ∀ {bs : List Nat} {pre cs : List Cls}, pairsOk pre bs cs = true → bs.length = cs.length ∧ ∀ j c b, cs[j]? = some c → bs[j]? = some b → ∀ i d, (pre ++ cs)[i]? = some d → i < pre.length + j → swapOk d c = true ∨ b.testBit i = true := by
  intro bs
  induction bs with
  | nil =>
    intro pre cs h
    cases cs with
    | nil => exact ⟨rfl, fun j c b hj => by simp at hj⟩
    | cons c cs => simp [pairsOk] at h
  | cons b bs ih =>
    intro pre cs h
    cases cs with
    | nil => simp [pairsOk] at h
    | cons c cs =>
      simp only [pairsOk, Bool.and_eq_true] at h
      obtain ⟨h1, h2⟩ := h
      obtain ⟨hl, hih⟩ := ih h2
      refine ⟨by simp [hl], fun j c' b' hj hb i d hi hlt => ?_⟩
      cases j with
      | zero =>
        simp only [List.getElem?_cons_zero, Option.some.injEq] at hj hb; subst hj hb
        have hi' : pre[i]? = some d := by rwa [List.getElem?_append_left (by omega)] at hi
        cases c with
        | pu => left; cases d <;> rfl
        | _ => simpa using pairOk_spec h1 i d hi'
      | succ j =>
        simp only [List.getElem?_cons_succ] at hj hb
        refine hih j c' b' hj hb i d (by simpa using hi) (by simp; omega)

end Go.Rae

/- Regions whose operations may run in any order: all orders give what the text's order gives. -/
namespace Go.Rae
open Go

section
variable {K : Ctx} {σ σ' : Sig} {h : H} {w : World} {e : Env} {a : Act}

mutual
theorem CR.noId (v : V) (cs : List Value) (hn : noId v = true) (hc : CR K σ v cs) : CR K σ' v cs := by
  cases v with
  | agg k l =>
    simp only [CR] at hc ⊢
    simp only [Rae.noId] at hn
    obtain ⟨fs, hk, hl⟩ := hc
    exact ⟨fs, hk, CRl.noId fs l cs hn hl⟩
  | b x => simpa only [CR, SR, SR0] using hc
  | i k n => simpa only [CR, SR, SR0] using hc
  | sym k n => simpa only [CR, SR, SR0] using hc
  | s l => simpa only [CR, SR, SR0] using hc
  | nilp => simpa only [CR, SR, SR0] using hc
  | nilsl => simpa only [CR, SR, SR0] using hc
  | nilm => simpa only [CR, SR, SR0] using hc
  | nilc => simpa only [CR, SR, SR0] using hc
  | nilf => simpa only [CR, SR, SR0] using hc
  | nili => simpa only [CR, SR, SR0] using hc
  | _ => simp [Rae.noId] at hn
  termination_by SizeOf.sizeOf v
theorem CRl.noId (fs : List Nat) (l : List V) (cs : List Value) (hn : noIds l = true) (hc : CRl K σ fs l cs) : CRl K σ' fs l cs := by
  match fs, l with
  | [], [] => simpa only [CRl] using hc
  | f :: fs, v :: l =>
    simp only [CRl] at hc ⊢
    simp only [Rae.noIds, Bool.and_eq_true] at hn
    obtain ⟨hs, x, y, rfl, hx, hy⟩ := hc
    exact ⟨hs, x, y, rfl, CR.noId v x hn.1 hx, CRl.noId fs l y hn.2 hy⟩
  | [], _ :: _ => simp only [CRl] at hc
  | _ :: _, [] => simp only [CRl] at hc
  termination_by SizeOf.sizeOf l
end

theorem OR.noId {z : V} {L : Loc} (hn : noId z = true) (ho : OR K σ (.cells z false false) L w) : OR K σ' (.cells z false false) L w := by
  obtain ⟨hs, h1, h2, h3, arr, T, fr, pre, cs, post, hb, hz, ha, hp, hc, hf⟩ := ho
  exact ⟨hs, h1, h2, h3, arr, T, fr, pre, cs, post, hb, hz, ha, hp, CR.noId z cs hn hc, hf⟩

/-- One operation that is done. -/
theorem do_op (hK : K.flat) {C : Orc} (hC : SoundO K C) {N k : Nat} {ops : Array Oper} {i : IOper} {o : Oper} {v : V} {h' : H} {next : Act → World → Prop} {Q : Exit → Act → World → Prop}
    (ho : ops[k]? = some o) (hok : OperOK K N ops i o) {eg : Env} (heg : ER K σ eg a) (hw : wantedV eg i.guard = some true) {σ1 : Sig} {h1 : H} {e1 : Env} (ha : aop K.pure C e1 h1 i.op = some (v, h')) (hG : GL K σ1 w) (hR : R K σ1 h1 w) (he : ER K σ1 e1 a)
    (hn : ∀ c w' σ', R K σ' h' w' → Ext σ1 σ' → Fr σ1 w σ' w' → VR K σ' v c → next (a.put i.dst c) w') : wpOp K.P ops Q k next a w := by
  unfold wpOp
  simp only [ho]
  rw [if_pos (wanted_ok hok heg hw)]
  refine .inl (op_wp hK hok.2.2.1 ha hG hR he (fun f args _ v h' hr => call_ok hC hr) ?_)
  intro c w' σ' h1 h2 h3 h4
  rw [← hok.1]
  exact hn c w' σ' h1 h2 h3 h4

/-- One that is not wanted. -/
theorem skip_op {N k : Nat} {ops : Array Oper} {i : IOper} {o : Oper} {next : Act → World → Prop} {Q : Exit → Act → World → Prop}
    (ho : ops[k]? = some o) (hok : OperOK K N ops i o) {eg : Env} (heg : ER K σ eg a) (hw : wantedV eg i.guard = some false)
    (hn : next (a.put i.dst undef) w) : wpOp K.P ops Q k next a w := by
  unfold wpOp
  simp only [ho]
  rw [if_neg (by rw [wanted_ok hok heg hw]; simp), ← hok.1]
  exact hn

end

def inS (ls : Array Bool) (i : Nat) : Prop := ls.getD i false = true

theorem inS_set {ls : Array Bool} {i j : Nat} (hi : i < ls.size) : inS (ls.setIfInBounds i true) j ↔ j = i ∨ inS ls j := by
  unfold inS
  by_cases e : j = i
  · subst e; simp [hi]
  · simp only [Array.getD_eq_getD_getElem?, Array.getElem?_setIfInBounds_ne (Ne.symm e), e, false_or]

theorem ready_iff {ops : Array Oper} {ls : Array Bool} {i : Nat} (hs : ls.size = ops.size) : i ∈ Region.ready .any ops ls ↔ ∃ o, ops[i]? = some o ∧ ¬ inS ls i ∧ ∀ e ∈ o.after, Region.binds .any e = true → inS ls e.on := by
  unfold Region.ready inS
  simp only [List.mem_filter, List.mem_range, Bool.and_eq_true, Bool.not_eq_true']
  constructor
  · rintro ⟨hi, h1, h2⟩
    refine ⟨ops[i], by simp [hi], ?_, ?_⟩
    · have hi' : i < ls.size := by omega
      simp only [Array.getD_eq_getD_getElem?, hi', Array.getElem?_eq_getElem, Option.getD_some] at h1 ⊢
      simp [h1]
    · simp only [hi, Array.getElem?_eq_getElem, Option.map_some, Option.getD_some, Array.all_eq_true'] at h2
      intro e he hb
      have := h2 e he
      simpa [hb] using this
  · rintro ⟨o, ho, h1, h2⟩
    have hi := (Array.getElem?_eq_some_iff.1 ho).1
    refine ⟨hi, ?_, ?_⟩
    · have hi' : i < ls.size := by omega
      simp only [Array.getD_eq_getD_getElem?, hi', Array.getElem?_eq_getElem, Option.getD_some] at h1 ⊢
      simpa using h1
    · simp only [ho, Option.map_some, Option.getD_some, Array.all_eq_true']
      intro e he
      by_cases hb : Region.binds .any e = true
      · simpa [hb] using h2 e he hb
      · simp [hb]

/-- Two operations one of which writes what the other names. -/
def conflict (x y : IOper) : Prop := (∃ d, x.dst = some d ∧ d ∈ y.tms) ∨ (∃ d, y.dst = some d ∧ d ∈ x.tms) ∨ (∃ d, x.dst = some d ∧ y.dst = some d)

/-- What the text of a region must keep. (B i j: the j-th one is bound to be behind the i-th.) -/
structure Bound (ops : Array Oper) (is : List IOper) (B : Nat → Nat → Prop) : Prop where
  st : ∀ i j x y, i < j → is[i]? = some x → is[j]? = some y → conflict x y → B i j
  cl : ∀ j o, ops[j]? = some o → ∀ i, B i j → ∃ e ∈ o.after, Region.binds .any e = true ∧ (e.on = i ∨ B i e.on)
  ix : ∀ j o, ops[j]? = some o → ∀ e ∈ o.after, Region.binds .any e = true → e.on < j

theorem hits_no {al : List (Nat × Nat)} {ts : List Nat} (h : hits al ts = false) : ∀ q ∈ al, q.1 ∉ ts := by
  intro q hq hm
  unfold hits at h
  have := List.any_eq_false.1 h q hq
  simp only [List.contains_iff_mem, hm, not_true_eq_false] at this

section
variable {K : Ctx} {C : Orc} {N : Nat} {ops : Array Oper} {is : List IOper} {E : Nat → Env} {Hh : Nat → H} {A : Nat → List (Nat × Nat)} {Vv : Nat → V} {Cc : Nat → Cls}

theorem Tr.al_mem (ht : Tr K.pure C is E Hh A Vv Cc) {g j : Nat} {o : IOper} {d : Nat} (hg : is[g]? = some o) (hc : Cc g = .al) (hd : o.dst = some d) (hlt : g < j) (hj : j ≤ is.length) : (d, (Hh g).n) ∈ A j := by
  induction j with
  | zero => omega
  | succ j ih =>
    have hjl : j < is.length := by omega
    obtain ⟨_, _, _, ha⟩ := ht.step j is[j] (by simp [hjl])
    by_cases e : g = j
    · subst e
      have : is[g] = o := by rw [List.getElem?_eq_getElem hjl] at hg; exact Option.some.inj hg
      rw [ha, this, hc, hd]
      simp only [alNext, List.mem_cons, true_or]
    · have := ih (by omega) (by omega)
      rw [ha]
      unfold alNext
      split
      · split
        · exact List.mem_cons_of_mem _ this
        · exact this
      · exact this

/-- A temporary that none writes between keeps its value. -/
theorem Tr.keep (ht : Tr K.pure C is E Hh A Vv Cc) {t : Nat} : ∀ {i j : Nat}, i ≤ j → j ≤ is.length → (∀ k o, i ≤ k → k < j → is[k]? = some o → o.dst ≠ some t) → (E j).get t = (E i).get t := by
  intro i j hij
  induction j with
  | zero => intro _ _; have : i = 0 := by omega
            rw [this]
  | succ j ih =>
    intro hj hk
    by_cases e : i = j + 1
    · rw [e]
    · have hjl : j < is.length := by omega
      obtain ⟨_, _, he, _⟩ := ht.step j is[j] (by simp [hjl])
      rw [he, ← ih (by omega) (by omega) (fun k o h1 h2 h3 => hk k o h1 (by omega) h3)]
      have hd := hk j is[j] (by omega) (by omega) (by simp [hjl])
      cases hdd : (is[j]).dst with
      | none => rfl
      | some d =>
        simp only [Env.putO, get_put]
        rw [if_neg (fun e => hd (by rw [hdd, e]))]

theorem Tr.last (ht : Tr K.pure C is E Hh A Vv Cc) {i j t : Nat} {o : IOper} (hi : is[i]? = some o) (hd : o.dst = some t) (hlt : i < j) (hj : j ≤ is.length) (hk : ∀ k o, i < k → k < j → is[k]? = some o → o.dst ≠ some t) : (E j).get t = some (Vv i) := by
  rw [ht.keep (i := i + 1) (by omega) hj (fun k o h1 h2 h3 => hk k o (by omega) h2 h3), (ht.step i o hi).2.2.1, hd]
  simp only [Env.putO, get_put, if_true]

variable (K C N ops is E Hh A Vv Cc) in
/-- The objects that are made ahead of their place. -/
structure GH (w0 : World) (σ : Sig) (a : Act) (w : World) (o : IOper) (L : Loc) : Prop where
  ex : ∃ sh z d, o.op = .box sh (.c z) ∧ noId z = true ∧ z.sh = sh ∧ o.dst = some d ∧ OR K (fun _ => none) (.cells z false false) L w ∧ (∀ σ' id, σ' id = some L → VR K σ' (.ptr id 0 [] sh) (a.tmps.getD d undef))
  no : ∀ id M, σ id = some M → M.blk ≠ L.blk
  nw : w0.heap.size ≤ L.blk

variable (K N is E Hh Cc) in
structure Inv (B : Nat → Nat → Prop) (σ0 : Sig) (w0 : World) (ls : Array Bool) (m : Nat) (a : Act) (w : World) (σ : Sig) (G : Nat → Loc) : Prop where
  size : ls.size = is.length
  mn : m ≤ is.length
  clo : ∀ i j, j < is.length → inS ls j → B i j → inS ls i
  hv : ∀ k, k < is.length → heavy (Cc k) = true → (inS ls k ↔ k < m)
  als : ∀ g, g < m → Cc g = .al → inS ls g
  df : a.defers = []
  tm : a.tmps.size = N
  R : R K σ (Hh m) w
  ext : Ext σ0 σ
  fr : Fr σ0 w0 σ w
  env : ∀ j, j ≤ is.length → ∀ t, (∀ i o, is[i]? = some o → o.dst = some t → (inS ls i ↔ i < j)) → (∀ g o, is[g]? = some o → Cc g = .al → o.dst = some t → inS ls g → g < m) → ∀ v, (E j).get t = some v → VR K σ v (a.tmps.getD t undef)
  gh : ∀ g o, is[g]? = some o → m ≤ g → Cc g = .al → inS ls g → GH K w0 σ a w o (G g)
  gd : ∀ g g', g ≠ g' → g < is.length → g' < is.length → m ≤ g → m ≤ g' → Cc g = .al → Cc g' = .al → inS ls g → inS ls g' → (G g).blk ≠ (G g').blk

variable {B : Nat → Nat → Prop} {σ0 : Sig} {w0 : World} {ls : Array Bool} {m : Nat} {a : Act} {w : World} {σ : Sig} {G : Nat → Loc}

/-- The environment of an operation that may run. -/
theorem Inv.er (hI : Inv K N is E Hh Cc B σ0 w0 ls m a w σ G) (hb : Bound ops is B) {i : Nat} {o : IOper} (hi : is[i]? = some o) (hni : ¬ inS ls i) (hrd : ∀ j, B j i → inS ls j)
    (ks : List Nat) (hks : ∀ t ∈ ks, t ∈ o.tms) (hal : ∀ t ∈ ks, ∀ g o', is[g]? = some o' → g < i → Cc g = .al → o'.dst = some t → inS ls g → g < m) : ER K σ ((E i).keep ks) a := by
  intro t v hv
  have hlt := (List.getElem?_eq_some_iff.1 hi).1
  have hg := get_keep _ _ _ _ hv
  have hmem : t ∈ ks := by
    have : ∀ (e : Env) (v : V), Env.get (e.filter fun p => ks.contains p.1) t = some v → ks.contains t = true := by
      intro e
      induction e with
      | nil => intro v h; cases h
      | cons q e ih =>
        intro v h
        simp only [List.filter_cons] at h
        split at h
        · rename_i hq
          simp only [Env.get] at h
          split at h
          · rename_i e1; rw [← e1]; exact hq
          · exact ih v h
        · exact ih v h
    simpa using this _ v hv
  refine hI.env i (by omega) t (fun k ok hk hd => ?_) (fun g og hgg hc hd hs => ?_) v hg
  · constructor
    · intro hs
      apply Decidable.byContradiction
      intro hnl
      by_cases e1 : k = i
      · subst e1; exact hni hs
      · have hB := hb.st i k o ok (by omega) hi hk (.inr (.inl ⟨t, hd, hks t hmem⟩))
        exact hni (hI.clo i k (List.getElem?_eq_some_iff.1 hk).1 hs hB)
    · intro hlt'
      exact hrd k (hb.st k i ok o hlt' hk hi (.inl ⟨t, hd, hks t hmem⟩))
  · by_cases e1 : g < i
    · exact hal t hmem g og hgg e1 hc hd hs
    · by_cases e2 : g = i
      · subst e2; exact absurd hs hni
      · have hB := hb.st i g o og (by omega) hi hgg (.inr (.inl ⟨t, hd, hks t hmem⟩))
        exact absurd (hI.clo i g (List.getElem?_eq_some_iff.1 hgg).1 hs hB) hni


theorem keep_mem {e : Env} {ks : List Nat} {t : Nat} (hm : t ∈ ks) : (e.keep ks).get t = e.get t := by
  induction e with
  | nil => rfl
  | cons p e ih =>
    obtain ⟨j, y⟩ := p
    simp only [Env.keep, List.filter_cons] at ih ⊢
    by_cases hj : j = t
    · subst hj
      have : ks.contains j = true := by simpa using hm
      simp only [this, if_true, Env.get]
    · by_cases hk : ks.contains j = true
      · simp only [hk, if_true, Env.get, if_neg hj]; exact ih
      · simp only [hk, Bool.false_eq_true, if_false, Env.get, if_neg hj]; exact ih

theorem wanted_guard {e : Env} {o : IOper} : wantedV (e.keep o.tms) o.guard = wantedV (e.keep (guardTm o.guard)) o.guard := by
  obtain ⟨d, op, g⟩ := o
  cases g with
  | none => rfl
  | some q =>
    obtain ⟨t, x⟩ := q
    simp only [wantedV, IOper.tms, guardTm]
    rw [keep_mem (by simp), keep_mem (by simp)]

theorem StepD.same {p : Nat → Bool} {al : List (Nat × Nat)} {e : Env} {h h' : H} {o : IOper} {v : V} {c : Cls} (hs : StepD p C al e h o v h' c) (hh : heavy c = false) (ha : c ≠ .al) : h' = h := by
  cases hs with
  | skip | pu | rd => rfl
  | al => exact absurd rfl ha
  | wr | ge => cases hh

theorem Inv.adv1 (hI : Inv K N is E Hh Cc B σ0 w0 ls m a w σ G) (ht : Tr K.pure C is E Hh A Vv Cc) (hm : m < is.length) (hnh : heavy (Cc m) = false) (hal : Cc m = .al → inS ls m) :
    ∃ σ', Inv K N is E Hh Cc B σ0 w0 ls (m + 1) a w σ' G := by
  have hmo : is[m]? = some is[m] := by simp [hm]
  obtain ⟨hst, hdn, hE, hA⟩ := ht.step m is[m] hmo
  have hv : ∀ k, k < is.length → heavy (Cc k) = true → (inS ls k ↔ k < m + 1) := by
    intro k hk hhk
    have hne : k ≠ m := by intro e; subst e; rw [hnh] at hhk; cases hhk
    rw [hI.hv k hk hhk]; omega
  by_cases hc : Cc m = .al
  · have hin := hal hc
    obtain ⟨⟨sh, z, d, hop, hz, hzs, hd, hor, hvr⟩, hno, hnw⟩ := hI.gh m is[m] hmo (Nat.le_refl _) hc hin
    have hH : Hh (m + 1) = (Hh m).push (.cells z false false) ∧ Vv m = .ptr (Hh m).n 0 [] sh := by
      revert hst
      generalize Hh (m + 1) = h', Vv m = v
      rw [hc]
      intro hst
      cases hst with
      | al _ h2 =>
        rw [hop] at h2; injection h2 with h2 h3; injection h3 with h3; subst h2 h3
        exact ⟨rfl, rfl⟩
    have hfr := hI.R.fresh (Nat.le_refl (Hh m).n)
    have hx := Ext.put_fresh hfr (G m)
    refine ⟨σ.put (Hh m).n (G m), ⟨hI.size, hm, hI.clo, hv, ?_, hI.df, hI.tm, ?_, hI.ext.trans hx, ?_, ?_, ?_, ?_⟩⟩
    · intro g hg hcg
      by_cases e : g = m
      · subst e; exact hin
      · exact hI.als g (by omega) hcg
    · rw [hH.1]
      exact hI.R.push _ _ (fun _ _ _ => rfl) hno (OR.noId hz hor)
    · refine ⟨hI.fr.os, hI.fr.tape, hI.fr.output, hI.fr.size, hI.fr.block, fun id L hL => ?_⟩
      by_cases e : id = (Hh m).n
      · subst e; rw [Sig.put_same] at hL; injection hL with hL; subst hL; exact .inl hnw
      · rw [Sig.put_ne _ _ e] at hL; exact hI.fr.new id L hL
    · intro j hj t hw hg v hv'
      by_cases e : (is[m]).dst = some t
      · have hmj : m < j := (hw m _ hmo e).1 hin
        have hkk : ∀ k o, m < k → k < j → is[k]? = some o → o.dst ≠ some t := by
          intro k o h1 h2 h3 hd'
          have hmem := ht.al_mem hmo hc e (j := k) h1 (by omega)
          have hh := hits_no (ht.step k o h3).2.1 _ hmem
          rw [hd'] at hh
          exact hh (by simp)
        rw [ht.last hmo e hmj hj hkk, hH.2] at hv'
        injection hv' with hv'; subst hv'
        rw [hd] at e; injection e with e; subst e
        exact hvr _ _ (Sig.put_same _ _ _)
      · refine (hI.env j hj t hw (fun g o hgg hcg hdg hs => ?_) v hv').ext hx
        have := hg g o hgg hcg hdg hs
        by_cases e1 : g = m
        · subst e1; rw [hmo] at hgg; injection hgg with hgg; subst hgg; exact absurd hdg e
        · omega
    · intro g o hgo hmg hcg hs
      obtain ⟨h1, h2, h3⟩ := hI.gh g o hgo (by omega) hcg hs
      refine ⟨h1, fun id M hM => ?_, h3⟩
      by_cases e : id = (Hh m).n
      · subst e; rw [Sig.put_same] at hM; injection hM with hM; subst hM
        exact hI.gd m g (by omega) hm (List.getElem?_eq_some_iff.1 hgo).1 (Nat.le_refl _) (by omega) hc hcg hin hs
      · rw [Sig.put_ne _ _ e] at hM; exact h2 id M hM
    · intro g g' hne hg hg' hmg hmg' hcg hcg' hs hs'
      exact hI.gd g g' hne hg hg' (by omega) (by omega) hcg hcg' hs hs'
  · have hH := hst.same hnh hc
    refine ⟨σ, ⟨hI.size, hm, hI.clo, hv, ?_, hI.df, hI.tm, by rw [hH]; exact hI.R, hI.ext, hI.fr, ?_, fun g o h1 h2 => hI.gh g o h1 (by omega), fun g g' h1 h2 h3 h4 h5 => hI.gd g g' h1 h2 h3 (by omega) (by omega)⟩⟩
    · intro g hg hcg
      have : g ≠ m := by intro e; subst e; exact hc hcg
      exact hI.als g (by omega) hcg
    · intro j hj t hw hg v hv'
      refine hI.env j hj t hw (fun g o hgg hcg hdg hs => ?_) v hv'
      have := hg g o hgg hcg hdg hs
      have : g ≠ m := by intro e; subst e; exact hc hcg
      omega

theorem Inv.adv (ht : Tr K.pure C is E Hh A Vv Cc) : ∀ (n m : Nat) (σ : Sig), Inv K N is E Hh Cc B σ0 w0 ls m a w σ G → m + n ≤ is.length → (∀ k, m ≤ k → k < m + n → heavy (Cc k) = false) → (∀ g, g < m + n → Cc g = .al → inS ls g) →
    ∃ σ', Inv K N is E Hh Cc B σ0 w0 ls (m + n) a w σ' G
  | 0, m, σ, hI, _, _, _ => ⟨σ, hI⟩
  | n + 1, m, σ, hI, hl, hh, hal => by
    obtain ⟨σ1, h1⟩ := hI.adv1 ht (by omega) (hh m (Nat.le_refl _) (by omega)) (hal m (by omega))
    have := Inv.adv ht n (m + 1) σ1 h1 (by omega) (fun k h2 h3 => hh k (by omega) (by omega)) (fun g h2 => hal g (by omega))
    rwa [Nat.add_assoc, Nat.add_comm 1 n] at this

/-- Behind an operation that is no early object. -/
theorem Inv.put (hI : Inv K N is E Hh Cc B σ0 w0 ls m a w σ G) (ht : Tr K.pure C is E Hh A Vv Cc) (hb : Bound ops is B) {i : Nat} {o : IOper} (hi : is[i]? = some o) (hni : ¬ inS ls i) (hrd : ∀ j, B j i → inS ls j)
    (hdN : ∀ d, o.dst = some d → d < N) (hca : Cc i ≠ .al) {m' : Nat} (hmm : m ≤ m') (hm' : m' ≤ is.length) (hv : ∀ k, k < is.length → heavy (Cc k) = true → (inS (ls.setIfInBounds i true) k ↔ k < m'))
    (hal : ∀ g, g < m' → Cc g = .al → g < m) {c : Value} {w' : World} {σ' : Sig} (hR : Rae.R K σ' (Hh m') w') (hE : Ext σ σ') (hF : Fr σ w σ' w') (hV : VR K σ' (Vv i) c) :
    Inv K N is E Hh Cc B σ0 w0 (ls.setIfInBounds i true) m' (a.put o.dst c) w' σ' G := by
  have hlt := (List.getElem?_eq_some_iff.1 hi).1
  have hls : i < ls.size := by rw [hI.size]; exact hlt
  have hsz := put_size a o.dst c
  have hset : ∀ j, inS (ls.setIfInBounds i true) j ↔ j = i ∨ inS ls j := fun j => inS_set hls
  have hsal : ∀ g, Cc g = .al → (inS (ls.setIfInBounds i true) g ↔ inS ls g) := by
    intro g hg; rw [hset]
    constructor
    · rintro (e | e)
      · subst e; exact absurd hg hca
      · exact e
    · exact .inr
  refine ⟨by simp [hI.size], hm', ?_, hv, ?_, hsz.2.trans hI.df, hsz.1.trans hI.tm, hR, hI.ext.trans hE, hI.fr.trans hF, ?_, ?_, ?_⟩
  · intro k j hj hs hB
    rw [hset] at hs ⊢
    rcases hs with e | hs
    · subst e; exact .inr (hrd k hB)
    · exact .inr (hI.clo k j hj hs hB)
  · intro g hg hcg
    rw [hsal g hcg]; exact hI.als g (hal g hg hcg) hcg
  · intro j hj t hw hg v hv'
    by_cases e : o.dst = some t
    · have hij : i < j := (hw i o hi e).1 ((hset i).2 (.inl rfl))
      have hkk : ∀ k o', i < k → k < j → is[k]? = some o' → o'.dst ≠ some t := by
        intro k o' h1 h2 h3 hd'
        have hs := (hw k o' h3 hd').2 h2
        rw [hset] at hs
        rcases hs with e1 | hs
        · omega
        · exact hni (hI.clo i k (List.getElem?_eq_some_iff.1 h3).1 hs (hb.st i k o o' h1 hi h3 (.inr (.inr ⟨t, e, hd'⟩))))
      rw [ht.last hi e hij hj hkk] at hv'
      injection hv' with hv'; subst hv'
      have : (a.put o.dst c).tmps.getD t undef = c := by
        have := hdN t e
        rw [e]; simp [Act.put, hI.tm, this]
      rw [this]; exact hV
    · have : (a.put o.dst c).tmps.getD t undef = a.tmps.getD t undef := by
        cases hd : o.dst with
        | none => rfl
        | some d => simp [Act.put, Array.getElem?_setIfInBounds_ne (show d ≠ t from fun e1 => e (by rw [hd, e1]))]
      rw [this]
      refine (hI.env j hj t (fun k o' hk hd => ?_) (fun g o' hgg hcg hdg hs => ?_) v hv').ext hE
      · rw [← hw k o' hk hd, hset]
        constructor
        · exact .inr
        · rintro (e1 | hs)
          · subst e1; rw [hi] at hk; injection hk with hk; subst hk; exact absurd hd e
          · exact hs
      · exact hal g (hg g o' hgg hcg hdg ((hsal g hcg).2 hs)) hcg
  · intro g o' hgo hmg hcg hs
    rw [hsal g hcg] at hs
    obtain ⟨⟨sh, z, d, hop, hz, hzs, hd, hor, hvr⟩, hno, hnw⟩ := hI.gh g o' hgo (by omega) hcg hs
    have hblk : (G g).blk < w.heap.size := hor.lt
    have hgi : g ≠ i := by intro e; subst e; exact hca hcg
    have htd : (a.put o.dst c).tmps.getD d undef = a.tmps.getD d undef := by
      cases hdd : o.dst with
      | none => rfl
      | some d' =>
        have hne : d' ≠ d := by
          intro e; subst e
          by_cases hgl : g < i
          · have hmem := ht.al_mem hgo hcg hd (j := i) hgl (by omega)
            have hh := hits_no (ht.step i o hi).2.1 _ hmem
            rw [hdd] at hh; exact hh (by simp)
          · exact hni (hI.clo i g (List.getElem?_eq_some_iff.1 hgo).1 hs (hb.st i g o o' (by omega) hi hgo (.inr (.inr ⟨d', hdd, hd⟩))))
        simp [Act.put, Array.getElem?_setIfInBounds_ne hne]
    refine ⟨⟨sh, z, d, hop, hz, hzs, hd, hor.block (hF.block _ hblk (fun id M hM _ => hno id M hM)), fun σ1 id h1 => by rw [htd]; exact hvr σ1 id h1⟩, fun id M hM e => ?_, hnw⟩
    rcases hF.new id M hM with h1 | ⟨i0, L0, h0, _, e0⟩
    · omega
    · exact hno i0 L0 h0 (e0.trans e)
  · intro g g' hne hg hg' hmg hmg' hcg hcg' hs hs'
    rw [hsal g hcg] at hs; rw [hsal g' hcg'] at hs'
    exact hI.gd g g' hne hg hg' (by omega) (by omega) hcg hcg' hs hs'

/-- Behind an object that is made ahead of its place. -/
theorem Inv.gal (hI : Inv K N is E Hh Cc B σ0 w0 ls m a w σ G) (ht : Tr K.pure C is E Hh A Vv Cc) (hb : Bound ops is B) {i : Nat} {o : IOper} (hi : is[i]? = some o) (hni : ¬ inS ls i) (hrd : ∀ j, B j i → inS ls j)
    (hdN : ∀ d, o.dst = some d → d < N) (hca : Cc i = .al) {sh : Nat} {z : V} {d : Nat} (hop : o.op = .box sh (.c z)) (hz : noId z = true) (hzs : z.sh = sh) (hd : o.dst = some d)
    {c : Value} {w' : World} {σ1 : Sig} (hR : Rae.R K σ1 (H.empty.push (.cells z false false)) w') (hF : Fr (fun _ => none) w σ1 w') (hV : VR K σ1 (.ptr 0 0 [] sh) c) :
    ∃ G', Inv K N is E Hh Cc B σ0 w0 (ls.setIfInBounds i true) m (a.put o.dst c) w' σ G' := by
  have hlt := (List.getElem?_eq_some_iff.1 hi).1
  have hls : i < ls.size := by rw [hI.size]; exact hlt
  have hsz := put_size a o.dst c
  have hset : ∀ j, inS (ls.setIfInBounds i true) j ↔ j = i ∨ inS ls j := fun j => inS_set hls
  have hmi : m ≤ i := by
    apply Decidable.byContradiction; intro hn
    exact hni (hI.als i (by omega) hca)
  have hbl : ∀ b, b < w.heap.size → w'.heap[b]? = w.heap[b]? := fun b hb => hF.block b hb (fun id L hL => by cases hL)
  simp only [VR, VR1, SR, SR0] at hV
  obtain ⟨L, ad, hs1, rfl, hst, hoff⟩ := hV
  obtain ⟨ob, hg0, hor⟩ := hR.ofLoc hs1
  have : ob = .cells z false false := by
    simp only [H.empty, H.push, H.get] at hg0
    simpa using hg0.symm
  subst this
  have hor' := OR.noId (σ' := fun _ => none) hz hor
  have hnew : w.heap.size ≤ L.blk := by
    rcases hF.new 0 L hs1 with h1 | ⟨_, _, h0, _⟩
    · exact h1
    · cases h0
  have hF' : Fr σ w σ w' := ⟨hF.os, hF.tape, hF.output, hF.size, fun b hb _ => hbl b hb, fun id L hL => .inr ⟨id, L, hL, rfl, rfl⟩⟩
  refine ⟨fun g => if g = i then L else G g, ⟨by simp [hI.size], hI.mn, ?_, ?_, ?_, hsz.2.trans hI.df, hsz.1.trans hI.tm, hI.R.frame (fun id M hM => hbl _ (hI.R.lt hM)), hI.ext, hI.fr.trans hF', ?_, ?_, ?_⟩⟩
  · intro k j hj hs hB
    rw [hset] at hs ⊢
    rcases hs with e | hs
    · subst e; exact .inr (hrd k hB)
    · exact .inr (hI.clo k j hj hs hB)
  · intro k hk hhk
    rw [hset, ← hI.hv k hk hhk]
    constructor
    · rintro (e | e)
      · subst e; rw [hca] at hhk; cases hhk
      · exact e
    · exact .inr
  · intro g hg hcg; rw [hset]; exact .inr (hI.als g hg hcg)
  · intro j hj t hw hg v hv'
    have e : d ≠ t := by
      intro e; subst e
      have := hg i o hi hca hd ((hset i).2 (.inl rfl))
      omega
    have : (a.put o.dst (.pointer (some ad))).tmps.getD t undef = a.tmps.getD t undef := by
      rw [hd]; simp [Act.put, Array.getElem?_setIfInBounds_ne e]
    rw [this]
    refine hI.env j hj t (fun k o' hk hdk => ?_) (fun g o' hgg hcg hdg hs => hg g o' hgg hcg hdg ((hset g).2 (.inr hs))) v hv'
    rw [← hw k o' hk hdk, hset]
    constructor
    · exact .inr
    · rintro (e1 | hs)
      · subst e1; rw [hi] at hk; injection hk with hk; subst hk; rw [hd] at hdk; injection hdk with hdk; exact absurd hdk e
      · exact hs
  · intro g o' hgo hmg hcg hs
    rw [hset] at hs
    by_cases e : g = i
    · subst e
      rw [hi] at hgo; injection hgo with hgo; subst hgo
      simp only [if_true]
      refine ⟨⟨sh, z, d, hop, hz, hzs, hd, hor', fun σ' id h1 => ?_⟩, fun id M hM e => ?_, Nat.le_trans hI.fr.size hnew⟩
      · have : (a.put o.dst (.pointer (some ad))).tmps.getD d undef = .pointer (some ad) := by
          have := hdN d hd
          rw [hd]; simp [Act.put, hI.tm, this]
        rw [this]
        simp only [VR, VR1, SR, SR0]
        exact ⟨L, ad, h1, rfl, hst, hoff⟩
      · have := hI.R.lt hM; omega
    · have hs := hs.resolve_left e
      simp only [if_neg e]
      obtain ⟨⟨sh', z', d', hop', hz', hzs', hd', hor1, hvr⟩, hno, hnw⟩ := hI.gh g o' hgo hmg hcg hs
      have hne : d ≠ d' := by
        intro e1; subst e1
        by_cases hgl : g < i
        · have hmem := ht.al_mem hgo hcg hd' (j := i) hgl (by omega)
          have hh := hits_no (ht.step i o hi).2.1 _ hmem
          rw [hd] at hh; exact hh (by simp)
        · exact hni (hI.clo i g (List.getElem?_eq_some_iff.1 hgo).1 hs (hb.st i g o o' (by omega) hi hgo (.inr (.inr ⟨d, hd, hd'⟩))))
      have htd : (a.put o.dst (.pointer (some ad))).tmps.getD d' undef = a.tmps.getD d' undef := by
        rw [hd]; simp [Act.put, Array.getElem?_setIfInBounds_ne hne]
      exact ⟨⟨sh', z', d', hop', hz', hzs', hd', hor1.block (hbl _ hor1.lt), fun σ' id h1 => by rw [htd]; exact hvr σ' id h1⟩, hno, hnw⟩
  · intro g g' hne hg hg' hmg hmg' hcg hcg' hs hs'
    rw [hset] at hs hs'
    have key : ∀ k, k ≠ i → k < is.length → m ≤ k → Cc k = .al → inS ls k → (G k).blk < w.heap.size := by
      intro k _ hk hmk hck hsk
      obtain ⟨⟨_, _, _, _, _, _, _, hor1, _⟩, _, _⟩ := hI.gh k is[k] (by simp [hk]) hmk hck hsk
      exact hor1.lt
    by_cases e : g = i
    · have e' : g' ≠ i := fun e' => hne (e.trans e'.symm)
      simp only [if_pos e, if_neg e']
      have := key g' e' hg' hmg' hcg' (hs'.resolve_left e')
      omega
    · by_cases e' : g' = i
      · simp only [if_neg e, if_pos e']
        have := key g e hg hmg hcg (hs.resolve_left e)
        omega
      · simp only [if_neg e, if_neg e']
        exact hI.gd g g' hne hg hg' hmg hmg' hcg hcg' (hs.resolve_left e) (hs'.resolve_left e')

end
end Go.Rae

/- Regions whose operations may run in any order: the end. -/
namespace Go.Rae
open Go

/-- How many are not done yet. -/
def unl (ls : Array Bool) : Nat → Nat
  | 0 => 0
  | n + 1 => unl ls n + (if ls.getD n false then 0 else 1)

theorem unl_ge {ls : Array Bool} {i : Nat} : ∀ n, n ≤ i → unl (ls.setIfInBounds i true) n = unl ls n
  | 0, _ => rfl
  | n + 1, h => by
    have hne : i ≠ n := by omega
    have ih := unl_ge (ls := ls) (i := i) n (by omega)
    simp only [unl, ih, Array.getD_eq_getD_getElem?, Array.getElem?_setIfInBounds_ne hne]

theorem unl_lt {ls : Array Bool} {i : Nat} (hi : i < ls.size) (hn : ¬ inS ls i) : ∀ n, i < n → unl (ls.setIfInBounds i true) n + 1 = unl ls n
  | 0, h => by omega
  | n + 1, h => by
    by_cases e : i = n
    · subst e
      simp only [unl, unl_ge i (Nat.le_refl _)]
      have h1 : ls.getD i false = false := by unfold inS at hn; simpa using hn
      have h2 : (ls.setIfInBounds i true).getD i false = true := by simp [hi]
      rw [h1, h2]; simp
    · have := unl_lt hi hn n (by omega)
      simp only [unl, Array.getD_eq_getD_getElem?, Array.getElem?_setIfInBounds_ne e] at this ⊢
      omega

theorem unl_zero {ls : Array Bool} : ∀ {n : Nat}, unl ls n = 0 → ∀ i, i < n → inS ls i
  | 0, _, i, hi => by omega
  | n + 1, h, i, hi => by
    simp only [unl] at h
    by_cases e : i = n
    · subst e
      unfold inS
      cases hx : ls.getD i false with
      | true => rfl
      | false => rw [hx] at h; simp at h
    · exact unl_zero (n := n) (by omega) i (by omega)

theorem All2.at2 {α β : Type} {p : α → β → Prop} {l : List α} {m : List β} (k : All2 p l m) : ∀ {i : Nat} {b : β}, m[i]? = some b → ∃ a, l[i]? = some a ∧ p a b := by
  induction k with
  | nil => intro i a h; simp at h
  | cons h _ ih =>
    intro i a hi
    cases i with
    | zero => simp only [List.getElem?_cons_zero, Option.some.injEq] at hi; subst hi; exact ⟨_, rfl, h⟩
    | succ i => simp only [List.getElem?_cons_succ] at hi ⊢; exact ih hi

section
variable {K : Ctx} {C : Orc} {N : Nat} {ops : Array Oper} {is : List IOper} {E : Nat → Env} {Hh : Nat → H} {A : Nat → List (Nat × Nat)} {Vv : Nat → V} {Cc : Nat → Cls}
variable {B : Nat → Nat → Prop} {σ0 : Sig} {w0 : World} {ls : Array Bool} {m : Nat} {a : Act} {w : World} {σ : Sig} {G : Nat → Loc}

theorem swap_hv {c d : Cls} (hc : heavy c = true) (hd : heavy d = true) : swapOk c d = false := by
  cases c <;> first | (cases hc; done) | (cases d <;> first | rfl | (cases hd; done))

theorem swap_al {d : Cls} (hd : heavy d = true) : swapOk .al d = false := by
  cases d <;> first | rfl | (cases hd; done)

theorem get_push_ne {h : H} {o : Obj} {id : Nat} (hne : id ≠ h.n) : (h.push o).get id = h.get id := by
  unfold H.push H.get
  simp only
  by_cases hlt : id < h.n
  · rw [if_pos (by omega), if_pos hlt]
    have : h.n + 1 - 1 - id = (h.n - 1 - id) + 1 := by omega
    rw [this, List.getElem?_cons_succ]
  · rw [if_neg (by omega), if_neg hlt]

/-- One step of the heap leaves an object that is read as it was. -/
theorem get_one {p : Nat → Bool} {al : List (Nat × Nat)} {e : Env} {h h' : H} {o : IOper} {v : V} {c : Cls} {id : Nat} (hs : StepD p C al e h o v h' c)
    (hal : c = .al → id ≠ h.n) (hsw : heavy c = true → swapOk c (.rd id) = true ∨ swapOk (.rd id) c = true) : h'.get id = h.get id := by
  cases hs with
  | skip | pu | rd => rfl
  | al => exact get_push_ne (hal rfl)
  | @wr v' id' h'' _ _ h3 =>
    refine h3 id ?_
    intro e; subst e
    rcases hsw rfl with h1 | h1 <;> simp [swapOk] at h1
  | ge =>
    rcases hsw rfl with h1 | h1 <;> exact (osame_eq _ _ h1).symm

theorem get_down (ht : Tr K.pure C is E Hh A Vv Cc) {id : Nat} : ∀ (d m : Nat), m + d ≤ is.length → (∀ k, m ≤ k → k < m + d → (Cc k = .al → id ≠ (Hh k).n) ∧ (heavy (Cc k) = true → swapOk (Cc k) (.rd id) = true ∨ swapOk (.rd id) (Cc k) = true)) → (Hh (m + d)).get id = (Hh m).get id
  | 0, m, _, _ => rfl
  | d + 1, m, hl, hk => by
    have hml : m + d < is.length := by omega
    obtain ⟨hs, _⟩ := ht.step (m + d) is[m + d] (by simp [hml])
    obtain ⟨h1, h2⟩ := hk (m + d) (by omega) (by omega)
    rw [← Nat.add_assoc, get_one hs h1 h2, get_down ht d m (by omega) (fun k h3 h4 => hk k h3 (by omega))]

theorem get_up (ht : Tr K.pure C is E Hh A Vv Cc) {id : Nat} : ∀ (d i : Nat), i + d ≤ is.length → ((Hh i).get id).isSome = true → (∀ k, i ≤ k → k < i + d → (heavy (Cc k) = true → swapOk (Cc k) (.rd id) = true ∨ swapOk (.rd id) (Cc k) = true)) → (Hh (i + d)).get id = (Hh i).get id
  | 0, i, _, _, _ => rfl
  | d + 1, i, hl, hsm, hk => by
    have hml : i + d < is.length := by omega
    obtain ⟨hs, _⟩ := ht.step (i + d) is[i + d] (by simp [hml])
    have ih := get_up ht d i (by omega) hsm (fun k h3 h4 => hk k h3 (by omega))
    rw [← Nat.add_assoc, get_one hs ?_ (hk (i + d) (by omega) (by omega)), ih]
    intro _ e
    rw [← ih] at hsm
    cases hg : (Hh (i + d)).get id with
    | none => rw [hg] at hsm; cases hsm
    | some o => have := H.get_lt hg; omega

theorem any_ok (hK : K.flat) (hC : SoundO K C) (hG0 : GL K σ0 w0) (ht : Tr K.pure C is E Hh A Vv Cc) (hb : Bound ops is B) (hok : All2 (OperOK K N ops) is ops.toList)
    (hsw : ∀ i j, i < j → j < is.length → swapOk (Cc i) (Cc j) = true ∨ B i j) {Q : Exit → Act → World → Prop}
    (hQ : ∀ a w σ, R K σ (Hh is.length) w → Ext σ0 σ → Fr σ0 w0 σ w → a.defers = [] → a.tmps.size = N → ER K σ (E is.length) a → Q .normal a w) :
    ∀ (fuel : Nat) (ls : Array Bool) (m : Nat) (a : Act) (w : World) (σ : Sig) (G : Nat → Loc), Inv K N is E Hh Cc B σ0 w0 ls m a w σ G → unl ls is.length ≤ fuel → wpAny K.P .any ops Q fuel ls a w := by
  have hsz : is.length = ops.size := by have := hok.len; simpa using this
  -- the end
  have fin : ∀ ls m a w σ G, Inv K N is E Hh Cc B σ0 w0 ls m a w σ G → (∀ i, i < is.length → inS ls i) → Q .normal a w := by
    intro ls m a w σ G hI hall
    have hmn := hI.mn
    obtain ⟨σ', hI'⟩ := hI.adv ht (is.length - m) m σ (by omega) (fun k h1 h2 => by
        cases hh : heavy (Cc k) with
        | false => rfl
        | true => have := (hI.hv k (by omega) hh).1 (hall k (by omega)); omega) (fun g h1 _ => hall g (by omega))
    have e1 : m + (is.length - m) = is.length := by omega
    rw [e1] at hI'
    refine hQ a w σ' hI'.R hI'.ext hI'.fr hI'.df hI'.tm (fun t v hv => hI'.env is.length (Nat.le_refl _) t (fun i o hi _ => ?_) (fun g o hg _ _ _ => ?_) v hv)
    · have := (List.getElem?_eq_some_iff.1 hi).1
      exact ⟨fun _ => this, fun _ => hall i this⟩
    · exact (List.getElem?_eq_some_iff.1 hg).1
  -- who may run when none is ready
  have full : ∀ ls m a w σ G, Inv K N is E Hh Cc B σ0 w0 ls m a w σ G → Region.ready .any ops ls = [] → ∀ i, i < is.length → inS ls i := by
    intro ls m a w σ G hI hr i
    induction i using Nat.strongRecOn with
    | _ i ih =>
      intro hi
      apply Classical.byContradiction
      intro hn
      have : i ∈ Region.ready .any ops ls := by
        rw [ready_iff (by rw [hI.size, hsz])]
        refine ⟨ops[i], by simp [← hsz, hi], hn, fun e he hbd => ?_⟩
        have := hb.ix i ops[i] (by simp [← hsz, hi]) e he hbd
        exact ih e.on this (by omega)
      rw [hr] at this; cases this
  intro fuel
  induction fuel with
  | zero =>
    intro ls m a w σ G hI hu
    have hall := unl_zero (ls := ls) (n := is.length) (by omega)
    refine ⟨?_, fin ls m a w σ G hI hall⟩
    apply List.eq_nil_iff_forall_not_mem.2
    intro i hi
    rw [ready_iff (by rw [hI.size, hsz])] at hi
    obtain ⟨o, ho, hn, _⟩ := hi
    exact hn (hall i (by rw [hsz]; exact (Array.getElem?_eq_some_iff.1 ho).1))
  | succ fuel ih =>
    intro ls m a w σ G hI hu
    refine ⟨fun hr => fin ls m a w σ G hI (full ls m a w σ G hI hr), fun i hir => ?_⟩
    rw [ready_iff (by rw [hI.size, hsz])] at hir
    obtain ⟨oc, hoc, hni, haf⟩ := hir
    obtain ⟨o, ho, hop⟩ := hok.at2 (i := i) (b := oc) (by simpa using hoc)
    have hlt := (List.getElem?_eq_some_iff.1 ho).1
    have hls : i < ls.size := by rw [hI.size]; exact hlt
    have hdN : ∀ d, o.dst = some d → d < N := fun d hd => hop.2.1 d (by rw [← hop.1]; exact hd)
    have hu' : unl (ls.setIfInBounds i true) is.length ≤ fuel := by
      have := unl_lt hls hni is.length hlt; omega
    have hrd : ∀ j, B j i → inS ls j := by
      intro j hB
      obtain ⟨e, he, hbd, h1⟩ := hb.cl i oc hoc j hB
      have hon := haf e he hbd
      rcases h1 with h1 | h1
      · rw [← h1]; exact hon
      · have := hb.ix i oc hoc e he hbd
        exact hI.clo j e.on (by omega) hon h1
    have hset : ∀ j, inS (ls.setIfInBounds i true) j ↔ j = i ∨ inS ls j := fun j => inS_set hls
    obtain ⟨hst, hdn, hE, hA⟩ := ht.step i o ho
    -- heavy ones of which none is between
    have light : heavy (Cc i) = false → (∀ k, k < is.length → heavy (Cc k) = true → (inS (ls.setIfInBounds i true) k ↔ k < m)) := by
      intro hh k hk hhk
      rw [hset, ← hI.hv k hk hhk]
      constructor
      · rintro (e | e)
        · subst e; rw [hh] at hhk; cases hhk
        · exact e
      · exact .inr
    have noal : ∀ ts, hits (A i) ts = false → ∀ t ∈ ts, ∀ g o', is[g]? = some o' → g < i → Cc g = .al → o'.dst = some t → inS ls g → g < m := by
      intro ts hh t htm g o' hg hgi hcg hd _
      exact absurd htm (hits_no hh _ (ht.al_mem hg hcg hd hgi (by omega)))
    have erG : hits (A i) (guardTm o.guard) = false → ER K σ ((E i).keep (guardTm o.guard)) a := fun hh =>
      hI.er hb ho hni hrd _ (fun t htm => by simp only [IOper.tms, List.mem_append]; exact .inl htm) (noal _ hh)
    have erT : hits (A i) o.tms = false → ER K σ ((E i).keep o.tms) a := fun hh =>
      hI.er hb ho hni hrd _ (fun t htm => htm) (noal _ hh)
    have hmn := hI.mn
    have hHm : heavy (Cc i) = true → m ≤ i := fun hh => by
      apply Decidable.byContradiction; intro hn
      exact hni ((hI.hv i hlt hh).2 (by omega))
    have advance : heavy (Cc i) = true → ∃ σ', Inv K N is E Hh Cc B σ0 w0 ls i a w σ' G := by
      intro hh
      have hmi := hHm hh
      have := hI.adv ht (i - m) m σ (by omega) (fun k h1 h2 => by
          cases hk : heavy (Cc k) with
          | false => rfl
          | true =>
            rcases hsw k i (by omega) hlt with h3 | h3
            · rw [swap_hv hk hh] at h3; cases h3
            · have := (hI.hv k (by omega) hk).1 (hrd k h3); omega) (fun g h1 hcg => by
          rcases hsw g i (by omega) hlt with h3 | h3
          · rw [hcg, swap_al hh] at h3; cases h3
          · exact hrd g h3)
      have e1 : m + (i - m) = i := by omega
      rwa [e1] at this
    have hvH : ∀ σ', Inv K N is E Hh Cc B σ0 w0 ls i a w σ' G → heavy (Cc i) = true → (∀ k, k < is.length → heavy (Cc k) = true → (inS (ls.setIfInBounds i true) k ↔ k < i + 1)) := by
      intro σ' hI' _ k hk hhk
      rw [hset, hI'.hv k hk hhk]; omega
    have erH : ∀ σ', Inv K N is E Hh Cc B σ0 w0 ls i a w σ' G → ER K σ' ((E i).keep o.tms) a := fun σ' hI' =>
      hI'.er hb ho hni hrd _ (fun t htm => htm) (fun t _ g o' _ hgi _ _ _ => hgi)
    have doHeavy : ∀ c v h', Cc i = c → heavy c = true → Vv i = v → Hh (i + 1) = h' → wantedV ((E i).keep o.tms) o.guard = some true → aop K.pure C ((E i).keep o.tms) (Hh i) o.op = some (v, h') →
        wpOp K.P ops Q i (wpAny K.P .any ops Q fuel (ls.setIfInBounds i true)) a w := by
      intro c v h' hc hh hv hh' hw ha
      obtain ⟨σ', hI'⟩ := advance (by rw [hc]; exact hh)
      refine do_op hK hC hoc hop (erH σ' hI') hw ha (hG0.fr hI'.fr) hI'.R (erH σ' hI') ?_
      intro cv w' σ'' hR hEx hFr hV
      refine ih _ (i + 1) _ _ σ'' G (hI'.put ht hb ho hni hrd hdN (by rw [hc]; intro e; rw [e] at hh; cases hh) (by omega) (by omega) (hvH σ' hI' (by rw [hc]; exact hh)) ?_ (by rw [hh']; exact hR) hEx hFr (by rw [hv]; exact hV)) hu'
      intro g hg hcg
      have : g ≠ i := by intro e; subst e; rw [hc] at hcg; rw [hcg] at hh; cases hh
      omega
    generalize hc : Cc i = c, hv : Vv i = v, hh : Hh (i + 1) = h' at hst
    cases hst with
    | skip hw hhit =>
      rw [wanted_guard] at hw
      refine skip_op hoc hop (erG hhit) hw ?_
      refine ih _ m _ _ σ G (hI.put ht hb ho hni hrd hdN (by rw [hc]; exact nofun) (Nat.le_refl _) hI.mn (light (by rw [hc]; rfl)) (fun g hg _ => hg) hI.R (Ext.refl σ) (Fr.refl σ w) ?_) hu'
      rw [hv]
      simp only [unit, VR]; exact ⟨#[], rfl, .nil⟩
    | pu hw ha hhit =>
      refine do_op hK hC hoc hop (erT hhit) hw (ha (Hh m)) (hG0.fr hI.fr) hI.R (erT hhit) ?_
      intro cv w' σ' hR hEx hFr hV
      exact ih _ m _ _ σ' G (hI.put ht hb ho hni hrd hdN (by rw [hc]; exact nofun) (Nat.le_refl _) hI.mn (light (by rw [hc]; rfl)) (fun g hg _ => hg) hR hEx hFr (by rw [hv]; exact hV)) hu'
    | @rd _ id hw hsm ha hhit hal =>
      have hget : (Hh m).get id = (Hh i).get id := by
        by_cases hmi : m ≤ i
        · have := get_down (id := id) ht (i - m) m (by omega) (fun k h1 h2 => ⟨fun hck e => ?_, fun hhk => ?_⟩)
          · rw [show m + (i - m) = i by omega] at this; exact this.symm
          · have hkl : k < is.length := by omega
            have hst' := (ht.step k is[k] (by simp [hkl])).1
            have : ∃ d, (is[k]).dst = some d := by
              revert hst'
              generalize Vv k = v', Hh (k + 1) = h''
              rw [hck]; intro hst'
              cases hst' with
              | al _ _ _ _ _ hd => exact ⟨_, hd⟩
            obtain ⟨d, hd⟩ := this
            exact hal _ (ht.al_mem (g := k) (by simp [hkl]) hck hd (j := i) (by omega) (by omega)) e.symm
          · rcases hsw k i (by omega) hlt with h3 | h3
            · rw [hc] at h3; exact .inl h3
            · have := (hI.hv k (by omega) hhk).1 (hrd k h3); omega
        · have := get_up (id := id) ht (m - i) i (by omega) hsm (fun k h1 h2 hhk => ?_)
          · rw [show i + (m - i) = m by omega] at this; exact this
          · have hki : k ≠ i := by intro e; subst e; rw [hc] at hhk; cases hhk
            have hin := (hI.hv k (by omega) hhk).2 (by omega)
            rcases hsw i k (by omega) (by omega) with h3 | h3
            · rw [hc] at h3; exact .inr h3
            · exact absurd (hI.clo i k (by omega) hin h3) hni
      refine do_op hK hC hoc hop (erT hhit) hw (ha (Hh m) hget) (hG0.fr hI.fr) hI.R (erT hhit) ?_
      intro cv w' σ' hR hEx hFr hV
      exact ih _ m _ _ σ' G (hI.put ht hb ho hni hrd hdN (by rw [hc]; exact nofun) (Nat.le_refl _) hI.mn (light (by rw [hc]; rfl)) (fun g hg _ => hg) hR hEx hFr (by rw [hv]; exact hV)) hu'
    | @al sh z d hw hopz hz hzs hzt hd hhit =>
      rw [wanted_guard] at hw
      refine do_op (σ1 := fun _ => none) (h1 := H.empty) (e1 := []) (v := .ptr 0 0 [] sh) (h' := H.empty.push (.cells z false false)) hK hC hoc hop (erG hhit) hw ?_ (hG0.fr hI.fr).none (R.empty K w) (fun k v hk => by cases hk) ?_
      · rw [hopz]; simp only [aop, ev, hzs, hzt, and_self, if_true]; rfl
      · intro cv w' σ' hR hEx hFr hV
        obtain ⟨G', hI'⟩ := hI.gal ht hb ho hni hrd hdN hc hopz hz hzs hd hR hFr hV
        exact ih _ m _ _ σ G' hI' hu'
    | wr hw ha => exact doHeavy _ _ _ hc rfl hv hh hw ha
    | ge hw ha => exact doHeavy _ _ _ hc rfl hv hh hw ha

end
end Go.Rae
