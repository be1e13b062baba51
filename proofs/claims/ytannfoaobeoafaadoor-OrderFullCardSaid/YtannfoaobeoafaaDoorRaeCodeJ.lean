/- The intermediate operations stand for the model's: what makes one fit the other, and that the evaluator's step is the model's. -/
import Derived.Test.YtannfoaobeoafaaDoorRaeOpsJ
set_option linter.unusedVariables false
set_option linter.unusedSimpArgs false
namespace Go.Rae
open Go

section
variable (K : Ctx)

/-- The environment's values are the frame's. -/
def ER (σ : Sig) (e : Env) (a : Act) : Prop := ∀ k v, e.get k = some v → VR K σ v (a.tmps.getD k undef)

/-- An operand fits. -/
inductive OdOK : Od → Operand → Prop
  | t {n} : OdOK (.t n) (.tmp n)
  | c {v c} : (∀ σ, VR K σ v c) → OdOK (.c v) (.const c)
  | f {id} : OdOK (.f id) (.func (K.fid id))

inductive OdsOK : List Od → List Operand → Prop
  | nil : OdsOK [] []
  | cons {x y l m} : OdOK K x y → OdsOK l m → OdsOK (x :: l) (y :: m)

inductive OvOK : Option Od → Option Operand → Prop
  | none : OvOK none none
  | some {x y} : OdOK K x y → OvOK (some x) (some y)

inductive PsOK : List (Nat × Od) → List (Nat × Operand) → Prop
  | nil : PsOK [] []
  | cons {i x y l m} : OdOK K x y → PsOK l m → PsOK ((i, x) :: l) ((i, y) :: m)

/-- A struct type's fields, as shapes. -/
structure StF (t sh : Nat) (fs : List Nat) : Prop where
  S : K.S sh = .str fs
  ex : ∃ flds : Array Field, K.P.underlying t = some (.struct flds) ∧ flds.size = fs.length ∧
    ∀ (k : Nat) (f : Field), flds[k]? = some f → ∃ s b, fs[k]? = some s ∧ f.offset = ((fs.take k).map K.sz).sum ∧ TyF K f.type s b ∧ K.sz s ≠ 0

/-- An operation fits. -/
inductive OpOK : IOp → Op → Prop
  | mv {x y} : OdOK K x y → OpOK (.mv x) (.move y)
  | asg {x y} : OdOK K x y → OpOK (.mv x) (.assign y)
  | pick {c c' a a' b b'} : OdOK K c c' → OdOK K a a' → OdOK K b b' → OpOK (.pick c a b) (.pick c' a' b')
  | box {sh t b x y} : TyF K t sh b → OdOK K x y → OpOK (.box sh x) (.box t y)
  | alloc {sh t b z} : TyF K t sh b → ZF K t z → OpOK (.box sh (.c z)) (.alloc t)
  | build {sh t fs z ps cps} : StF K t sh fs → ZF K t (.agg sh z) → PsOK K ps cps.toList → OpOK (.build sh z ps) (.build t cps)
  | bsl {d e t b n el z ps cps} : K.P.underlying t = some (.slice el) → TyF K el e b → ZF K el z → z.sh = e → K.S d = .dyn e → 0 < K.sz e → n * K.sz e ≤ 2 ^ 24 → PsOK K ps cps.toList → OpOK (.bsl d e z n ps) (.buildSlice t n cps)
  | load {sh t b x y} : TyF K t sh b → OdOK K x y → OpOK (.load sh x) (.load t y)
  | store {sh t b x y a c} : TyF K t sh b → OdOK K x y → OdOK K a c → OpOK (.store sh x a) (.store t y c)
  | nilck {x y} : OdOK K x y → OpOK (.nilck x) (.nilCheck y)
  | bin {op t t' x y a b} : OdOK K x y → OdOK K a b → OpOK (.bin op x a) (.binOp op t y b t')
  | eqv {d sh neg t t' x y a b} : DT K d t sh → d < 10000 → 10 < sh → sh ≠ 65535 → K.P.eqGuardType K.P.depth t = false → OdOK K x y → OdOK K a b → OpOK (.eqv sh neg x a) (.binOp (if neg then .neq else .eql) t y b t')
  | eqb {neg t t' x y a b} : K.P.underlying t = some .bool → OdOK K x y → OdOK K a b → OpOK (.eqb neg x a) (.binOp (if neg then .neq else .eql) t y b t')
  | eqn {k neg t t' d x y a b} : K.P.underlying t = some d → nilKind k d → ((∃ v, y = .const v) ∨ (∃ v, b = .const v)) → OdOK K x y → OdOK K a b → OpOK (.eqn k neg x a) (.binOp (if neg then .neq else .eql) t y b t')
  | un {op t x y} : OdOK K x y → OpOK (.un op x) (.unOp op t y)
  | cint {k src dst d x y} : K.P.underlying src = some d → K.P.underlying dst = some (.int k) → OdOK K x y → OpOK (.cint k x) (.convert src dst y)
  | cid {src dst d x y} : K.P.underlying src = some d → K.P.underlying dst = some .string → OdOK K x y → OpOK (.cid x) (.convert src dst y)
  | cbs {src dst el x y} : K.P.underlying src = some (.slice el) → K.P.underlying dst = some .string → K.P.underlying el = some (.int .u8) → OdOK K x y → OpOK (.cbs x) (.convert src dst y)
  | csb {dn src dst el d x y} : K.P.underlying src = some d → K.P.underlying dst = some (.slice el) → K.P.underlying el = some (.int .u8) → K.S dn = .dyn 7 → OdOK K x y → OpOK (.csb dn x) (.convert src dst y)
  | ifc {tid t d x y} : K.P.underlying t = some d → (∀ ms, d ≠ .interface ms) → K.tid tid = t → OdOK K x y → OpOK (.ifc tid x) (.makeInterface t y)
  | mkf {f g caps ccaps} : K.fid f = g → OdsOK K caps ccaps.toList → OpOK (.mkf f caps) (.makeFunc (.func g) #[] ccaps)
  | msl {d e z b t el x y a c} : K.P.underlying t = some (.slice el) → TyF K el e b → ZF K el z → z.sh = e → K.S d = .dyn e → 0 < K.sz e → OdOK K x y → OdOK K a c → OpOK (.msl d e z b x a) (.makeSlice t y c)
  | slS {t x y lo lo' hi hi'} : K.P.underlying t = some .string → OdOK K x y → OvOK K lo lo' → OvOK K hi hi' → OpOK (.slS x lo hi) (.slice t y lo' hi' none)
  | slL {t el e b x y lo lo' hi hi' mx mx'} : K.P.underlying t = some (.slice el) → TyF K el e b → OdOK K x y → OvOK K lo lo' → OvOK K hi hi' → OvOK K mx mx' → OpOK (.slL e x lo hi mx) (.slice t y lo' hi' mx')
  | slA {t el a e n b x y lo lo' hi hi' mx mx'} : K.P.underlying t = some (.array n el) → K.S a = .arr n e → TyF K el e b → OdOK K x y → OvOK K lo lo' → OvOK K hi hi' → OvOK K mx mx' → OpOK (.slA a e n x lo hi mx) (.slice t y lo' hi' mx')
  | fa {t sh fs k s x y} : StF K t sh fs → fs[k]? = some s → OdOK K x y → OpOK (.fa sh k s x) (.fieldAddr t y k)
  | fld {t sh fs k x y} : StF K t sh fs → OdOK K x y → OpOK (.fld sh k x) (.field t y k)
  | iaA {t el a e n b x y i j} : K.P.underlying t = some (.array n el) → K.S a = .arr n e → TyF K el e b → OdOK K x y → OdOK K i j → OpOK (.iaA a e n x i) (.indexAddr t y j)
  | iaL {t el e b x y i j} : K.P.underlying t = some (.slice el) → TyF K el e b → OdOK K x y → OdOK K i j → OpOK (.iaL e x i) (.indexAddr t y j)
  | ixA {t el a e n b x y i j} : K.P.underlying t = some (.array n el) → K.S a = .arr n e → TyF K el e b → OdOK K x y → OdOK K i j → OpOK (.ixA a n x i) (.index t y j)
  | ixS {t x y i j} : K.P.underlying t = some .string → OdOK K x y → OdOK K i j → OpOK (.ixS x i) (.index t y j)
  | ext {x y i} : OdOK K x y → OpOK (.ext x i) (.extract y i)
  | call {f f' args cargs ats} : OdOK K f f' → OdsOK K args cargs.toList → OpOK (.call f args) (.call ⟨.value f', cargs, ats⟩)
  | lenS {t x y} : K.P.underlying t = some .string → OdOK K x y → OpOK (.lenS x) (.call ⟨.builtin .len, #[y], #[t]⟩)
  | lenL {t el x y} : K.P.underlying t = some (.slice el) → OdOK K x y → OpOK (.lenL x) (.call ⟨.builtin .len, #[y], #[t]⟩)
  | app {d e b z sT xT el dd x y a c} : K.P.underlying sT = some (.slice el) → K.P.underlying xT = some dd → (∀ k, dd ≠ .int k) → TyF K el e b → ZF K el z → z.sh = e → 0 < b → K.S d = .dyn e → OdOK K x y → OdOK K a c → OpOK (.app d e b x a) (.call ⟨.builtin .append, #[y, c], #[sT, xT]⟩)
  | appS {d b z sT xT el dd x y a c} : K.P.underlying sT = some (.slice el) → K.P.underlying xT = some dd → (∀ k, dd ≠ .int k) → TyF K el 7 b → ZF K el z → z.sh = 7 → 0 < b → K.S d = .dyn 7 → OdOK K x y → OdOK K a c → OpOK (.appS d b x a) (.call ⟨.builtin .append, #[y, c], #[sT, xT]⟩)
  | cpy {e b dT sT el x y a c} : K.P.underlying dT = some (.slice el) → TyF K el e b → OdOK K x y → OdOK K a c → OpOK (.cpy e x a) (.call ⟨.builtin .copy, #[y, c], #[dT, sT]⟩)
  | cpyS {b dT sT el x y a c} : K.P.underlying dT = some (.slice el) → TyF K el 7 b → OdOK K x y → OdOK K a c → OpOK (.cpyS x a) (.call ⟨.builtin .copy, #[y, c], #[dT, sT]⟩)
  | mx {args cargs ats} : OdsOK K args cargs.toList → OpOK (.mx args) (.call ⟨.builtin .max, cargs, ats⟩)
  | no {o} : OpOK .no o
  | rngS {t x y} : K.P.underlying t = some .string → OdOK K x y → OpOK (.rngS x) (.range t y)
  | nxtS {x y} : OdOK K x y → OpOK (.nxtS x) (.next y true)
  | mn {args cargs ats} : OdsOK K args cargs.toList → OpOK (.mn args) (.call ⟨.builtin .min, cargs, ats⟩)

/-- A function of the program that may be called. -/
def Callable (f : Nat) : Prop := ∃ fn c, K.P.funcs[K.fid f]? = some fn ∧ fn.body = some c ∧ (fn.name == "runtime.NumGoroutine") = false

/-- The variables of the program that are set once lie where they lie. -/
structure GL (σ : Sig) (w : World) : Prop where
  at_ : ∀ b o, K.gl b = some o → w.heap[b]? = some o
  ap : ∀ id L, σ id = some L → L.ro = false → K.gl L.blk = none

/-- What an oracle says of a call is so. -/
def Sound1 (f : Nat) (args : List V) (h : H) (v : V) (h' : H) : Prop :=
  ∀ σ w (cargs : Array Value), GL K σ w → R K σ h w → All2 (VR1 K σ) args cargs.toList →
    Calls K.P (K.fid f) cargs w fun e w' => ∃ c σ', e = .returned c ∧ R K σ' h' w' ∧ Ext σ σ' ∧ Fr σ w σ' w' ∧ VR K σ' v c

def SoundO (C : Orc) : Prop := ∀ f args h v h', C f args h = some (v, h') → Callable K f ∧ Sound1 K f args h v h'

end

section
variable {K : Ctx} {σ : Sig} {h : H} {w : World} {e : Env} {a : Act}

theorem GL.fr {σ' : Sig} {w' : World} (hG : GL K σ w) (hF : Fr σ w σ' w') : GL K σ' w' := by
  refine ⟨fun b o hb => ?_, fun id L hL hr => ?_⟩
  · have h1 := hG.at_ b o hb
    have hlt : b < w.heap.size := (Array.getElem?_eq_some_iff.1 h1).1
    rw [hF.block b hlt (fun id L hL hr e => by have := hG.ap id L hL hr; rw [e, hb] at this; cases this)]
    exact h1
  · rcases hF.new id L hL with h1 | ⟨i, L0, h0, hr0, e0⟩
    · cases hg : K.gl L.blk with
      | none => rfl
      | some o =>
        have h2 := hG.at_ _ _ hg
        have hlt : L.blk < w.heap.size := (Array.getElem?_eq_some_iff.1 h2).1
        omega
    · rw [← e0]; exact hG.ap i L0 h0 (hr0.trans hr)

theorem GL.none (hG : GL K σ w) : GL K (fun _ => .none) w := ⟨hG.at_, fun id L hL => by cases hL⟩

theorem ev_ok (he : ER K σ e a) {x : Od} {y : Operand} (hx : OdOK K x y) {v : V} (hv : ev e x = some v) : VR K σ v (a.eval y) := by
  cases hx with
  | t => exact he _ _ hv
  | c hc => simp only [ev, Option.some.injEq] at hv; subst hv; exact hc σ
  | f =>
    simp only [ev, Option.some.injEq] at hv; subst hv
    simp only [VR, VR1, SR]
    exact ⟨#[], rfl, .nil⟩

theorem VR.one {v : V} {c : Value} (hv : VR K σ v c) (ht : v.isTup = false) : VR1 K σ v c := by
  cases v with
  | tup l => cases ht
  | _ => simpa only [VR] using hv

theorem VR1.all {v : V} {c : Value} (hv : VR1 K σ v c) : VR K σ v c ∧ ∀ l, v ≠ .tup l := by
  cases v with
  | tup l => simp only [VR1, SR, SR0] at hv
  | _ => exact ⟨by simpa only [VR] using hv, fun _ h => by cases h⟩

theorem notTup {v : V} (h : v.isTup = false) : ∀ l, v ≠ .tup l := by intro l e; subst e; cases h

theorem evs_ok (he : ER K σ e a) {xs : List Od} {ys : List Operand} (hx : OdsOK K xs ys) : ∀ {vs : List V}, evs e xs = some vs → All2 (VR1 K σ) vs (ys.map a.eval) := by
  induction hx with
  | nil => intro vs hv; simp only [evs, Option.some.injEq] at hv; subst hv; exact .nil
  | cons h1 _ ih =>
    intro vs hv
    simp only [evs] at hv
    split at hv
    · rename_i v l hv1 hv2
      split at hv
      · cases hv
      · rename_i ht
        injection hv with hv; subst hv
        exact .cons ((ev_ok he h1 hv1).one (by simpa using ht)) (ih hv2)
    · cases hv

theorem evp_ok (he : ER K σ e a) {xs : List (Nat × Od)} {ys : List (Nat × Operand)} (hx : PsOK K xs ys) : ∀ {vs : List (Nat × V)}, evp e xs = some vs →
    All2 (fun (p : Nat × V) (q : Nat × Value) => p.1 = q.1 ∧ VR K σ p.2 q.2 ∧ ∀ l, p.2 ≠ .tup l) vs (ys.map fun p => (p.1, a.eval p.2)) := by
  induction hx with
  | nil => intro vs hv; simp only [evp, Option.some.injEq] at hv; subst hv; exact .nil
  | cons h1 _ ih =>
    intro vs hv
    simp only [evp] at hv
    split at hv
    · rename_i v l hv1 hv2
      split at hv
      · cases hv
      · rename_i ht
        injection hv with hv; subst hv
        exact .cons ⟨rfl, ev_ok he h1 hv1, notTup (by simpa using ht)⟩ (ih hv2)
    · cases hv

theorem evo_ok (he : ER K σ e a) {x : Option Od} {y : Option Operand} (hx : OvOK K x y) {v : Option V} (hv : evo e x = some v) : OV K σ v (y.map a.eval) := by
  cases hx with
  | none => simp only [evo, Option.some.injEq] at hv; subst hv; exact .none
  | some h1 =>
    simp only [evo] at hv
    split at hv
    · rename_i u hu
      injection hv with hv; subst hv
      exact .some (ev_ok he h1 hu)
    · cases hv

theorem All2.map_vr {vs : List V} {cs : List Value} (hx : All2 (VR1 K σ) vs cs) : All2 (VR K σ) vs cs := hx.imp fun _ _ h => h.all.1

theorem sc0_of {v : V} {c : Value} (hv : VR K σ v c) (hs : v.sc0 = true) : SR0 K σ v c := by
  cases v <;> first | (simpa only [VR, VR1, SR] using hv) | cases hs

/-- What the rest of a region wants of an operation's value. -/
def Nx (K : Ctx) (σ : Sig) (w : World) (v : V) (h' : H) (P : Value → World → Prop) : Prop :=
  ∀ c w' σ', R K σ' h' w' → Ext σ σ' → Fr σ w σ' w' → VR K σ' v c → P c w'

theorem Step.upon {P : Program} (hP : P = K.P) {o : Oper} {next : Act → World → Prop} {Q : Exit → Act → World → Prop} {s : Sem Value} {v : V} {h' : H}
    (hs : Step K σ h w v h' (s.run K.P w)) (hn : Nx K σ w v h' fun c w' => next (a.put o.dst c) w') : Oper.upon P o a next Q ((do pure (.value (← s)) : Sem Next).run P w) := by
  subst hP
  obtain ⟨c, w', σ', h1, h2, h3, h4, h5⟩ := hs
  simp only [Sem.run_bind, h1, Result.andThen_ok, Sem.run_pure, Oper.upon]
  exact hn c w' σ' h2 h3 h4 h5

theorem slOf_match {b : V} {e : Nat} (hb : b.slOf e = true) : slE e b := by
  cases b <;> simp only [V.slOf] at hb <;> first | trivial | (simp only [slE]; simpa using hb) | cases hb

theorem Step.upon2 {P : Program} (hP : P = K.P) {o : Oper} {next : Act → World → Prop} {Q : Exit → Act → World → Prop} {s : Sem Value} {v : V} {h' : H}
    (hs : Step K σ h w v h' (s.run K.P w)) (hn : Nx K σ w v h' fun c w' => next (a.put o.dst c) w') : Oper.upon P o a next Q ((s.run P w).andThen fun c w' => .ok (.value c) w') := by
  subst hP
  obtain ⟨c, w', σ', h1, h2, h3, h4, h5⟩ := hs
  simp only [h1, Result.andThen_ok, Oper.upon]
  exact hn c w' σ' h2 h3 h4 h5

theorem H.isAt_read {h : H} {id st : Nat} {p : List Nat} {sh : Nat} (hi : h.isAt id st p sh = true) : ∃ x, h.read id st p = some x ∧ x.sh = sh := by
  unfold H.isAt at hi
  cases hr : h.read id st p with
  | none => rw [hr] at hi; cases hi
  | some x => rw [hr] at hi; exact ⟨x, rfl, by simpa using hi⟩

end
end Go.Rae

/- One operation of the intermediate code is one operation of the model's. -/
namespace Go.Rae
open Go

section
variable {K : Ctx} {σ : Sig} {h : H} {w : World} {e : Env} {a : Act}

theorem StF.offs {t sh k s : Nat} {fs : List Nat} (hs : StF K t sh fs) (hk : fs[k]? = some s) :
    ∃ flds f i, K.P.underlying t = some (.struct flds) ∧ flds[k]? = some f ∧ K.P.info? f.type = some i ∧ i.size ≠ 0 ∧ offs K sh [k] = some (f.offset, s) := by
  obtain ⟨flds, hu, hl, hf⟩ := hs.ex
  have hkl := (List.getElem?_eq_some_iff.1 hk).1
  have hkf : k < flds.size := by omega
  obtain ⟨s', b, h1, h2, h3, h4⟩ := hf k flds[k] (by simp [hkf])
  rw [hk] at h1; cases h1
  obtain ⟨i, d, hi, hd, his, _⟩ := h3.ex
  refine ⟨flds, flds[k], i, hu, by simp [hkf], hi, by omega, ?_⟩
  simp only [Rae.offs, hs.S, hk, h2, Nat.add_zero]

theorem StF.places {t sh : Nat} {fs : List Nat} (hs : StF K t sh fs) :
    ∃ flds : Array Field, K.P.underlying t = some (.struct flds) ∧ ∃ ofs : List (Nat × Nat), (∀ w, (flds.mapM fun f => (do pure (f.offset, ← Go.sizeOf f.type) : Sem (Nat × Nat))).run K.P w = .ok ofs.toArray w) ∧
      ∀ i f, fs[i]? = some f → ofs[i]? = some (((fs.take i).map K.sz).sum, K.sz f) := by
  obtain ⟨flds, hu, hl, hf⟩ := hs.ex
  refine ⟨flds, hu, (List.range fs.length).map fun i => (((fs.take i).map K.sz).sum, K.sz (fs.getD i 0)), fun w => ?_, fun i f hi => ?_⟩
  · rw [Array.mapM_eq_mapM_toList]
    have key : ∀ (n k : Nat), k + n = fs.length → ((flds.toList.drop k).mapM fun f => (do pure (f.offset, ← Go.sizeOf f.type) : Sem (Nat × Nat))).run K.P w =
        .ok ((List.range' k n).map fun i => (((fs.take i).map K.sz).sum, K.sz (fs.getD i 0))) w := by
      intro n
      induction n with
      | zero => intro k hk; rw [List.drop_eq_nil_of_le (by simp; omega)]; rfl
      | succ n ih =>
        intro k hk
        have hkf : k < flds.size := by omega
        rw [List.drop_eq_getElem_cons (by simpa using hkf)]
        obtain ⟨s, b, h1, h2, h3, _⟩ := hf k flds[k] (by simp [hkf])
        simp only [List.mapM_cons, Sem.run_bind, Array.getElem_toList, h3.size, Result.andThen_ok, Sem.run_pure, ih (k + 1) (by omega), List.range'_succ, List.map_cons]
        simp [h1, h2]
    have := key fs.length 0 (by omega)
    simp only [List.drop_zero] at this
    simp only [Sem.run_map, this, Result.andThen_ok, List.range_eq_range']
  · have hlt := (List.getElem?_eq_some_iff.1 hi).1
    have e1 : fs[i] = f := by rw [List.getElem?_eq_getElem hlt] at hi; exact Option.some.inj hi
    simp [hlt, e1]

set_option maxHeartbeats 1000000 in
theorem op_wp (hK : K.flat) {C : Orc} {iop : IOp} {o : Oper} {v : V} {h' : H} {next : Act → World → Prop} {Q : Exit → Act → World → Prop}
    (ok : OpOK K iop o.op) (hr : aop K.pure C e h iop = some (v, h')) (hG : GL K σ w) (hR : R K σ h w) (he : ER K σ e a)
    (hcall : ∀ f args, (∀ x ∈ args, x.isTup = false) → ∀ v h', callV K.pure C f args h = some (v, h') → Callable K f ∧ Sound1 K f args h v h')
    (hn : Nx K σ w v h' fun c w' => next (a.put o.dst c) w') : o.wp K.P a w next Q := by
  obtain ⟨dst, op, type, pos, after, guard⟩ := o
  simp only at ok hn
  unfold Oper.wp execOp
  simp only
  cases ok with
  | mv hx =>
    simp only [aop] at hr
    split at hr
    · rename_i u hu
      injection hr with hr; injection hr with h1 h2; subst h1 h2
      exact hn _ _ σ hR (Ext.refl σ) (Fr.refl σ w) (ev_ok he hx hu)
    · cases hr
  | asg hx =>
    simp only [aop] at hr
    split at hr
    · rename_i u hu
      injection hr with hr; injection hr with h1 h2; subst h1 h2
      exact hn _ _ σ hR (Ext.refl σ) (Fr.refl σ w) (ev_ok he hx hu)
    · cases hr
  | pick hc ha hb =>
    simp only [aop] at hr
    split at hr
    · rename_i t ht
      have hcv := ev_ok he hc ht
      cases t with
      | true =>
        simp only [if_true] at hr
        split at hr
        · rename_i u hu
          injection hr with hr; injection hr with h1 h2; subst h1 h2
          simp only [vrb hcv, asBool, Sem.run_bind, Sem.run_pure, Result.andThen_ok, if_true, Oper.upon]
          exact hn _ _ σ hR (Ext.refl σ) (Fr.refl σ w) (ev_ok he ha hu)
        · cases hr
      | false =>
        simp only [Bool.false_eq_true, if_false] at hr
        split at hr
        · rename_i u hu
          injection hr with hr; injection hr with h1 h2; subst h1 h2
          simp only [vrb hcv, asBool, Sem.run_bind, Sem.run_pure, Result.andThen_ok, if_false, Bool.false_eq_true, Oper.upon]
          exact hn _ _ σ hR (Ext.refl σ) (Fr.refl σ w) (ev_ok he hb hu)
        · cases hr
    · cases hr
  | box hty hx =>
    simp only [aop] at hr
    split at hr
    · rename_i u hu
      split at hr
      · rename_i hcnd
        injection hr with hr; injection hr with h1 h2; subst h1 h2
        obtain ⟨rfl, ht⟩ := hcnd
        exact Step.upon rfl (step_box hR (ev_ok he hx hu) (notTup ht)) hn
      · cases hr
    · cases hr
  | @alloc sh t b z hty hz =>
    simp only [aop, ev] at hr
    split at hr
    · rename_i hcnd
      injection hr with hr; injection hr with h1 h2; subst h1 h2
      obtain ⟨rfl, ht⟩ := hcnd
      obtain ⟨z', hz1, hz2⟩ := hz.run w
      have hs := step_box (h := h) (T := t) hR (hz2 σ) hz.tup
      refine Step.upon (h := h) rfl ?_ hn
      have : (Instr.alloc t true (.tuple #[])).run K.P w = (Instr.box t z').run K.P w := by
        simp only [Instr.alloc, Sem.run_bind, hz1, Result.andThen_ok, Instr.box]
      rw [this]; exact hs
    · cases hr
  | build hst hz hps =>
    simp only [aop] at hr
    split at hr
    · rename_i ps hp
      split at hr
      · rename_i l hl
        injection hr with hr; injection hr with h1 h2; subst h1 h2
        refine Step.upon rfl (step_build hK hR hz hst.S hst.places ?_ hl) hn
        have := evp_ok he hps hp
        rw [Array.toList_map]; exact this
      · cases hr
    · cases hr
  | bsl hu hty hz hzs hS hpos hsz hps =>
    simp only [aop] at hr
    split at hr
    · rename_i ps hp
      split at hr
      · rename_i l hl
        injection hr with hr; injection hr with h1 h2; subst h1 h2
        refine Step.upon rfl (step_bsl hK hR hu hty hz hzs hS hpos hsz ?_ hl) hn
        have := evp_ok he hps hp
        rw [Array.toList_map]; exact this
      · cases hr
    · cases hr
  | load hty hx =>
    simp only [aop] at hr
    split at hr
    · rename_i id st p sh' hu
      split at hr
      · rename_i hsh; subst hsh
        split at hr
        · rename_i u hrd
          injection hr with hr; injection hr with h1 h2; subst h1 h2
          exact Step.upon rfl (step_load hK hR hty (ev_ok he hx hu) hrd) hn
        · cases hr
      · cases hr
    · cases hr
  | store hty hx ha =>
    simp only [aop] at hr
    split at hr
    · rename_i id st p sh' u hu hv
      split at hr
      · rename_i hcnd
        obtain ⟨rfl, hsh, ht⟩ := hcnd
        split at hr
        · rename_i h2 hwr
          injection hr with hr; injection hr with h1 h2; subst h1 h2
          obtain ⟨w', σ', hrun, hR', hE, hF⟩ := step_store hK hR hty (ev_ok he hx hu) (ev_ok he ha hv) (notTup ht) hsh hwr
          simp only [Sem.run_bind, hrun, Result.andThen_ok, Sem.run_pure, Oper.upon]
          exact hn _ _ σ' hR' hE hF (by simp only [unit, VR]; exact ⟨#[], rfl, .nil⟩)
        · cases hr
      · cases hr
    · cases hr
  | @nilck x y hx =>
    simp only [aop] at hr
    split at hr
    · rename_i u hu
      have hv := ev_ok he hx hu
      split at hr
      · injection hr with hr; injection hr with h1 h2; subst h1 h2
        have hv' := hv
        simp only [VR, VR1, SR, SR0] at hv'
        obtain ⟨L, ad, _, heq, _⟩ := hv'
        rw [heq] at hv
        dsimp only
        rw [heq]
        exact hn _ _ σ hR (Ext.refl σ) (Fr.refl σ w) hv
      · injection hr with hr; injection hr with h1 h2; subst h1 h2
        have hv' := hv
        simp only [VR, VR1, SR] at hv'
        obtain ⟨c, heq, _⟩ := hv'
        rw [heq] at hv
        dsimp only
        rw [heq]
        exact hn _ _ σ hR (Ext.refl σ) (Fr.refl σ w) hv
      · injection hr with hr; injection hr with h1 h2; subst h1 h2
        have hv' := hv
        simp only [VR, VR1, SR] at hv'
        obtain ⟨c, heq, _⟩ := hv'
        rw [heq] at hv
        dsimp only
        rw [heq]
        exact hn _ _ σ hR (Ext.refl σ) (Fr.refl σ w) hv
      · cases hr
    · cases hr
  | bin hx hy =>
    simp only [aop] at hr
    split at hr
    · rename_i u1 u2 h1 h2
      split at hr
      · rename_i u hu
        injection hr with hr; injection hr with e1 e2; subst e1 e2
        exact Step.upon rfl (step_bin hR (ev_ok he hx h1) (ev_ok he hy h2) hu) hn
      · cases hr
    · cases hr
  | eqv hdt hd hb1 hb2 hg hx hy =>
    simp only [aop] at hr
    split at hr
    · rename_i u1 u2 h1 h2
      split at hr
      · rename_i hcnd
        injection hr with hr; injection hr with e1 e2; subst e1 e2
        exact Step.upon rfl (step_eqv hK hR hdt hd hb1 hb2 hg (ev_ok he hx h1) (ev_ok he hy h2) hcnd.1 hcnd.2) hn
      · cases hr
    · cases hr
  | eqb hu hx hy =>
    simp only [aop] at hr
    split at hr
    · rename_i u1 u2 h1 h2
      injection hr with hr; injection hr with e1 e2; subst e1 e2
      exact Step.upon rfl (step_eqb hR (ev_ok he hx h1) (ev_ok he hy h2) hu) hn
    · cases hr
  | eqn hu hk hc hx hy =>
    simp only [aop] at hr
    split at hr
    · rename_i u1 u2 h1 h2
      split at hr
      · rename_i r hrr
        injection hr with hr; injection hr with e1 e2; subst e1 e2
        exact Step.upon rfl (step_eqn hR (ev_ok he hx h1) (ev_ok he hy h2) hu hk hc hrr) hn
      · cases hr
    · cases hr
  | un hx =>
    simp only [aop] at hr
    split at hr
    · rename_i u1 h1
      split at hr
      · rename_i u hu
        injection hr with hr; injection hr with e1 e2; subst e1 e2
        exact Step.upon rfl (step_un hR (ev_ok he hx h1) hu) hn
      · cases hr
    · cases hr
  | cint hs hd hx =>
    simp only [aop] at hr
    split at hr
    · rename_i k n h1
      injection hr with hr; injection hr with e1 e2; subst e1 e2
      exact Step.upon rfl (step_cint hR (ev_ok he hx h1) hs hd) hn
    · cases hr
  | cid hs hd hx =>
    simp only [aop] at hr
    split at hr
    · rename_i l h1
      injection hr with hr; injection hr with e1 e2; subst e1 e2
      exact Step.upon rfl (step_cid hR (ev_ok he hx h1) hs hd) hn
    · cases hr
  | cbs hs hd hel hx =>
    simp only [aop] at hr
    split at hr
    · rename_i u h1
      split at hr
      · rename_i hsl
        split at hr
        · rename_i l hl
          split at hr
          · rename_i r hrr
            injection hr with hr; injection hr with e1 e2; subst e1 e2
            exact Step.upon rfl (step_cbs hK hR (ev_ok he hx h1) hl hrr (slOf_match hsl) hs hd hel) hn
          · cases hr
        · cases hr
      · cases hr
    · cases hr
  | csb hs hd hel hS hx =>
    simp only [aop] at hr
    split at hr
    · rename_i l h1
      split at hr
      · injection hr with hr; injection hr with e1 e2; subst e1 e2
        exact Step.upon rfl (step_csb hR (ev_ok he hx h1) hs hd hel hS) hn
      · cases hr
    · cases hr
  | @ifc tid t d x y hu hd ht hx =>
    simp only [aop] at hr
    split at hr
    · rename_i u h1
      split at hr
      · rename_i hsc
        injection hr with hr; injection hr with e1 e2; subst e1 e2
        have hv := ev_ok he hx h1
        refine Step.upon rfl (Step.same hR (c := .iface t (a.eval y)) ?_ ?_) hn
        · simp only [Instr.makeInterface, Sem.run_bind, run_underlying hu, Result.andThen_ok]
          cases d <;> first | rfl | exact absurd rfl (hd _)
        · simp only [VR, VR1, SR]
          exact ⟨_, by rw [ht], sc0_of hv hsc⟩
      · cases hr
    · cases hr
  | @mkf fno g caps ccaps hf hx =>
    simp only [aop] at hr
    split at hr
    · rename_i vs h1
      split at hr
      · rename_i hall
        injection hr with hr; injection hr with e1 e2; subst e1 e2
        have h2 := evs_ok he hx h1
        refine Step.upon rfl (Step.same hR (c := .func (.func (K.fid fno)) #[] (Array.map a.eval ccaps)) (by rw [hf]; simp [Instr.makeFunc]) ?_) hn
        simp only [VR, VR1, SR]
        refine ⟨_, rfl, ?_⟩
        rw [Array.toList_map]
        have : ∀ {vs : List V} {cs : List Value}, All2 (VR1 K σ) vs cs → vs.all V.sc0 = true → All2 (SR0 K σ) vs cs := by
          intro vs cs h3
          induction h3 with
          | nil => intro _; exact .nil
          | cons p _ ih =>
            intro ha
            simp only [List.all_cons, Bool.and_eq_true] at ha
            exact .cons (sc0_of p.all.1 ha.1) (ih ha.2)
        exact this h2 hall
      · cases hr
    · cases hr
  | msl hu hty hz hzs hS hpos hx hy =>
    simp only [aop] at hr
    split at hr
    · rename_i l c h1 h2
      split at hr
      · rename_i hcnd
        obtain ⟨c1, c2, c3, c4⟩ := hcnd
        injection hr with hr; injection hr with e1 e2; subst e1 e2
        exact Step.upon rfl (step_msl hK hR (ev_ok he hx h1) (ev_ok he hy h2) hu hty hz hzs hS hpos c1 c2 c3 c4) hn
      · cases hr
    · cases hr
  | slS hu hx hlo hhi =>
    simp only [aop] at hr
    split at hr
    · rename_i l lo hi h1 h2 h3
      split at hr
      · rename_i p q r hb
        injection hr with hr; injection hr with e1 e2; subst e1 e2
        exact Step.upon rfl (step_slS hR (ev_ok he hx h1) hu (evo_ok he hlo h2) (evo_ok he hhi h3) hb) hn
      · cases hr
    · cases hr
  | slL hu hty hx hlo hhi hmx =>
    simp only [aop] at hr
    split at hr
    · rename_i lo hi mx h1 h2 h3 h4
      split at hr
      · rename_i r hb
        injection hr with hr; injection hr with e1 e2; subst e1 e2
        exact Step.upon rfl (step_slN hR (ev_ok he hx h1) hu hty (evo_ok he hlo h2) (evo_ok he hhi h3) (evo_ok he hmx h4) hb) hn
      · cases hr
    · rename_i id st path el' off len cap lo hi mx h1 h2 h3 h4
      split at hr
      · rename_i hel; subst hel
        split at hr
        · rename_i p q r hb
          injection hr with hr; injection hr with e1 e2; subst e1 e2
          exact Step.upon rfl (step_slL hR (ev_ok he hx h1) hu hty (evo_ok he hlo h2) (evo_ok he hhi h3) (evo_ok he hmx h4) hb) hn
        · cases hr
      · cases hr
    · cases hr
  | slA hu hS hty hx hlo hhi hmx =>
    simp only [aop] at hr
    split at hr
    · rename_i id st path sh lo hi mx h1 h2 h3 h4
      split at hr
      · rename_i hcnd
        obtain ⟨rfl, hrd⟩ := hcnd
        obtain ⟨x, hx1, hxs⟩ := H.isAt_read hrd
        split at hr
        · rename_i p q r hb
          injection hr with hr; injection hr with e1 e2; subst e1 e2
          have hfx : K.fix x.sh := by intro e' he'; rw [hxs, hS] at he'; cases he'
          have hroom := R.roomOf hK hR hx1 hfx
          refine Step.upon rfl (step_slA hR (ev_ok he hx h1) hu hS hty (fun L o hs _ ho => ?_) (evo_ok he hlo h2) (evo_ok he hhi h3) (evo_ok he hmx h4) hb) hn
          have := hroom L o hs (by rw [hxs]; exact ho)
          rw [hxs, K.szArr _ _ _ hS] at this
          exact this
        · cases hr
      · cases hr
    · cases hr
  | fa hst hk hx =>
    simp only [aop] at hr
    split at hr
    · rename_i id st path sh' h1
      split at hr
      · rename_i hsh; subst hsh
        injection hr with hr; injection hr with e1 e2; subst e1 e2
        exact Step.upon rfl (step_fa hR (ev_ok he hx h1) (hst.offs hk)) hn
      · cases hr
    · cases hr
  | @fld t sh fs k x y hst hx =>
    simp only [aop] at hr
    split at hr
    · rename_i sh' l h1
      split at hr
      · rename_i hsh; subst hsh
        split at hr
        · rename_i u hu
          injection hr with hr; injection hr with e1 e2; subst e1 e2
          obtain ⟨flds, huu, hl, hf⟩ := hst.ex
          have hv := ev_ok he hx h1
          have hv' := hv
          simp only [VR, VR1] at hv'
          obtain ⟨arr, _, hc⟩ := hv'
          simp only [CR] at hc
          obtain ⟨fs', hk, hl'⟩ := hc
          rw [hst.S] at hk; simp only [kids] at hk
          split at hk
          · rename_i hln
            have hkl := (List.getElem?_eq_some_iff.1 hu).1
            have hkf : k < flds.size := by rw [hl, hln]; exact hkl
            obtain ⟨s, b, g1, g2, g3, _⟩ := hf k flds[k] (by rw [Array.getElem?_eq_getElem hkf])
            exact Step.upon rfl (step_fld hK hR hv hst.S ⟨flds, _, s, huu, Array.getElem?_eq_getElem hkf, g1, g3, g2⟩ hu) hn
          · cases hk
        · cases hr
      · cases hr
    · cases hr
  | iaA hu hS hty hx hi =>
    simp only [aop] at hr
    split at hr
    · rename_i id st path sh k j h1 h2
      split at hr
      · rename_i hcnd
        obtain ⟨rfl, c1, c2⟩ := hcnd
        injection hr with hr; injection hr with e1 e2; subst e1 e2
        exact Step.upon rfl (step_iaA hR (ev_ok he hx h1) (ev_ok he hi h2) hu hS hty c1 c2) hn
      · cases hr
    · cases hr
  | iaL hu hty hx hi =>
    simp only [aop] at hr
    split at hr
    · rename_i id st path el' off len cap k j h1 h2
      split at hr
      · rename_i hcnd
        obtain ⟨rfl, c1, c2⟩ := hcnd
        injection hr with hr; injection hr with e1 e2; subst e1 e2
        exact Step.upon rfl (step_iaL hR (ev_ok he hx h1) (ev_ok he hi h2) hu hty c1 c2) hn
      · cases hr
    · cases hr
  | ixA hu hS hty hx hi =>
    simp only [aop] at hr
    split at hr
    · rename_i sh l k j h1 h2
      split at hr
      · rename_i hcnd
        obtain ⟨rfl, c1, c2⟩ := hcnd
        split at hr
        · rename_i u hu2
          injection hr with hr; injection hr with e1 e2; subst e1 e2
          exact Step.upon rfl (step_ixA hK hR (ev_ok he hx h1) (ev_ok he hi h2) hu hS hty c1 c2 hu2) hn
        · cases hr
      · cases hr
    · cases hr
  | ixS hu hx hi =>
    simp only [aop] at hr
    split at hr
    · rename_i l k j h1 h2
      split at hr
      · rename_i c1
        split at hr
        · rename_i u hu2
          injection hr with hr; injection hr with e1 e2; subst e1 e2
          exact Step.upon rfl (step_ixS hR (ev_ok he hx h1) (ev_ok he hi h2) hu c1 hu2) hn
        · cases hr
      · cases hr
    · cases hr
  | ext hx =>
    simp only [aop] at hr
    split at hr
    · rename_i l h1
      split at hr
      · rename_i u hu
        injection hr with hr; injection hr with e1 e2; subst e1 e2
        have hv := ev_ok he hx h1
        have hv' := hv
        simp only [VR] at hv'
        obtain ⟨arr, _, h2⟩ := hv'
        obtain ⟨c, hc, hvc⟩ := h2.at hu
        exact Step.upon rfl (step_ext hR hv hu hvc.all.2) hn
      · cases hr
    · cases hr
  | @call f f' args cargs ats hf hargs =>
    simp only [aop] at hr
    split at hr
    · rename_i g caps vs h1 h2
      have hfv := ev_ok he hf h1
      simp only [VR, VR1, SR] at hfv
      obtain ⟨carr, heq, hcaps⟩ := hfv
      have hvs := evs_ok he hargs h2
      have hall : All2 (VR1 K σ) (vs ++ caps) (cargs.map a.eval ++ carr).toList := by
        rw [Array.toList_append, Array.toList_map]
        refine hvs.append (hcaps.imp fun x y hxy => ?_)
        cases x <;> first | (simpa only [VR1, SR] using hxy) | exact hxy.elim
      have hnt : ∀ x ∈ vs ++ caps, x.isTup = false := by
        have : ∀ {l : List V} {m : List Value}, All2 (VR1 K σ) l m → ∀ x ∈ l, x.isTup = false := by
          intro l m h3
          induction h3 with
          | nil => intro x hx; cases hx
          | cons p _ ih =>
            intro x hx
            rcases List.mem_cons.1 hx with rfl | hx
            · cases x <;> first | rfl | exact absurd rfl (p.all.2 _)
            · exact ih x hx
        exact this hall
      obtain ⟨⟨fn, cc, g1, g2, g3⟩, hs⟩ := hcall g (vs ++ caps) hnt v h' hr
      have := hs σ w _ hG hR hall
      simp only [resolve, heq, Deferred.ofValue, Sem.run_bind, Sem.run_pure, Result.andThen_ok, invoke, callFunc, run_program, Array.empty_append]
      simp only [g1, g3, g2, Bool.false_eq_true, if_false, Option.isNone_some, Sem.run_pure, Oper.upon]
      refine Calls.mono this ?_
      rintro e1 w1 ⟨c, σ', rfl, hR', hE, hF, hV⟩
      exact hn c w1 σ' hR' hE hF hV
    · cases hr
  | no => simp only [aop] at hr; cases hr
  | rngS hu hx =>
    simp only [aop] at hr
    split at hr
    · rename_i l h1
      injection hr with hr; injection hr with h1' h2'; subst h1' h2'
      exact Step.upon rfl (step_rng hR hu (ev_ok he hx h1)) hn
    · cases hr
  | nxtS hx =>
    simp only [aop] at hr
    split at hr
    · rename_i id st sh h1
      split at hr
      · rename_i l pos h2
        split at hr
        · rename_i hlt
          injection hr with hr; injection hr with h1' h2'; subst h1' h2'
          exact Step.upon rfl (step_nxt hR h2 (ev_ok he hx h1) hlt) hn
        · rename_i hlt
          injection hr with hr; injection hr with h1' h2'; subst h1' h2'
          exact Step.upon rfl (step_nxt_end hR h2 (ev_ok he hx h1) hlt) hn
      · cases hr
    · cases hr
  | lenS hu hx =>
    simp only [aop] at hr
    split at hr
    · rename_i l h1
      injection hr with hr; injection hr with e1 e2; subst e1 e2
      simp only [resolve, Sem.run_bind, Sem.run_pure, Result.andThen_ok, invoke, builtin, List.map_toArray, List.map_cons, List.map_nil]
      exact Step.upon2 rfl (step_lenS hR (ev_ok he hx h1) hu) hn
    · cases hr
  | lenL hu hx =>
    simp only [aop] at hr
    split at hr
    · rename_i h1
      injection hr with hr; injection hr with e1 e2; subst e1 e2
      simp only [resolve, Sem.run_bind, Sem.run_pure, Result.andThen_ok, invoke, builtin, List.map_toArray, List.map_cons, List.map_nil]
      exact Step.upon2 rfl (step_lenN hR (ev_ok he hx h1) hu) hn
    · rename_i id st path el' off len cap h1
      injection hr with hr; injection hr with e1 e2; subst e1 e2
      simp only [resolve, Sem.run_bind, Sem.run_pure, Result.andThen_ok, invoke, builtin, List.map_toArray, List.map_cons, List.map_nil]
      exact Step.upon2 rfl (step_lenL hR (ev_ok he hx h1) hu) hn
    · cases hr
  | app hu hx0 hd hty hz hzs hb hS hx hy =>
    simp only [aop] at hr
    split at hr
    · rename_i u1 u2 h1 h2
      split at hr
      · rename_i hsl
        split at hr
        · rename_i ys hys
          obtain ⟨cs, hsrc⟩ := src_slice hK hR (ev_ok he hy h2) hys (slOf_match hsl)
          simp only [resolve, Sem.run_bind, Sem.run_pure, Result.andThen_ok, invoke, builtin, List.map_toArray, List.map_cons, List.map_nil]
          exact Step.upon2 rfl (step_app hK hR hu hx0 hd hty hz hzs hb hS (ev_ok he hx h1) hsrc hr) hn
        · cases hr
      · cases hr
    · cases hr
  | appS hu hx0 hd hty hz hzs hb hS hx hy =>
    simp only [aop] at hr
    split at hr
    · rename_i u1 l h1 h2
      simp only [resolve, Sem.run_bind, Sem.run_pure, Result.andThen_ok, invoke, builtin, List.map_toArray, List.map_cons, List.map_nil]
      exact Step.upon2 rfl (step_app hK hR hu hx0 hd hty hz hzs hb hS (ev_ok he hx h1) (src_str (ev_ok he hy h2)) hr) hn
    · cases hr
  | cpy hu hty hx hy =>
    simp only [aop] at hr
    split at hr
    · rename_i u1 u2 h1 h2
      split at hr
      · rename_i hsl
        split at hr
        · rename_i xs ys hxs hys
          split at hr
          · rename_i h3 hl
            injection hr with hr; injection hr with e1 e2; subst e1 e2
            obtain ⟨cs, g1, g2, g3⟩ := first_slice (n := min ys.length xs.length) hK hR (ev_ok he hy h2) hys (slOf_match hsl.2) (Nat.min_le_left _ _)
            have hlen : (ys.take (min ys.length xs.length)).length = min ys.length xs.length := by simp
            simp only [resolve, Sem.run_bind, Sem.run_pure, Result.andThen_ok, invoke, builtin, List.map_toArray, List.map_cons, List.map_nil]
            exact Step.upon2 rfl (step_cpy hK hR hu hty (ev_ok he hx h1) hxs (slOf_match hsl.1) (by rw [hlen]; exact g1) hlen (Nat.min_le_right _ _) rfl g3 g2 hl) hn
          · cases hr
        · cases hr
      · cases hr
    · cases hr
  | cpyS hu hty hx hy =>
    simp only [aop] at hr
    split at hr
    · rename_i u1 l h1 h2
      split at hr
      · rename_i hsl
        split at hr
        · rename_i xs hxs
          split at hr
          · rename_i h3 hl
            injection hr with hr; injection hr with e1 e2; subst e1 e2
            have hv := vrs (ev_ok he hy h2)
            have hsz : (ByteArray.mk l.toArray).size = l.length := by simp [ByteArray.size]
            have hrun : (Builtin.firstCells (K.sz 7) (min l.length xs.length) (.string ⟨l.toArray⟩)).run K.P w = .ok ((l.take (min l.length xs.length)).map fun b => Value.int .u8 b.toNat).toArray w := by
              simp only [Builtin.firstCells, Sem.run_pure, extract_list]
              congr 1
              apply Array.ext'
              simp
            have hlen : ((l.take (min l.length xs.length)).map byteV).length = min l.length xs.length := by simp
            have hcs : CRl K σ (List.replicate ((l.take (min l.length xs.length)).map byteV).length 7) ((l.take (min l.length xs.length)).map byteV) ((l.take (min l.length xs.length)).map fun b => Value.int .u8 b.toNat) := CRl.take_bytes _ rfl
            simp only [resolve, Sem.run_bind, Sem.run_pure, Result.andThen_ok, invoke, builtin, List.map_toArray, List.map_cons, List.map_nil]
            rw [hv]
            exact Step.upon2 rfl (step_cpy (m := l.length) hK hR hu hty (ev_ok he hx h1) hxs (slOf_match hsl) hcs hlen (Nat.min_le_right _ _) rfl (by simp [Builtin.lenOf, hsz]) hrun hl) hn
          · cases hr
        · cases hr
      · cases hr
    · cases hr
  | mx hx =>
    simp only [aop] at hr
    split at hr
    · rename_i vs h1
      split at hr
      · rename_i u hu
        injection hr with hr; injection hr with e1 e2; subst e1 e2
        have h2 := evs_ok he hx h1
        simp only [resolve, Sem.run_bind, Sem.run_pure, Result.andThen_ok, invoke, builtin]
        exact Step.upon2 rfl (step_mx hR (by rw [Array.toList_map]; exact h2.map_vr) hu) hn
      · cases hr
    · cases hr
  | mn hx =>
    simp only [aop] at hr
    split at hr
    · rename_i vs h1
      split at hr
      · rename_i u hu
        injection hr with hr; injection hr with e1 e2; subst e1 e2
        have h2 := evs_ok he hx h1
        simp only [resolve, Sem.run_bind, Sem.run_pure, Result.andThen_ok, invoke, builtin]
        exact Step.upon2 rfl (step_mn hR (by rw [Array.toList_map]; exact h2.map_vr) hu) hn
      · cases hr
    · cases hr

end
end Go.Rae
