/- Functions of the program: their runs, calls in calls. -/
import Derived.Test.YtannfoaobeoafaaDoorRaeMain
set_option linter.unusedVariables false
set_option linter.unusedSimpArgs false
namespace Go.Rae
open Go

section
variable (K : Ctx)

inductive ResOK : IRes → ResultVar → Prop
  | t {n} : ResOK (.t n) (.tmp n)
  | c {n sh t b} : TyF K t sh b → ResOK (.c n sh) (.cell n t)

/-- A function fits. -/
structure FnOK (f : Nat) (i : IFn) : Prop where
  ex : ∃ fn c, K.P.funcs[K.fid f]? = some fn ∧ fn.body = some c ∧ (fn.name == "runtime.NumGoroutine") = false ∧ CodeOK K fn.ntmps i.body c ∧ i.nargs ≤ fn.ntmps ∧ All2 (ResOK K) i.res fn.results.toList

end

section
variable {K : Ctx} {C : Orc} {σ : Sig} {h : H} {w : World} {e : Env} {a : Act}

theorem load_run (hK : K.flat) (hR : R K σ h w) {t sh b : Nat} (ty : TyF K t sh b) {id st : Nat} {p : List Nat} {x : V} {a : Value}
    (ha : VR K σ (.ptr id st p sh) a) (hr : h.read id st p = some x) : ∃ ad c, a = .pointer (some ad) ∧ (loadVar t ad).run K.P w = .ok c w ∧ VR K σ x c := by
  obtain ⟨L, m, o, hs, hst, hof, hm, hroom, arr, T, fr, hb, hz, hcell⟩ := hR.read hK hr
  simp only [VR, VR1, SR, SR0] at ha
  obtain ⟨L', a', hs', rfl, hle, hval⟩ := ha
  rw [hs] at hs'; cases hs'
  obtain ⟨o', ho', rfl⟩ := hval hst.symm
  rw [hof] at ho'
  simp only [Option.some.injEq, Prod.mk.injEq] at ho'
  obtain ⟨rfl, hsh⟩ := ho'
  have hfix : K.fix x.sh := by rw [hsh]; exact ty.fix
  have hlen := CR.len hK x m hfix hm
  have hadd : ∀ j, (⟨L.blk, L.off + o, none⟩ : Addr).add j = ⟨L.blk, L.off + o + j, none⟩ := by
    intro j; unfold Addr.add; split <;> simp_all
  have hl : (loadCells ⟨L.blk, L.off + o, none⟩ m.length).run K.P w = .ok m.toArray w :=
    run_loadCells_list w _ m fun j v hv => by rw [hadd, cell_of_row w _ _ arr T fr hb]; exact hcell j v hv
  rcases hm.value hfix with ⟨h1, hv⟩ | ⟨h1, c, rfl, hv⟩
  · refine ⟨_, .agg m.toArray, rfl, ?_, hv⟩
    rw [hsh] at h1
    simp only [Sem.run_bind, Sem.run_pure, Result.andThen_ok, loadVar, ty.agg, h1, if_true, ty.size]
    rw [hsh] at hlen
    rw [← hlen, hl]; rfl
  · refine ⟨_, c, rfl, ?_, hv⟩
    rw [hsh] at h1
    have h0 := hcell 0 c rfl
    simp only [Sem.run_bind, Sem.run_pure, Result.andThen_ok, loadVar, ty.agg, h1, if_false, Bool.false_eq_true, run_load, cell_of_row w _ _ arr T fr hb]
    simp only [Nat.add_zero] at h0
    rw [h0]

def resSem (tmps : Array Value) : ResultVar → Sem Value
  | .tmp t => pure (tmps.getD t undef)
  | .cell a t => do loadVar t (← asAddr (tmps.getD a undef))

theorem res_ok (hK : K.flat) (hR : R K σ h w) (he : ER K σ e a) {i : IRes} {r : ResultVar} (hi : ResOK K i r) {v : V} (hg : getRes e h i = some v) :
    ∃ c, (resSem a.tmps r).run K.P w = .ok c w ∧ VR1 K σ v c := by
  cases hi with
  | @t n =>
    simp only [getRes] at hg
    split at hg
    · rename_i u hu
      split at hg
      · cases hg
      · rename_i ht
        injection hg with hg; subst hg
        exact ⟨_, rfl, (he _ _ hu).one (by simpa using ht)⟩
    · cases hg
  | @c n sh t b ty =>
    simp only [getRes] at hg
    split at hg
    · rename_i id st p sh' hu
      split at hg
      · rename_i hsh; subst hsh
        split at hg
        · rename_i u hrd
          split at hg
          · cases hg
          · rename_i ht
            injection hg with hg; subst hg
            obtain ⟨ad, c, h1, h2, h3⟩ := load_run hK hR ty (he _ _ hu) hrd
            refine ⟨c, ?_, h3.one (by simpa using ht)⟩
            simp only [resSem, h1, asAddr, Sem.run_bind, Sem.run_pure, Result.andThen_ok, h2]
        · cases hg
      · cases hg
    · cases hg

theorem ress_ok (hK : K.flat) (hR : R K σ h w) (he : ER K σ e a) : ∀ {is : List IRes} {rs : List ResultVar}, All2 (ResOK K) is rs → ∀ {vs : List V}, getRess e h is = some vs →
    ∃ cs, (rs.mapM (resSem a.tmps)).run K.P w = .ok cs w ∧ All2 (VR1 K σ) vs cs := by
  intro is rs h2
  induction h2 with
  | nil =>
    intro vs hg
    simp only [getRess, Option.some.injEq] at hg; subst hg
    exact ⟨[], rfl, .nil⟩
  | cons h1 _ ih =>
    intro vs hg
    simp only [getRess] at hg
    split at hg
    · rename_i v l hv hl
      injection hg with hg; subst hg
      obtain ⟨c, hc, hvc⟩ := res_ok hK hR he h1 hv
      obtain ⟨cs, hcs, hvs⟩ := ih hl
      refine ⟨c :: cs, ?_, .cons hvc hvs⟩
      simp only [List.mapM_cons, Sem.run_bind, hc, Result.andThen_ok, hcs, Sem.run_pure]
    · cases hg

theorem results_ok (hK : K.flat) (hR : R K σ h w) (he : ER K σ e a) {fn : Func} {is : List IRes} (h2 : All2 (ResOK K) is fn.results.toList) {vs : List V} (hg : getRess e h is = some vs) :
    ∃ c, (results fn a.tmps).run K.P w = .ok c w ∧ VR K σ (retV vs) c := by
  obtain ⟨cs, hcs, hvs⟩ := ress_ok hK hR he h2 hg
  have e1 : (results fn a.tmps).run K.P w = .ok (if h : cs.toArray.size = 1 then cs.toArray[0] else .tuple cs.toArray) w := by
    have : results fn a.tmps = (do let vs ← fn.results.mapM (resSem a.tmps); pure (if h : vs.size = 1 then vs[0] else .tuple vs)) := by
      unfold results
      congr 1
    rw [this]
    simp only [Sem.run_bind]
    rw [Array.mapM_eq_mapM_toList]
    simp only [Sem.run_map, hcs, Result.andThen_ok, Sem.run_pure]
  rw [e1]
  refine ⟨_, rfl, ?_⟩
  match vs, cs, hvs with
  | [], _, .nil => simp only [retV, VR]; exact ⟨#[], by simp, .nil⟩
  | [v], _, .cons (b := c) hv .nil => simpa [retV] using hv.all.1
  | v1 :: v2 :: vs, _, .cons (b := c1) h1 (.cons (b := c2) (m := m) h2 h3) =>
    simp only [retV, VR]
    exact ⟨(c1 :: c2 :: m).toArray, by simp, by simpa using All2.cons h1 (.cons h2 h3)⟩

theorem env0_get : ∀ (l : List V) (i k : Nat) (v : V), (env0 i l).get k = some v → i ≤ k ∧ l[k - i]? = some v := by
  intro l
  induction l with
  | nil => intro i k v h; cases h
  | cons x l ih =>
    intro i k v h
    simp only [env0, Env.get] at h
    split at h
    · rename_i e; subst e; injection h with h; subst h; simp
    · rename_i e
      obtain ⟨h1, h2⟩ := ih (i + 1) k v h
      refine ⟨by omega, ?_⟩
      have : k - i = (k - (i + 1)) + 1 := by omega
      rw [this, List.getElem?_cons_succ]; exact h2

theorem fcall_ok (hK : K.flat) (hC : SoundO K C) (hm : K.P.follows .mixedOrders = true) {f : Nat} {fn : IFn} (hf : FnOK K f fn) {fuel : Nat} {args : List V} {v : V} {h' : H}
    (hr : fcall K.pure C fn fuel args h = some (v, h')) : Callable K f ∧ Sound1 K f args h v h' := by
  obtain ⟨F, c, hF, hb, hname, hcode, hn, hres⟩ := hf.ex
  refine ⟨⟨F, c, hF, hb, hname⟩, ?_⟩
  intro σ w cargs hG hR hargs
  unfold fcall at hr
  split at hr
  · rename_i hlen
    split at hr
    · rename_i x e' h1 hx
      have hal := hargs.len
      have hsz : cargs.size ≤ F.ntmps := by
        have : cargs.toList.length = cargs.size := by simp
        omega
      refine calls_of_wp hF hb ?_
      refine wp_mono ((at_fuel (N := F.ntmps) hK hC hm fuel).code fn.body c x (env0 0 args) e' h h1 σ _ w hcode hx hG ?_ hR rfl ?_) ?_
      · intro k u hu
        obtain ⟨_, hk⟩ := env0_get _ _ _ _ hu
        simp only [Nat.sub_zero] at hk
        obtain ⟨cv, hcv, hvr⟩ := hargs.at hk
        have hks : k < cargs.size := by
          have := (List.getElem?_eq_some_iff.1 hcv).1; simpa using this
        have : (cargs ++ Array.replicate (F.ntmps - cargs.size) undef).getD k undef = cv := by
          have e1 : cargs[k]? = some cv := by simpa using hcv
          have e2 : cargs[k] = cv := by rw [Array.getElem?_eq_getElem hks] at e1; exact Option.some.inj e1
          simp [Array.getElem?_append, hks, e2]
        simp only [this]
        exact hvr.all.1
      · simp; omega
      · rintro E a' w' ⟨rfl, hd, hN, σ', he', hR', hE, hFr⟩
        have fin : (x = .norm ∨ x = .ret) → ∀ l, getRess e' h1 fn.res = some l → v = retV l → h' = h1 → a'.defers = [] ∧ ∃ u, (results F a'.tmps).run K.P w' = .ok u w' ∧ (∃ c σ', Ending.returned u = .returned c ∧ R K σ' h' w' ∧ Ext σ σ' ∧ Fr σ w σ' w' ∧ VR K σ' v c) := by
          intro _ l hl hv hh
          subst hv hh
          obtain ⟨u, hu, hvu⟩ := results_ok hK hR' he' hres hl
          exact ⟨hd, u, hu, u, σ', rfl, hR', hE, hFr, hvu⟩
        cases x with
        | norm =>
          simp only at hr
          split at hr
          · rename_i l hl
            simp only [Option.some.injEq, Prod.mk.injEq] at hr
            obtain ⟨h1', h2'⟩ := hr
            exact fin (.inl rfl) l hl h1'.symm h2'.symm
          · cases hr
        | ret =>
          simp only at hr
          split at hr
          · rename_i l hl
            simp only [Option.some.injEq, Prod.mk.injEq] at hr
            obtain ⟨h1', h2'⟩ := hr
            exact fin (.inr rfl) l hl h1'.symm h2'.symm
          · cases hr
        | exit id => simp at hr
        | goto l => simp at hr
    · cases hr
  · cases hr

theorem acall_ok (hK : K.flat) (hm : K.P.follows .mixedOrders = true) {bodies : Nat → Option IFn} {ext : Orc} (hb : ∀ f fn, bodies f = some fn → FnOK K f fn) (he : SoundO K ext) (fuel : Nat) :
    ∀ n, SoundO K (acall K.pure bodies ext fuel n) := by
  intro n
  induction n with
  | zero => intro f args h v h' hr; simp [acall] at hr
  | succ n ih =>
    intro f args h v h' hr
    simp only [acall] at hr
    split at hr
    · rename_i fn hfn
      exact fcall_ok hK ih hm (hb f fn hfn) hr
    · exact he f args h v h' hr

end
end Go.Rae
