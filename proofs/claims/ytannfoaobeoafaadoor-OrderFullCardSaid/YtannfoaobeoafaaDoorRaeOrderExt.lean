/- The library functions of this program as an oracle; calls in calls are sound. -/
import Derived.Test.YtannfoaobeoafaaDoorRaeOrderSem
import Derived.Test.YtannfoaobeoafaaDoorRaeOrderTab
import Derived.Test.YtannfoaobeoafaaDoorRaeOrderLay
set_option linter.unusedVariables false
set_option linter.unusedSimpArgs false
namespace Go.Rae.Order
open Go Go.Proofs Go.Shelf

theorem call48 (gl : Nat → Option Go.Obj) (val : Nat → Int) : Callable (K gl val) 48 := ⟨Tryd.f51, _, Tryd.func51, rfl, by kernel_rfl⟩
theorem call49 (gl : Nat → Option Go.Obj) (val : Nat → Int) : Callable (K gl val) 49 := ⟨Tryd.f52, _, Tryd.func52, rfl, by kernel_rfl⟩

theorem call72 (gl : Nat → Option Go.Obj) (val : Nat → Int) : Callable (K gl val) 72 := ⟨Tryd.f75, _, Tryd.func75, rfl, by kernel_rfl⟩

/-- What is asked of the variables. -/
structure Vars (gl : Nat → Option Go.Obj) : Prop where
  mx : ∃ m arr T fr, gl (Tryd.lays145_ren.g 1) = some (.cells arr T fr) ∧ arr[0]? = some (.int .i64 m)
  pw : ∀ w : World, (∀ b o, gl b = some o → w.heap[b]? = some o) → Lib.TabIs Tryd.prog w "internal/strconv.uint64pow10" .u64 Lib.pow10Tab

theorem ext_ok {gl : Nat → Option Go.Obj} {val : Nat → Int} (hg : Vars gl) : SoundO (K gl val) ext := by
  intro f args h v h' hr
  obtain ⟨m, arr, T, fr, hm, hm0⟩ := hg.mx
  unfold ext at hr
  cases h1 : Nat.beq f 49 with
  | true =>
    rw [h1] at hr
    have := Nat.eq_of_beq_eq_true h1; subst this
    exact cut_ok (K := K gl val) (f := 49) Tryd.lays145 (by kernel_rfl) (call49 gl val) hm hm0 hr
  | false =>
    rw [h1] at hr
    cases h2 : Nat.beq f 48 with
    | true =>
      rw [h2] at hr
      have := Nat.eq_of_beq_eq_true h2; subst this
      exact join_ok (K := K gl val) (f := 48) (flat gl val) Tryd.lays156 Tryd.Builder_Extra_156 (by kernel_rfl) (call48 gl val) hr
    | false =>
      rw [h2] at hr
      cases h3 : Nat.beq f 72 with
      | true =>
        rw [h3] at hr
        have := Nat.eq_of_beq_eq_true h3; subst this
        exact dig_ok (K := K gl val) (f := 72) Tryd.lays284 (by kernel_rfl) (call72 gl val) hg.pw hr
      | false => rw [h3] at hr; cases hr

theorem all_ok (gl : Nat → Option Go.Obj) (val : Nat → Int) : okFrom (K gl val) 0 bodyL :=
  ⟨ok0 gl val, ⟨ok1 gl val, ⟨ok2 gl val, ⟨ok3 gl val, ⟨ok4 gl val, ⟨ok5 gl val, ⟨ok6 gl val, ⟨ok7 gl val, ⟨ok8 gl val, ⟨ok9 gl val, ⟨ok10 gl val, ⟨ok11 gl val, ⟨ok12 gl val, ⟨ok13 gl val, ⟨ok14 gl val, ⟨ok15 gl val, ⟨ok16 gl val, ⟨ok17 gl val, ⟨ok18 gl val, ⟨ok19 gl val, ⟨ok20 gl val, ⟨ok21 gl val, ⟨ok22 gl val, ⟨ok23 gl val, ⟨ok24 gl val, ⟨ok25 gl val, ⟨ok26 gl val, ⟨ok27 gl val, ⟨ok28 gl val, ⟨ok29 gl val, ⟨ok30 gl val, ⟨ok31 gl val, ⟨ok32 gl val, ⟨ok33 gl val, ⟨ok34 gl val, ⟨ok35 gl val, ⟨ok36 gl val, ⟨ok37 gl val, ⟨ok38 gl val, ⟨ok39 gl val, ⟨ok40 gl val, ⟨ok41 gl val, ⟨ok42 gl val, ⟨ok43 gl val, ⟨ok44 gl val, ⟨ok45 gl val, ⟨ok46 gl val, ⟨ok47 gl val, ⟨ok48 gl val, ⟨ok49 gl val, ⟨ok50 gl val, ⟨ok51 gl val, ⟨ok52 gl val, ⟨ok53 gl val, ⟨ok54 gl val, ⟨ok55 gl val, ⟨ok56 gl val, ⟨ok57 gl val, ⟨ok58 gl val, ⟨ok59 gl val, ⟨ok60 gl val, ⟨ok61 gl val, ⟨ok62 gl val, ⟨ok63 gl val, ⟨ok64 gl val, ⟨ok65 gl val, ⟨ok66 gl val, ⟨ok67 gl val, ⟨ok68 gl val, ⟨ok69 gl val, ⟨ok70 gl val, ⟨ok71 gl val, ⟨ok72 gl val, ⟨ok73 gl val, ⟨ok74 gl val, ⟨ok75 gl val, ⟨trivial, ⟨ok77 gl val, ⟨ok78 gl val, ⟨ok79 gl val, ⟨ok80 gl val, ⟨ok81 gl val, ⟨ok82 gl val, ⟨ok83 gl val, ⟨ok84 gl val, ⟨ok85 gl val, ⟨ok86 gl val, ⟨trivial, ⟨trivial, ⟨ok89 gl val, ⟨trivial, ⟨ok91 gl val, ⟨ok92 gl val, ⟨ok93 gl val, ⟨ok94 gl val, ⟨ok95 gl val, ⟨ok96 gl val, ⟨ok97 gl val, ⟨ok98 gl val, ⟨ok99 gl val, ⟨ok100 gl val, ⟨trivial, ⟨ok102 gl val, ⟨ok103 gl val, ⟨ok104 gl val, trivial⟩⟩⟩⟩⟩⟩⟩⟩⟩⟩⟩⟩⟩⟩⟩⟩⟩⟩⟩⟩⟩⟩⟩⟩⟩⟩⟩⟩⟩⟩⟩⟩⟩⟩⟩⟩⟩⟩⟩⟩⟩⟩⟩⟩⟩⟩⟩⟩⟩⟩⟩⟩⟩⟩⟩⟩⟩⟩⟩⟩⟩⟩⟩⟩⟩⟩⟩⟩⟩⟩⟩⟩⟩⟩⟩⟩⟩⟩⟩⟩⟩⟩⟩⟩⟩⟩⟩⟩⟩⟩⟩⟩⟩⟩⟩⟩⟩⟩⟩⟩⟩⟩⟩⟩⟩

theorem bodies_ok (gl : Nat → Option Go.Obj) (val : Nat → Int) (f : Nat) (fn : IFn) (h : bodies f = some fn) : FnOK (K gl val) f fn := by
  unfold bodies at h
  cases h1 : Nat.beq f 48 with
  | true => rw [h1] at h; cases h
  | false =>
    rw [h1] at h
    cases h2 : Nat.beq f 49 with
    | true => rw [h2] at h; cases h
    | false =>
      rw [h2] at h
      cases h3 : Nat.beq f 72 with
      | true => rw [h3] at h; cases h
      | false =>
      rw [h3] at h
      have := okFrom_at (all_ok gl val) f fn h
      rwa [Nat.zero_add] at this

theorem mixed (gl : Nat → Option Go.Obj) (val : Nat → Int) : (K gl val).P.follows .mixedOrders = true := Tryd.lays145.mixed

theorem CL_sound {gl : Nat → Option Go.Obj} {val : Nat → Int} (hg : Vars gl) : SoundO (K gl val) CL := by
  intro f args h v h' hr
  obtain ⟨n, hn⟩ := (lim_iff pu bodies ext).1 hr
  exact acall_ok (K := K gl val) (flat gl val) (mixed gl val) (bodies_ok gl val) (ext_ok hg) n n f args h v h' hn

end Go.Rae.Order
