/- Data of the program as plain Lean; calls of it as equations. -/
import Derived.Test.YtannfoaobeoafaaDoorRaeOrderSem
set_option linter.unusedVariables false
set_option linter.unusedSimpArgs false
namespace Go.Rae.Order
set_option maxRecDepth 100000

/-! ### runs -/

theorem run {f : Nat} {fn : IFn} (hb : bodies f = some fn) {args : List V} (hl : args.length = fn.nargs) {h : H} {Q : V → H → Prop}
    (hw : W pu CL fn.body (env0 0 args) h fun x e' h' => endK x (ressK e' h' fn.res fun l => Q (retV l) h')) : Runs CL f args h Q :=
  Runs.of pu bodies ext hb hl hw

theorem runX {f : Nat} (hb : bodies f = none) {args : List V} {h : H} {v : V} {h' : H} (hx : ext f args h = some (v, h')) {Q : V → H → Prop} (hq : Q v h') : Runs CL f args h Q :=
  Runs.ofExt pu bodies ext hb hx hq

mutual
theorem vsame_eq (v w : V) (h : vsame v w = true) : v = w := by
  cases v <;> cases w <;> simp [vsame] at h <;> try first | rfl | (simp [h]; done)
  case agg.agg k l k' m => rw [h.1, vsames_eq l m h.2]
  case tup.tup l m => rw [vsames_eq l m h]
  case fn.fn f l g m => rw [h.1, vsames_eq l m h.2]
  case ifc.ifc t x u y => rw [h.1, vsame_eq x y h.2]
  termination_by SizeOf.sizeOf v
theorem vsames_eq (l m : List V) (h : vsames l m = true) : l = m := by
  cases l with
  | nil => cases m with
    | nil => rfl
    | cons => simp [vsames] at h
  | cons x l => cases m with
    | nil => simp [vsames] at h
    | cons y m => simp [vsames] at h; rw [vsame_eq x y h.1, vsames_eq l m h.2]
  termination_by SizeOf.sizeOf l
end

def runIs (r : Option (V × H)) (v : V) : Bool := match r with | some (x, _) => vsame x v | none => false

/-- A closed call: the kernel runs it. -/
theorem runs_closed {f : Nat} {args : List V} {v : V} (h : runIs (acall pu bodies ext 100000 60 f args H.empty) v = true) : Runs CL f args H.empty fun v' _ => v' = v := by
  unfold runIs at h
  cases hc : acall pu bodies ext 100000 60 f args H.empty with
  | none => rw [hc] at h; cases h
  | some r =>
    obtain ⟨x, h'⟩ := r
    rw [hc] at h
    unfold Runs CL
    rw [lim_of pu bodies ext hc]
    exact vsame_eq x v h

/-- A call of data alone answers data alone. -/
structure Ans (f : Nat) (args : List V) (v : V) : Prop where
  run : Runs CL f args H.empty fun v' _ => v' = v
  pa : noRefs pu args = true
  pv : noRefR pu v = true
theorem Ans.k {f : Nat} {args : List V} {v : V} (a : Ans f args v) (h : H) (k : V → H → Prop) : callK pu CL f args h k = k v h := callK_pure a.run a.pa a.pv h k
theorem Ans.d {f : Nat} {args : List V} {v : V} (a : Ans f args v) (h : H) (k : V → H → Cls → Prop) : callD pu CL false f args h k = k v h .pu := callD_pure h k a.run a.pa a.pv

/-! ### heaps that grow -/
def Grow (h h' : H) : Prop := h.n ≤ h'.n ∧ ∀ id o, h.get id = some o → h'.get id = some o
theorem Grow.refl (h : H) : Grow h h := ⟨Nat.le_refl _, fun _ _ k => k⟩
theorem Grow.trans {a b c : H} (h : Grow a b) (k : Grow b c) : Grow a c := ⟨Nat.le_trans h.1 k.1, fun id o q => k.2 id o (h.2 id o q)⟩
theorem Grow.push {h h' : H} (k : Grow h h') (o : Obj) : Grow h (h'.push o) := ⟨by have := k.1; rw [H.push_n]; omega, fun id o' q => by
  have h1 := k.2 id o' q
  have := H.lt_of h1
  rw [H.get_push', if_neg (by omega)]; exact h1⟩
theorem Grow.set {h h' : H} (k : Grow h h') {i : Nat} (hi : h.n ≤ i) (hh : h'.has i) (o : Obj) : Grow h (h'.set i o) := ⟨by have := k.1; rw [H.set_n]; exact this, fun id o' q => by
  have := H.lt_of q
  rw [H.get_set2 _ _ _ _ hh, if_neg (by omega)]; exact k.2 id o' q⟩
/-- A slice of ints that nobody writes. -/
def IntsAt (h : H) (v : V) (ns : List Int) : Prop := (v = .nilsl ∧ ns = []) ∨ ∃ id, v = .sl id 0 [] 6 0 ns.length none ∧ h.get id = some (.cells (.agg 23 (ns.map (V.i .i64))) false true)
theorem IntsAt.grow {h h' : H} {v : V} {ns : List Int} (a : IntsAt h v ns) (g : Grow h h') : IntsAt h' v ns := by
  rcases a with a | ⟨id, a, b⟩
  · exact .inl a
  · exact .inr ⟨id, a, g.2 _ _ b⟩

/-! ### integers -/

def r64 (n : Int) : Prop := -9223372036854775808 ≤ n ∧ n < 9223372036854775808
theorem wrap_i64 (n : Int) : IntKind.i64.wrap n = if 9223372036854775808 ≤ n % 18446744073709551616 then n % 18446744073709551616 - 18446744073709551616 else n % 18446744073709551616 := by
  show (if (true && decide (n % 18446744073709551616 ≥ 9223372036854775808)) = true then n % 18446744073709551616 - 18446744073709551616 else n % 18446744073709551616) = _
  by_cases h : 9223372036854775808 ≤ n % 18446744073709551616
  · rw [if_pos (by simpa using h), if_pos h]
  · rw [if_neg (by simpa using h), if_neg h]
theorem wrap_u64 (n : Int) : IntKind.u64.wrap n = n % 18446744073709551616 := by
  show (if (false && decide (n % 18446744073709551616 ≥ 9223372036854775808)) = true then n % 18446744073709551616 - 18446744073709551616 else n % 18446744073709551616) = _
  exact if_neg (by simp)
theorem wrap_u8 (n : Int) : IntKind.u8.wrap n = n % 256 := by
  show (if (false && decide (n % 256 ≥ 128)) = true then n % 256 - 256 else n % 256) = _
  exact if_neg (by simp)
theorem w64 {n : Int} (h : r64 n) : IntKind.i64.wrap n = n := by
  unfold r64 at h
  rw [wrap_i64]; split <;> omega
theorem r64_wrap (n : Int) : r64 (IntKind.i64.wrap n) := by
  unfold r64; rw [wrap_i64]; split <;> omega

theorem tmod_within (a n : Int) (hn : 0 < n) (hn' : n ≤ 4611686018427387904) : (if a.tmod n < 0 then IntKind.i64.wrap (a.tmod n + n) else a.tmod n) = a % n := by
  have h1 := Int.emod_nonneg a (show n ≠ 0 by omega)
  have h2 := Int.emod_lt_of_pos a hn
  rw [Int.tmod_eq_emod]
  split
  · rw [if_neg (by omega)]; omega
  · rw [if_pos (by omega), w64 (by unfold r64; omega)]; omega

theorem ans_within3 (a n : Int) (hn : 0 < n) (hn' : n ≤ 4611686018427387904) : Ans 3 [.i .i64 a, .i .i64 n] (.i .i64 (a % n)) := by
  refine ⟨run (fn := F3) rfl rfl ?_, rfl, rfl⟩
  unfold F3
  simp only [↓stepR, normR, Int.cast_ofNat_Int, Int.natCast_nonneg, Int.toNat_natCast, Nat.reduceMod, Nat.reduceDiv, Nat.reducePow, Nat.testBit_eq_decide_div_mod_eq, ↓reduceIte, Nat.reduceEqDiff, Nat.reduceAdd, Nat.reduceSub, Nat.reduceMul, Nat.reduceLT, Nat.reduceLeDiff, Int.reduceEq, Int.reduceLT, Int.reduceLE, Int.reduceAdd, Int.reduceSub, Int.reduceMul, Int.reduceNeg, Int.reduceToNat, reduceCtorEq, eq_self]
  refine ⟨by omega, ?_⟩
  simp only [↓stepR, normR, Int.cast_ofNat_Int, Int.natCast_nonneg, Int.toNat_natCast, Nat.reduceMod, Nat.reduceDiv, Nat.reducePow, Nat.testBit_eq_decide_div_mod_eq, ↓reduceIte, Nat.reduceEqDiff, Nat.reduceAdd, Nat.reduceSub, Nat.reduceMul, Nat.reduceLT, Nat.reduceLeDiff, Int.reduceEq, Int.reduceLT, Int.reduceLE, Int.reduceAdd, Int.reduceSub, Int.reduceMul, Int.reduceNeg, Int.reduceToNat, reduceCtorEq, eq_self]
  rw [← tmod_within a n hn hn']
  refine condK_dec (fun h1 => ?_) (fun h1 => ?_)
  · simp only [h1, ↓stepR, normR, Int.cast_ofNat_Int, Int.natCast_nonneg, Int.toNat_natCast, Nat.reduceMod, Nat.reduceDiv, Nat.reducePow, Nat.testBit_eq_decide_div_mod_eq, ↓reduceIte, Nat.reduceEqDiff, Nat.reduceAdd, Nat.reduceSub, Nat.reduceMul, Nat.reduceLT, Nat.reduceLeDiff, Int.reduceEq, Int.reduceLT, Int.reduceLE, Int.reduceAdd, Int.reduceSub, Int.reduceMul, Int.reduceNeg, Int.reduceToNat, reduceCtorEq, eq_self]
  · simp only [h1, ↓stepR, normR, Int.cast_ofNat_Int, Int.natCast_nonneg, Int.toNat_natCast, Nat.reduceMod, Nat.reduceDiv, Nat.reducePow, Nat.testBit_eq_decide_div_mod_eq, ↓reduceIte, Nat.reduceEqDiff, Nat.reduceAdd, Nat.reduceSub, Nat.reduceMul, Nat.reduceLT, Nat.reduceLeDiff, Int.reduceEq, Int.reduceLT, Int.reduceLE, Int.reduceAdd, Int.reduceSub, Int.reduceMul, Int.reduceNeg, Int.reduceToNat, reduceCtorEq, eq_self]
theorem call_within3 (a n : Int) (hn : 0 < n) (hn' : n ≤ 4611686018427387904) (h : H) (k : V → H → Prop) : callK pu CL 3 [.i .i64 a, .i .i64 n] h k = k (.i .i64 (a % n)) h := (ans_within3 a n hn hn').k h k
theorem dcall_within3 (a n : Int) (hn : 0 < n) (hn' : n ≤ 4611686018427387904) (h : H) (k : V → H → Cls → Prop) : callD pu CL false 3 [.i .i64 a, .i .i64 n] h k = k (.i .i64 (a % n)) h .pu := (ans_within3 a n hn hn').d h k

theorem ans_within43 (a n : Int) (hn : 0 < n) (hn' : n ≤ 4611686018427387904) : Ans 43 [.i .i64 a, .i .i64 n] (.i .i64 (a % n)) := by
  refine ⟨run (fn := F43) rfl rfl ?_, rfl, rfl⟩
  unfold F43
  simp only [↓stepR, normR, Int.cast_ofNat_Int, Int.natCast_nonneg, Int.toNat_natCast, Nat.reduceMod, Nat.reduceDiv, Nat.reducePow, Nat.testBit_eq_decide_div_mod_eq, ↓reduceIte, Nat.reduceEqDiff, Nat.reduceAdd, Nat.reduceSub, Nat.reduceMul, Nat.reduceLT, Nat.reduceLeDiff, Int.reduceEq, Int.reduceLT, Int.reduceLE, Int.reduceAdd, Int.reduceSub, Int.reduceMul, Int.reduceNeg, Int.reduceToNat, reduceCtorEq, eq_self]
  refine ⟨by omega, ?_⟩
  simp only [↓stepR, normR, Int.cast_ofNat_Int, Int.natCast_nonneg, Int.toNat_natCast, Nat.reduceMod, Nat.reduceDiv, Nat.reducePow, Nat.testBit_eq_decide_div_mod_eq, ↓reduceIte, Nat.reduceEqDiff, Nat.reduceAdd, Nat.reduceSub, Nat.reduceMul, Nat.reduceLT, Nat.reduceLeDiff, Int.reduceEq, Int.reduceLT, Int.reduceLE, Int.reduceAdd, Int.reduceSub, Int.reduceMul, Int.reduceNeg, Int.reduceToNat, reduceCtorEq, eq_self]
  rw [← tmod_within a n hn hn']
  refine condK_dec (fun h1 => ?_) (fun h1 => ?_)
  · simp only [h1, ↓stepR, normR, Int.cast_ofNat_Int, Int.natCast_nonneg, Int.toNat_natCast, Nat.reduceMod, Nat.reduceDiv, Nat.reducePow, Nat.testBit_eq_decide_div_mod_eq, ↓reduceIte, Nat.reduceEqDiff, Nat.reduceAdd, Nat.reduceSub, Nat.reduceMul, Nat.reduceLT, Nat.reduceLeDiff, Int.reduceEq, Int.reduceLT, Int.reduceLE, Int.reduceAdd, Int.reduceSub, Int.reduceMul, Int.reduceNeg, Int.reduceToNat, reduceCtorEq, eq_self]
  · simp only [h1, ↓stepR, normR, Int.cast_ofNat_Int, Int.natCast_nonneg, Int.toNat_natCast, Nat.reduceMod, Nat.reduceDiv, Nat.reducePow, Nat.testBit_eq_decide_div_mod_eq, ↓reduceIte, Nat.reduceEqDiff, Nat.reduceAdd, Nat.reduceSub, Nat.reduceMul, Nat.reduceLT, Nat.reduceLeDiff, Int.reduceEq, Int.reduceLT, Int.reduceLE, Int.reduceAdd, Int.reduceSub, Int.reduceMul, Int.reduceNeg, Int.reduceToNat, reduceCtorEq, eq_self]
theorem call_within43 (a n : Int) (hn : 0 < n) (hn' : n ≤ 4611686018427387904) (h : H) (k : V → H → Prop) : callK pu CL 43 [.i .i64 a, .i .i64 n] h k = k (.i .i64 (a % n)) h := (ans_within43 a n hn hn').k h k
theorem dcall_within43 (a n : Int) (hn : 0 < n) (hn' : n ≤ 4611686018427387904) (h : H) (k : V → H → Cls → Prop) : callD pu CL false 43 [.i .i64 a, .i .i64 n] h k = k (.i .i64 (a % n)) h .pu := (ans_within43 a n hn hn').d h k

end Go.Rae.Order
