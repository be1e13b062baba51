/- The data of the pool as plain Lean. -/
import Derived.Test.YtannfoaobeoafaaDoorOrdBase
set_option linter.unusedVariables false
set_option linter.unusedSimpArgs false
namespace Go.Rae.Order

structure Slot where
  (state addr port weight since : Int)
  deriving DecidableEq, Inhabited
structure Key where
  (a b : Int)
  deriving DecidableEq, Inhabited
structure Ring where
  (epoch : Int) (prev cur next : Key)
  deriving DecidableEq, Inhabited
structure Pool where
  (version addr port : Int) (slots : List Slot) (ring : Ring)
  deriving DecidableEq, Inhabited
structure Entry where
  (kind slot addr port weight : Int) (key : Key)
  deriving DecidableEq, Inhabited

def Slot.v (s : Slot) : V := .agg 11 [.i .i64 s.state, .i .i64 s.addr, .i .i64 s.port, .i .i64 s.weight, .i .i64 s.since]
def Key.v (k : Key) : V := .agg 13 [.i .u64 k.a, .i .u64 k.b]
def Ring.v (r : Ring) : V := .agg 14 [.i .i64 r.epoch, r.prev.v, r.cur.v, r.next.v]
def Pool.v (p : Pool) : V := .agg 15 [.i .i64 p.version, .i .i64 p.addr, .i .i64 p.port, .agg 12 (p.slots.map Slot.v), p.ring.v]
def Entry.v (e : Entry) : V := .agg 16 [.i .i64 e.kind, .i .i64 e.slot, .i .i64 e.addr, .i .i64 e.port, .i .i64 e.weight, e.key.v]

theorem Slot.sh (s : Slot) : s.v.sh = 11 := rfl
theorem Slot.nt (s : Slot) : s.v.isTup = false := rfl
theorem Key.sh (s : Key) : s.v.sh = 13 := rfl
theorem Key.nt (s : Key) : s.v.isTup = false := rfl
theorem Ring.sh (s : Ring) : s.v.sh = 14 := rfl
theorem Ring.nt (s : Ring) : s.v.isTup = false := rfl
theorem Pool.sh (s : Pool) : s.v.sh = 15 := rfl
theorem Pool.nt (s : Pool) : s.v.isTup = false := rfl
theorem Entry.sh (s : Entry) : s.v.sh = 16 := rfl
theorem Entry.nt (s : Entry) : s.v.isTup = false := rfl

def key0 : Key := ⟨0, 0⟩
def slot0 : Slot := ⟨0, 0, 0, 0, 0⟩
def entry0 : Entry := ⟨0, 0, 0, 0, 0, key0⟩
def ring0 : Ring := ⟨0, key0, key0, key0⟩
def pool0 : Pool := ⟨0, 0, 0, List.replicate 64 slot0, ring0⟩

theorem veq_i (k k' : IntKind) (a b : Int) : veq (.i k a) (.i k' b) = decide (a = b) := by simp only [veq]; exact Bool.beq_eq_decide_eq a b
theorem veq_agg (k : Nat) (l m : List V) : veq (.agg k l) (.agg k m) = veqs l m := by simp [veq]
theorem veqs_nil : veqs [] [] = true := rfl
theorem veqs_cons (a b : V) (l m : List V) : veqs (a :: l) (b :: m) = (veq a b && veqs l m) := rfl
theorem Key.veq (a b : Key) : Rae.veq a.v b.v = decide (a = b) := by
  obtain ⟨a1, a2⟩ := a; obtain ⟨b1, b2⟩ := b
  simp only [Key.v, veq_agg, veqs_cons, veqs_nil, veq_i, Key.mk.injEq, Bool.and_true, Bool.decide_and]
theorem Slot.veq (a b : Slot) : Rae.veq a.v b.v = decide (a = b) := by
  obtain ⟨a1, a2, a3, a4, a5⟩ := a; obtain ⟨b1, b2, b3, b4, b5⟩ := b
  simp only [Slot.v, veq_agg, veqs_cons, veqs_nil, veq_i, Slot.mk.injEq, Bool.and_true, Bool.decide_and]
theorem Entry.veq (a b : Entry) : Rae.veq a.v b.v = decide (a = b) := by
  obtain ⟨a1, a2, a3, a4, a5, a6⟩ := a; obtain ⟨b1, b2, b3, b4, b5, b6⟩ := b
  simp only [Entry.v, veq_agg, veqs_cons, veqs_nil, veq_i, Key.veq, Entry.mk.injEq, Bool.and_true, Bool.decide_and]
theorem Ring.veq (a b : Ring) : Rae.veq a.v b.v = decide (a = b) := by
  obtain ⟨a1, a2, a3, a4⟩ := a; obtain ⟨b1, b2, b3, b4⟩ := b
  simp only [Ring.v, veq_agg, veqs_cons, veqs_nil, veq_i, Key.veq, Ring.mk.injEq, Bool.and_true, Bool.decide_and]
theorem veqs_slots : ∀ (l m : List Slot), veqs (l.map Slot.v) (m.map Slot.v) = decide (l = m) := by
  intro l
  induction l with
  | nil => intro m; cases m <;> simp [veqs]
  | cons x l ih => intro m; cases m with
    | nil => simp [veqs]
    | cons y m => simp only [List.map_cons, veqs_cons, Slot.veq, ih, List.cons.injEq, Bool.decide_and]
theorem Pool.veq (a b : Pool) : Rae.veq a.v b.v = decide (a = b) := by
  obtain ⟨a1, a2, a3, a4, a5⟩ := a; obtain ⟨b1, b2, b3, b4, b5⟩ := b
  simp only [Pool.v, veq_agg, veqs_cons, veqs_nil, veq_i, veqs_slots, Ring.veq, Pool.mk.injEq, Bool.and_true, Bool.decide_and]

/-! ### entries that may be -/
def outS (n a b : Int) : Bool := decide (n < a) || decide (b < n)
def checkS (e : Entry) : Int :=
  if e.kind < 1 ∨ 6 < e.kind then 2
  else if e.slot < 0 ∨ 63 < e.slot ∨ e.kind = 6 ∧ e.slot ≠ 0 then 11
  else if e.kind = 1 then (if e.addr < 0 ∨ 4294967295 < e.addr ∨ e.port < 0 ∨ 65535 < e.port ∨ e.weight < 1 ∨ 8 < e.weight ∨ e.key ≠ key0 then 14 else 0)
  else if e.addr ≠ 0 ∨ e.port ≠ 0 ∨ e.weight ≠ 0 ∨ e.kind ≠ 6 ∧ e.key ≠ key0 then 14 else 0

theorem ans_placed (a b : Int) : Ans 60 [.i .i64 a, .i .i64 b] (.b (decide (0 ≤ a ∧ a ≤ 4294967295 ∧ 0 ≤ b ∧ b ≤ 65535))) := by
  refine ⟨run (fn := F60) rfl rfl ?_, rfl, rfl⟩
  unfold F60
  repeat' (first | simp only [*, ↓stepR, normR, Int.cast_ofNat_Int, Int.natCast_nonneg, Int.toNat_natCast, Nat.reduceMod, Nat.reduceDiv, Nat.reducePow, Nat.testBit_eq_decide_div_mod_eq, ↓reduceIte, Nat.reduceEqDiff, Nat.reduceAdd, Nat.reduceSub, Nat.reduceMul, Nat.reduceLT, Nat.reduceLeDiff, Int.reduceEq, Int.reduceLT, Int.reduceLE, Int.reduceAdd, Int.reduceSub, Int.reduceMul, Int.reduceNeg, Int.reduceToNat, reduceCtorEq, eq_self] | refine condK_dec (fun _ => ?_) (fun _ => ?_))
  all_goals simp_all
theorem call_placed (a b : Int) (h : H) (k : V → H → Prop) : callK pu CL 60 [.i .i64 a, .i .i64 b] h k = k (.b (decide (0 ≤ a ∧ a ≤ 4294967295 ∧ 0 ≤ b ∧ b ≤ 65535))) h := (ans_placed a b).k h k
theorem dcall_placed (a b : Int) (h : H) (k : V → H → Cls → Prop) : callD pu CL false 60 [.i .i64 a, .i .i64 b] h k = k (.b (decide (0 ≤ a ∧ a ≤ 4294967295 ∧ 0 ≤ b ∧ b ≤ 65535))) h .pu := (ans_placed a b).d h k

theorem ans_out (n a b : Int) : Ans 44 [.i .i64 n, .i .i64 a, .i .i64 b] (.b (outS n a b)) := by
  refine ⟨run (fn := F44) rfl rfl ?_, rfl, rfl⟩
  unfold F44 outS
  repeat' (first | simp only [*, ↓stepR, normR, Int.cast_ofNat_Int, Int.natCast_nonneg, Int.toNat_natCast, Nat.reduceMod, Nat.reduceDiv, Nat.reducePow, Nat.testBit_eq_decide_div_mod_eq, ↓reduceIte, Nat.reduceEqDiff, Nat.reduceAdd, Nat.reduceSub, Nat.reduceMul, Nat.reduceLT, Nat.reduceLeDiff, Int.reduceEq, Int.reduceLT, Int.reduceLE, Int.reduceAdd, Int.reduceSub, Int.reduceMul, Int.reduceNeg, Int.reduceToNat, reduceCtorEq, eq_self] | refine condK_dec (fun _ => ?_) (fun _ => ?_))
  all_goals simp_all
theorem call_out (n a b : Int) (h : H) (k : V → H → Prop) : callK pu CL 44 [.i .i64 n, .i .i64 a, .i .i64 b] h k = k (.b (outS n a b)) h := (ans_out n a b).k h k
theorem dcall_out (n a b : Int) (h : H) (k : V → H → Cls → Prop) : callD pu CL false 44 [.i .i64 n, .i .i64 a, .i .i64 b] h k = k (.b (outS n a b)) h .pu := (ans_out n a b).d h k

end Go.Rae.Order
