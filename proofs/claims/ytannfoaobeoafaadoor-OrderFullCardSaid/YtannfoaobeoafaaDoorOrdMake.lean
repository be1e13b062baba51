/- Make: pools out of numbers. -/
import Derived.Test.YtannfoaobeoafaaDoorOrdApply
set_option linter.unusedVariables false
set_option linter.unusedSimpArgs false
namespace Go.Rae.Order
set_option maxRecDepth 100000

def keyS (n : Int) : Key := ⟨IntKind.u64.wrap (IntKind.u64.wrap n * 11400714819323198485), bitF .xor .u64 (IntKind.u64.wrap n) 19088743⟩
theorem ans_key9 (n : Int) : Ans 9 [.i .i64 n] ((keyS n).v) := by
  refine ⟨run (fn := F9) rfl rfl ?_, rfl, rfl⟩
  unfold F9
  simp only [↓stepR, normR, Int.cast_ofNat_Int, Int.natCast_nonneg, Int.toNat_natCast, Nat.reduceMod, Nat.reduceDiv, Nat.reducePow, Nat.testBit_eq_decide_div_mod_eq, ↓reduceIte, Nat.reduceEqDiff, Nat.reduceAdd, Nat.reduceSub, Nat.reduceMul, Nat.reduceLT, Nat.reduceLeDiff, Int.reduceEq, Int.reduceLT, Int.reduceLE, Int.reduceAdd, Int.reduceSub, Int.reduceMul, Int.reduceNeg, Int.reduceToNat, reduceCtorEq, eq_self]
  rfl
theorem call_key9 (n : Int) (h : H) (k : V → H → Prop) : callK pu CL 9 [.i .i64 n] h k = k ((keyS n).v) h := (ans_key9 n).k h k
theorem dcall_key9 (n : Int) (h : H) (k : V → H → Cls → Prop) : callD pu CL false 9 [.i .i64 n] h k = k ((keyS n).v) h .pu := (ans_key9 n).d h k

def entS (n : Int) : Entry :=
  let k := n % 1125899906842624
  let s := if k / 48 % 29 = 0 then k / 48 % 66 else k / 8 % 6
  if k % 8 = 0 ∨ k % 8 = 1 then ⟨1, s, k / 400 % 5, k / 2000 % 3, 1 + k / 6000 % 8, key0⟩
  else if k % 8 = 2 then ⟨2, s, 0, 0, 0, key0⟩
  else if k % 8 = 3 then ⟨3, s, 0, 0, 0, key0⟩
  else if k % 8 = 4 then ⟨4, s, 0, 0, 0, key0⟩
  else if k % 8 = 5 then ⟨5, s, 0, 0, 0, key0⟩
  else ⟨6, 0, 0, 0, 0, keyS k⟩

theorem quo_pos {a b : Int} (ha : 0 ≤ a) (hb : 0 < b) (h : a < 4611686018427387904) : IntKind.i64.wrap (a.tdiv b) = a / b := by
  rw [Int.tdiv_eq_ediv_of_nonneg ha]
  have h1 : 0 ≤ a / b := Int.ediv_nonneg ha (by omega)
  have h2 : a / b ≤ a := Int.ediv_le_self _ ha
  exact w64 (by unfold r64; omega)
theorem rem_pos {a b : Int} (ha : 0 ≤ a) : a.tmod b = a % b := Int.tmod_eq_emod_of_nonneg ha

theorem ans_entry19 (n : Int) : Ans 19 [.i .i64 n] ((entS n).v) := by
  refine ⟨run (fn := F19) rfl rfl ?_, rfl, rfl⟩
  unfold F19
  have hk0 : 0 ≤ n % 1125899906842624 := by omega
  have hk1 : n % 1125899906842624 < 1125899906842624 := by omega
  have hw := call_within43 n 1125899906842624 (by decide) (by decide)
  unfold entS
  generalize n % 1125899906842624 = k at *
  have q8 : IntKind.i64.wrap (k.tdiv 8) = k / 8 := quo_pos hk0 (by decide) (by omega)
  have q48 : IntKind.i64.wrap (k.tdiv 48) = k / 48 := quo_pos hk0 (by decide) (by omega)
  have q400 : IntKind.i64.wrap (k.tdiv 400) = k / 400 := quo_pos hk0 (by decide) (by omega)
  have q2000 : IntKind.i64.wrap (k.tdiv 2000) = k / 2000 := quo_pos hk0 (by decide) (by omega)
  have q6000 : IntKind.i64.wrap (k.tdiv 6000) = k / 6000 := quo_pos hk0 (by decide) (by omega)
  have m8 : (k / 8).tmod 6 = k / 8 % 6 := rem_pos (by omega)
  have m48 : (k / 48).tmod 29 = k / 48 % 29 := rem_pos (by omega)
  have m48' : (k / 48).tmod 66 = k / 48 % 66 := rem_pos (by omega)
  have m400 : (k / 400).tmod 5 = k / 400 % 5 := rem_pos (by omega)
  have m2000 : (k / 2000).tmod 3 = k / 2000 % 3 := rem_pos (by omega)
  have m6000 : (k / 6000).tmod 8 = k / 6000 % 8 := rem_pos (by omega)
  have mk : k.tmod 8 = k % 8 := rem_pos (by omega)
  have w1 : IntKind.i64.wrap (1 + k / 6000 % 8) = 1 + k / 6000 % 8 := w64 (by unfold r64; omega)
  have hc : k % 8 = 0 ∨ k % 8 = 1 ∨ k % 8 = 2 ∨ k % 8 = 3 ∨ k % 8 = 4 ∨ k % 8 = 5 ∨ k % 8 = 6 ∨ k % 8 = 7 := by omega
  by_cases c : k / 48 % 29 = 0
  · rcases hc with c2 | c2 | c2 | c2 | c2 | c2 | c2 | c2
    all_goals
      simp only [hw, q8, q48, q400, q2000, q6000, m8, m48, m48', m400, m2000, m6000, mk, w1, c, c2, call_key9, Key.sh, Key.nt, ↓stepR, normR, Int.cast_ofNat_Int, Int.natCast_nonneg, Int.toNat_natCast, Nat.reduceMod, Nat.reduceDiv, Nat.reducePow, Nat.testBit_eq_decide_div_mod_eq, ↓reduceIte, Nat.reduceEqDiff, Nat.reduceAdd, Nat.reduceSub, Nat.reduceMul, Nat.reduceLT, Nat.reduceLeDiff, Int.reduceEq, Int.reduceLT, Int.reduceLE, Int.reduceAdd, Int.reduceSub, Int.reduceMul, Int.reduceNeg, Int.reduceToNat, reduceCtorEq, eq_self]
      first | rfl | (simp [c, c2]; done) | (simp [c, c2]; rfl)
  · rcases hc with c2 | c2 | c2 | c2 | c2 | c2 | c2 | c2
    all_goals
      simp only [hw, q8, q48, q400, q2000, q6000, m8, m48, m48', m400, m2000, m6000, mk, w1, c, c2, call_key9, Key.sh, Key.nt, ↓stepR, normR, Int.cast_ofNat_Int, Int.natCast_nonneg, Int.toNat_natCast, Nat.reduceMod, Nat.reduceDiv, Nat.reducePow, Nat.testBit_eq_decide_div_mod_eq, ↓reduceIte, Nat.reduceEqDiff, Nat.reduceAdd, Nat.reduceSub, Nat.reduceMul, Nat.reduceLT, Nat.reduceLeDiff, Int.reduceEq, Int.reduceLT, Int.reduceLE, Int.reduceAdd, Int.reduceSub, Int.reduceMul, Int.reduceNeg, Int.reduceToNat, reduceCtorEq, eq_self]
      first | rfl | (simp [c, c2]; done) | (simp [c, c2]; rfl)
theorem call_entry19 (n : Int) (h : H) (k : V → H → Prop) : callK pu CL 19 [.i .i64 n] h k = k ((entS n).v) h := (ans_entry19 n).k h k
theorem dcall_entry19 (n : Int) (h : H) (k : V → H → Cls → Prop) : callD pu CL false 19 [.i .i64 n] h k = k ((entS n).v) h .pu := (ans_entry19 n).d h k

def pool1 : Pool := ⟨0, 10, 80, List.replicate 64 slot0, ⟨1, key0, keyS 1, keyS 2⟩⟩
theorem new_run : runIs (acall pu bodies ext 100000 60 33 [.i .i64 10, .i .i64 80, (keyS 1).v, (keyS 2).v] H.empty) (.tup [pool1.v, .i .i64 0]) = true := by decide +kernel
theorem ans_new33  : Ans 33 [.i .i64 10, .i .i64 80, (keyS 1).v, (keyS 2).v] (.tup [pool1.v, .i .i64 0]) := by
  exact ⟨runs_closed new_run, rfl, rfl⟩
theorem call_new33  (h : H) (k : V → H → Prop) : callK pu CL 33 [.i .i64 10, .i .i64 80, (keyS 1).v, (keyS 2).v] h k = k (.tup [pool1.v, .i .i64 0]) h := (ans_new33 ).k h k
theorem dcall_new33  (h : H) (k : V → H → Cls → Prop) : callD pu CL false 33 [.i .i64 10, .i .i64 80, (keyS 1).v, (keyS 2).v] h k = k (.tup [pool1.v, .i .i64 0]) h .pu := (ans_new33 ).d h k

/-- What entries so far have made; those that are refused left out. -/
def foldS (p : Pool) : List Int → Pool
  | [] => p
  | n :: ns => foldS (if applyE p (entS n) = 0 then applyS p (entS n) else p) ns
def makeS (ns : List Int) (most : Nat) : Pool := foldS pool1 (ns.take most)

theorem applyS_len (p : Pool) (e : Entry) (hp : p.slots.length = 64) : (applyS p e).slots.length = 64 := by
  unfold applyS; split
  · simp [doS, hp]
  · rfl
theorem foldS_len : ∀ (ns : List Int) (p : Pool), p.slots.length = 64 → (foldS p ns).slots.length = 64 := by
  intro ns
  induction ns with
  | nil => intro p h; exact h
  | cons n ns ih => intro p h; simp only [foldS]; apply ih; split
                    · exact applyS_len p _ h
                    · exact h
theorem makeS_len (ns : List Int) (most : Nat) : (makeS ns most).slots.length = 64 := foldS_len _ _ rfl
theorem foldS_snoc (p : Pool) (l : List Int) (n : Int) : foldS p (l ++ [n]) = (if applyE (foldS p l) (entS n) = 0 then applyS (foldS p l) (entS n) else foldS p l) := by
  induction l generalizing p with
  | nil => rfl
  | cons x l ih => rw [List.cons_append, foldS, ih]; rfl

theorem zpool1 : noId (.agg 15 [.i .i64 0, .i .i64 0, .i .i64 0, .agg 12 (List.replicate 64 (.agg 11 [.i .i64 0, .i .i64 0, .i .i64 0, .i .i64 0, .i .i64 0])), .agg 14 [.i .i64 0, .agg 13 [.i .u64 0, .i .u64 0], .agg 13 [.i .u64 0, .i .u64 0], .agg 13 [.i .u64 0, .i .u64 0]]]) = true := by decide +kernel
theorem zpool2 : noId pool0.v = true := zpool1

theorem make_runs (v : V) (ns : List Int) (most : Nat) (hm : most < 4611686018427387904) (h : H) (hv : IntsAt h v ns) : Runs CL 2 [v, .i .i64 most] h fun w h' => w = (makeS ns most).v ∧ Grow h h' := by
  have vt : v.isTup = false := by rcases hv with ⟨rfl, _⟩ | ⟨_, rfl, _⟩ <;> rfl
  refine run (fn := F2) rfl rfl ?_
  unfold F2
  simp only [call_key9, call_new33, Slot.sh, Slot.nt, Key.sh, Key.nt, Ring.sh, Ring.nt, Pool.sh, Pool.nt, Entry.sh, Entry.nt, vt, ↓stepR, normR, Int.cast_ofNat_Int, Int.natCast_nonneg, Int.toNat_natCast, Nat.reduceMod, Nat.reduceDiv, Nat.reducePow, Nat.testBit_eq_decide_div_mod_eq, ↓reduceIte, Nat.reduceEqDiff, Nat.reduceAdd, Nat.reduceSub, Nat.reduceMul, Nat.reduceLT, Nat.reduceLeDiff, Int.reduceEq, Int.reduceLT, Int.reduceLE, Int.reduceAdd, Int.reduceSub, Int.reduceMul, Int.reduceNeg, Int.reduceToNat, reduceCtorEq, eq_self]
  refine W_up ns.length (fun i e hh => e = [(0, v), (1, .i .i64 most), (4, .ptr h.n 0 [] 15), (5, .ptr (h.n + 1) 0 [] 15), (7, .i .i64 i)] ∧ hh.get h.n = some (.cells pool0.v false false) ∧ hh.get (h.n + 1) = some (.cells (foldS pool1 (ns.take i)).v false false) ∧ i ≤ most ∧ Grow h hh) ?_ 0 (by omega) _ _ ?_
  · rintro i e hh hi ⟨rfl, hg4, hg5, him, hG⟩
    have h5 := H.lt_of hg5
    have n1 : ¬ h.n = hh.n := by omega
    have n2 : ¬ h.n + 1 = hh.n := by omega
    have n3 : hh.has h.n := H.has_of hg4
    have n4 : hh.has (h.n + 1) := H.has_of hg5
    rcases hv with ⟨rfl, rfl⟩ | ⟨id, rfl, hgi⟩
    · obtain rfl : i = 0 := by simpa using hi
      simp only [objK_of hg4, objK_of hg5, Slot.sh, Slot.nt, Key.sh, Key.nt, Ring.sh, Ring.nt, Pool.sh, Pool.nt, Entry.sh, Entry.nt, n3, ↓stepR, normR, Int.cast_ofNat_Int, Int.natCast_nonneg, Int.toNat_natCast, Nat.reduceMod, Nat.reduceDiv, Nat.reducePow, Nat.testBit_eq_decide_div_mod_eq, ↓reduceIte, Nat.reduceEqDiff, Nat.reduceAdd, Nat.reduceSub, Nat.reduceMul, Nat.reduceLT, Nat.reduceLeDiff, Int.reduceEq, Int.reduceLT, Int.reduceLE, Int.reduceAdd, Int.reduceSub, Int.reduceMul, Int.reduceNeg, Int.reduceToNat, reduceCtorEq, eq_self]
      refine ⟨by simp [makeS], ?_⟩
      exact hG.set (Nat.le_refl _) n3 _
    · have hgi' := hG.2 _ _ hgi
      by_cases c1 : (i : Int) < (ns.length : Int)
      · by_cases c2 : (i : Int) < (most : Int)
        · have hi' : i < ns.length := by omega
          have hlen := foldS_len (ns.take i) pool1 rfl
          have hap := dcall_apply27 (foldS pool1 (ns.take i)) hlen (entS ns[i])
          have hw := @wrap_up i (by omega)
          have htk : ns.take (i + 1) = ns.take i ++ [ns[i]] := by rw [List.take_add_one, List.getElem?_eq_getElem hi']; rfl
          by_cases c3 : applyE (foldS pool1 (ns.take i)) (entS ns[i]) = 0
          · simp only [c1, c2, objK_of hg5, objK_of hgi', nthK_map _ _ _ _ hi', Slot.sh, Slot.nt, Key.sh, Key.nt, Ring.sh, Ring.nt, Pool.sh, Pool.nt, Entry.sh, Entry.nt, dcall_entry19, hap, zpool1, zpool2, Bool.and_true, n1, n2, n3, n4, c3, ↓stepR, normR, Int.cast_ofNat_Int, Int.natCast_nonneg, Int.toNat_natCast, Nat.reduceMod, Nat.reduceDiv, Nat.reducePow, Nat.testBit_eq_decide_div_mod_eq, ↓reduceIte, Nat.reduceEqDiff, Nat.reduceAdd, Nat.reduceSub, Nat.reduceMul, Nat.reduceLT, Nat.reduceLeDiff, Int.reduceEq, Int.reduceLT, Int.reduceLE, Int.reduceAdd, Int.reduceSub, Int.reduceMul, Int.reduceNeg, Int.reduceToNat, reduceCtorEq, eq_self]
            refine ⟨hi', by rw [hw], hg4, by rw [htk, foldS_snoc, if_pos c3], by omega, ?_⟩
            refine ((hG.push _).set hG.1 ?_ _).set (by omega) ?_ _
            · rw [H.has_push]; exact .inl rfl
            · rw [H.has_set, H.has_push]; exact .inr n4
          · simp only [c1, c2, objK_of hg5, objK_of hgi', nthK_map _ _ _ _ hi', Slot.sh, Slot.nt, Key.sh, Key.nt, Ring.sh, Ring.nt, Pool.sh, Pool.nt, Entry.sh, Entry.nt, dcall_entry19, hap, zpool1, zpool2, Bool.and_true, n1, n2, n3, n4, c3, ↓stepR, normR, Int.cast_ofNat_Int, Int.natCast_nonneg, Int.toNat_natCast, Nat.reduceMod, Nat.reduceDiv, Nat.reducePow, Nat.testBit_eq_decide_div_mod_eq, ↓reduceIte, Nat.reduceEqDiff, Nat.reduceAdd, Nat.reduceSub, Nat.reduceMul, Nat.reduceLT, Nat.reduceLeDiff, Int.reduceEq, Int.reduceLT, Int.reduceLE, Int.reduceAdd, Int.reduceSub, Int.reduceMul, Int.reduceNeg, Int.reduceToNat, reduceCtorEq, eq_self]
            refine ⟨hi', by rw [hw], hg4, by rw [htk, foldS_snoc, if_neg c3]; exact hg5, by omega, ?_⟩
            refine (hG.push _).set hG.1 ?_ _
            rw [H.has_push]; exact .inl rfl
        · simp only [c1, c2, objK_of hg4, objK_of hg5, Slot.sh, Slot.nt, Key.sh, Key.nt, Ring.sh, Ring.nt, Pool.sh, Pool.nt, Entry.sh, Entry.nt, n3, ↓stepR, normR, Int.cast_ofNat_Int, Int.natCast_nonneg, Int.toNat_natCast, Nat.reduceMod, Nat.reduceDiv, Nat.reducePow, Nat.testBit_eq_decide_div_mod_eq, ↓reduceIte, Nat.reduceEqDiff, Nat.reduceAdd, Nat.reduceSub, Nat.reduceMul, Nat.reduceLT, Nat.reduceLeDiff, Int.reduceEq, Int.reduceLT, Int.reduceLE, Int.reduceAdd, Int.reduceSub, Int.reduceMul, Int.reduceNeg, Int.reduceToNat, reduceCtorEq, eq_self]
          have : ns.take i = ns.take most := by rw [show i = most by omega]
          refine ⟨by rw [this]; rfl, ?_⟩
          exact hG.set (Nat.le_refl _) n3 _
      · simp only [c1, objK_of hg4, objK_of hg5, Slot.sh, Slot.nt, Key.sh, Key.nt, Ring.sh, Ring.nt, Pool.sh, Pool.nt, Entry.sh, Entry.nt, n3, ↓stepR, normR, Int.cast_ofNat_Int, Int.natCast_nonneg, Int.toNat_natCast, Nat.reduceMod, Nat.reduceDiv, Nat.reducePow, Nat.testBit_eq_decide_div_mod_eq, ↓reduceIte, Nat.reduceEqDiff, Nat.reduceAdd, Nat.reduceSub, Nat.reduceMul, Nat.reduceLT, Nat.reduceLeDiff, Int.reduceEq, Int.reduceLT, Int.reduceLE, Int.reduceAdd, Int.reduceSub, Int.reduceMul, Int.reduceNeg, Int.reduceToNat, reduceCtorEq, eq_self]
        have : ns.take i = ns.take most := by rw [List.take_of_length_le (by omega), List.take_of_length_le (by omega)]
        refine ⟨by rw [this]; rfl, ?_⟩
        exact hG.set (Nat.le_refl _) n3 _
  · simp only [↓stepR, normR, Int.cast_ofNat_Int, Int.natCast_nonneg, Int.toNat_natCast, Nat.reduceMod, Nat.reduceDiv, Nat.reducePow, Nat.testBit_eq_decide_div_mod_eq, ↓reduceIte, Nat.reduceEqDiff, Nat.reduceAdd, Nat.reduceSub, Nat.reduceMul, Nat.reduceLT, Nat.reduceLeDiff, Int.reduceEq, Int.reduceLT, Int.reduceLE, Int.reduceAdd, Int.reduceSub, Int.reduceMul, Int.reduceNeg, Int.reduceToNat, reduceCtorEq, eq_self]
    refine ⟨rfl, rfl, by omega, ?_⟩
    refine (((Grow.refl h).push _).push _).set (by omega) ?_ _
    rw [H.has_push]; exact .inl rfl

/-- A call that reads ints and makes a pool. -/
theorem call_make (v : V) (ns : List Int) (most : Nat) (hm : most < 4611686018427387904) (h : H) (hv : IntsAt h v ns) (k : V → H → Prop) (hk : ∀ h', Grow h h' → k (makeS ns most).v h') : callK pu CL 2 [v, .i .i64 most] h k := by
  have hr := make_runs v ns most hm h hv
  have e : callK pu CL 2 [v, .i .i64 most] h k = Runs CL 2 [v, .i .i64 most] h k := by
    rcases hv with ⟨rfl, _⟩ | ⟨id, rfl, _⟩ <;> exact callK_refs rfl
  rw [e]
  exact hr.mono fun w h' ⟨a, b⟩ => by subst a; exact hk h' b

end Go.Rae.Order
