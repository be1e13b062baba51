/- Slices of entries. -/
import Derived.Test.YtannfoaobeoafaaDoorOrdMake
set_option linter.unusedVariables false
set_option linter.unusedSimpArgs false
namespace Go.Rae.Order
set_option maxRecDepth 100000

/-- A slice that reads as entries. -/
def EntsR (h : H) (v : V) (es : List Entry) : Prop :=
  (v = .nilsl ∧ es = []) ∨ ∃ id st cap g, v = .sl id st [] 16 0 es.length cap ∧ h.get id = some (.cells (.agg 17 (es.map Entry.v)) g false) ∧ st = (if g then es.length else 0)
/-- One that may be appended to, of memory from n0 on. -/
def EntsN (n0 : Nat) (h : H) (v : V) (es : List Entry) : Prop :=
  (v = .nilsl ∧ es = []) ∨ (∃ id, n0 ≤ id ∧ v = .sl id 0 [] 16 0 es.length (some es.length) ∧ h.get id = some (.cells (.agg 17 (es.map Entry.v)) false false)) ∨
    ∃ id, n0 ≤ id ∧ v = .sl id es.length [] 16 0 es.length none ∧ h.get id = some (.cells (.agg 17 (es.map Entry.v)) true false)

theorem EntsN.r {n0 : Nat} {h : H} {v : V} {es : List Entry} (a : EntsN n0 h v es) : EntsR h v es := by
  rcases a with a | ⟨id, _, a, b⟩ | ⟨id, _, a, b⟩
  · exact .inl a
  · exact .inr ⟨id, 0, _, false, a, b, rfl⟩
  · exact .inr ⟨id, _, _, true, a, b, rfl⟩
/-- A slice that reads as entries, of memory from n0 on. -/
def EntsF (n0 : Nat) (h : H) (v : V) (es : List Entry) : Prop :=
  (v = .nilsl ∧ es = []) ∨ ∃ id st cap g, n0 ≤ id ∧ v = .sl id st [] 16 0 es.length cap ∧ h.get id = some (.cells (.agg 17 (es.map Entry.v)) g false) ∧ st = (if g then es.length else 0)
theorem EntsF.r {n0 : Nat} {h : H} {v : V} {es : List Entry} (a : EntsF n0 h v es) : EntsR h v es := by
  rcases a with a | ⟨id, st, cap, q, _, a, b, c⟩
  · exact .inl a
  · exact .inr ⟨id, st, cap, q, a, b, c⟩
theorem EntsF.mono {n0 n1 : Nat} {h : H} {v : V} {es : List Entry} (a : EntsF n0 h v es) (hn : n1 ≤ n0) : EntsF n1 h v es := by
  rcases a with a | ⟨id, st, cap, q, d, a, b, c⟩
  · exact .inl a
  · exact .inr ⟨id, st, cap, q, Nat.le_trans hn d, a, b, c⟩
theorem EntsF.grow {n0 : Nat} {h h' : H} {v : V} {es : List Entry} (a : EntsF n0 h v es) (g : Grow h h') : EntsF n0 h' v es := by
  rcases a with a | ⟨id, st, cap, q, d, a, b, c⟩
  · exact .inl a
  · exact .inr ⟨id, st, cap, q, d, a, g.2 _ _ b, c⟩
theorem EntsN.f {n0 : Nat} {h : H} {v : V} {es : List Entry} (a : EntsN n0 h v es) : EntsF n0 h v es := by
  rcases a with a | ⟨id, d, a, b⟩ | ⟨id, d, a, b⟩
  · exact .inl a
  · exact .inr ⟨id, 0, _, false, d, a, b, rfl⟩
  · exact .inr ⟨id, _, _, true, d, a, b, rfl⟩
theorem EntsR.grow {h h' : H} {v : V} {es : List Entry} (a : EntsR h v es) (g : Grow h h') : EntsR h' v es := by
  rcases a with a | ⟨id, st, cap, q, a, b, c⟩
  · exact .inl a
  · exact .inr ⟨id, st, cap, q, a, g.2 _ _ b, c⟩
theorem EntsN.grow {n0 : Nat} {h h' : H} {v : V} {es : List Entry} (a : EntsN n0 h v es) (g : Grow h h') : EntsN n0 h' v es := by
  rcases a with a | ⟨id, p, a, b⟩ | ⟨id, p, a, b⟩
  · exact .inl a
  · exact .inr (.inl ⟨id, p, a, g.2 _ _ b⟩)
  · exact .inr (.inr ⟨id, p, a, g.2 _ _ b⟩)
theorem EntsR.nr {h : H} {v : V} {es : List Entry} (a : EntsR h v es) : noRefR pu v = false := by
  rcases a with ⟨rfl, _⟩ | ⟨id, st, cap, q, rfl, _⟩ <;> rfl
theorem EntsR.nt {h : H} {v : V} {es : List Entry} (a : EntsR h v es) : v.isTup = false := by
  rcases a with ⟨rfl, _⟩ | ⟨id, st, cap, q, rfl, _⟩ <;> rfl
theorem EntsR.len {h : H} {v : V} {es : List Entry} (a : EntsR h v es) (k : V → Prop) : lenLK v k = k (.i .i64 es.length) := by
  rcases a with ⟨rfl, rfl⟩ | ⟨id, st, cap, q, rfl, _⟩
  · rw [lenLK_nil]; rfl
  · rw [lenLK_sl]
theorem EntsR.elems {h : H} {v : V} {es : List Entry} (a : EntsR h v es) : h.elems v = some (es.map Entry.v) := by
  rcases a with ⟨rfl, rfl⟩ | ⟨id, st, cap, q, rfl, b, c⟩
  · rfl
  · have hs : stampOf (.cells (.agg 17 (es.map Entry.v)) q false) = st := by
      subst c; cases q
      · exact stampOf_false _ _
      · rw [stampOf_true]; simp
    unfold H.elems H.read H.root
    simp only [b, hs, if_true, sub, List.length_map, Nat.zero_add, Nat.le_refl, List.drop_zero]
    rw [List.take_of_length_le (by simp)]
/-- One of them. -/
theorem EntsR.at {h : H} {v : V} {es : List Entry} (a : EntsR h v es) {i : Nat} (hi : i < es.length) (k : V → Prop) : (iaLK 16 v (i : Int) fun p => loadK 16 h p k) = k es[i].v := by
  rcases a with ⟨rfl, rfl⟩ | ⟨id, st, cap, q, rfl, b, c⟩
  · simp at hi
  · have hs : stampOf (.cells (.agg 17 (es.map Entry.v)) q false) = st := by
      subst c; cases q
      · exact stampOf_false _ _
      · rw [stampOf_true]; simp
    have hc : (i : Int) < (es.length : Int) := by omega
    simp only [objK_of b, hs, nthK_map _ _ _ _ hi, hc, ↓stepR, normR, Int.cast_ofNat_Int, Int.natCast_nonneg, Int.toNat_natCast, Nat.reduceMod, Nat.reduceDiv, Nat.reducePow, Nat.testBit_eq_decide_div_mod_eq, ↓reduceIte, Nat.reduceEqDiff, Nat.reduceAdd, Nat.reduceSub, Nat.reduceMul, Nat.reduceLT, Nat.reduceLeDiff, Int.reduceEq, Int.reduceLT, Int.reduceLE, Int.reduceAdd, Int.reduceSub, Int.reduceMul, Int.reduceNeg, Int.reduceToNat, reduceCtorEq, eq_self]
theorem EntsR.ptr {h : H} {v : V} {es : List Entry} (a : EntsR h v es) {i : Nat} (hi : i < es.length) : ∃ id st, (∀ k : V → Prop, iaLK 16 v (i : Int) k = k (.ptr id st [i] 16)) ∧ (∀ h' k, Grow h h' → readK h' id st [i] k = k es[i].v) := by
  rcases a with ⟨rfl, rfl⟩ | ⟨id, st, cap, q, rfl, b, c⟩
  · simp at hi
  · have hs : stampOf (.cells (.agg 17 (es.map Entry.v)) q false) = st := by
      subst c; cases q
      · exact stampOf_false _ _
      · rw [stampOf_true]; simp
    have hc : (i : Int) < (es.length : Int) := by omega
    refine ⟨id, st, fun k => ?_, fun h' k g => ?_⟩
    · simp only [hc, ↓stepR, normR, Int.cast_ofNat_Int, Int.natCast_nonneg, Int.toNat_natCast, Nat.reduceMod, Nat.reduceDiv, Nat.reducePow, Nat.testBit_eq_decide_div_mod_eq, ↓reduceIte, Nat.reduceEqDiff, Nat.reduceAdd, Nat.reduceSub, Nat.reduceMul, Nat.reduceLT, Nat.reduceLeDiff, Int.reduceEq, Int.reduceLT, Int.reduceLE, Int.reduceAdd, Int.reduceSub, Int.reduceMul, Int.reduceNeg, Int.reduceToNat, reduceCtorEq, eq_self]
    · have b' := g.2 _ _ b
      simp only [objK_of b', hs, nthK_map _ _ _ _ hi, ↓stepR, normR, Int.cast_ofNat_Int, Int.natCast_nonneg, Int.toNat_natCast, Nat.reduceMod, Nat.reduceDiv, Nat.reducePow, Nat.testBit_eq_decide_div_mod_eq, ↓reduceIte, Nat.reduceEqDiff, Nat.reduceAdd, Nat.reduceSub, Nat.reduceMul, Nat.reduceLT, Nat.reduceLeDiff, Int.reduceEq, Int.reduceLT, Int.reduceLE, Int.reduceAdd, Int.reduceSub, Int.reduceMul, Int.reduceNeg, Int.reduceToNat, reduceCtorEq, eq_self]

theorem appK_eq {h : H} {d e bytes : Nat} {x : V} {ys : List V} {r : V × H} (hr : appendV h d e bytes x ys = some r) (k : V → H → Prop) : appK h d e bytes x ys k = k r.1 r.2 := by
  unfold appK; rw [hr]; rfl

theorem app_ents {n0 : Nat} {h : H} {v : V} {es : List Entry} {y : Entry} {k : V → H → Prop} (hv : EntsN n0 h v es) (hb : es.length < 1000000) (hn : n0 ≤ h.n)
    (hk : ∀ v' h', EntsN n0 h' v' (es ++ [y]) → (∀ g : H, g.n ≤ n0 → Grow g h → Grow g h') → n0 ≤ h'.n → k v' h') : appK h 17 16 56 v [y.v] k := by
  rcases hv with ⟨rfl, rfl⟩ | ⟨id, hid, rfl, hg⟩ | ⟨id, hid, rfl, hg⟩
  · rw [appK_eq (r := (.sl h.n 1 [] 16 0 1 none, h.push (.cells (.agg 17 [y.v]) true false))) (by simp [appendV])]
    refine hk _ _ (.inr (.inr ⟨h.n, hn, rfl, ?_⟩)) (fun g _ hG => hG.push _) (by rw [H.push_n]; omega)
    rw [H.get_push', if_pos rfl]; rfl
  · have he : h.elems (.sl id 0 [] 16 0 es.length (some es.length)) = some (es.map Entry.v) := EntsR.elems (.inr ⟨id, 0, _, false, rfl, hg, rfl⟩)
    rw [appK_eq (r := (.sl h.n (es.length + 1) [] 16 0 (es.length + 1) none, h.push (.cells (.agg 17 (es.map Entry.v ++ [y.v])) true false))) (by
      simp only [appendV, he, List.isEmpty_cons, Bool.false_eq_true, if_false, List.length_singleton, ne_eq, not_true_eq_false]
      rw [if_neg (by omega), if_pos (by omega)])]
    refine hk _ _ (.inr (.inr ⟨h.n, hn, by simp, ?_⟩)) (fun g _ hG => hG.push _) (by rw [H.push_n]; omega)
    rw [H.get_push', if_pos rfl]; simp
  · rw [appK_eq (r := (.sl id (es.length + 1) [] 16 0 (es.length + 1) none, h.set id (.cells (.agg 17 (es.map Entry.v ++ [y.v])) true false))) (by
      simp only [appendV, hg, List.isEmpty_cons, Bool.false_eq_true, if_false, List.length_singleton, ne_eq, not_true_eq_false, List.length_map, true_and]
      rw [if_pos (by omega)])]
    refine hk _ _ (.inr (.inr ⟨id, hid, by simp, ?_⟩)) (fun g hl hG => hG.set (by omega) (H.has_of hg) _) (by rw [H.set_n]; omega)
    rw [H.get_set2 _ _ _ _ (H.has_of hg), if_pos rfl]; simp

/-- A call of data that makes a slice (or more). -/
theorem callK_mk {f : Nat} {args : List V} {P : V → H → Prop} (hr : ∀ h, Runs CL f args h fun v h' => P v h' ∧ Grow h h') (hp : ∀ v h', P v h' → noRefR pu v = false) {h : H} {k : V → H → Prop}
    (hk : ∀ v h', P v h' → Grow h h' → k v h') : callK pu CL f args h k := by
  rw [callK_new ((hr H.empty).mono fun v h' a => hp v h' a.1)]
  exact (hr h).mono fun v h' a => hk v h' a.1 a.2
theorem callD_mk {f : Nat} {args : List V} {P : V → H → Prop} (hr : ∀ h, Runs CL f args h fun v h' => P v h' ∧ Grow h h') (hp : ∀ v h', P v h' → noRefR pu v = false) {h : H} {k : V → H → Cls → Prop}
    (hk : ∀ v h', P v h' → Grow h h' → k v h' (.ge h h')) : callD pu CL false f args h k := by
  rw [callD_new h k ((hr H.empty).mono fun v h' a => hp v h' a.1)]
  exact (hr h).mono fun v h' a => hk v h' a.1 a.2

/-- .. whose answer speaks of the memory before it. -/
theorem callK_mkF {f : Nat} {args : List V} {P : H → V → H → Prop} (hr : ∀ h, Runs CL f args h fun v h' => P h v h' ∧ Grow h h') (hp : ∀ h v h', P h v h' → noRefR pu v = false) {h : H} {k : V → H → Prop}
    (hk : ∀ v h', P h v h' → Grow h h' → k v h') : callK pu CL f args h k := by
  rw [callK_new ((hr H.empty).mono fun v h' a => hp _ v h' a.1)]
  exact (hr h).mono fun v h' a => hk v h' a.1 a.2
theorem callD_mkF {f : Nat} {args : List V} {P : H → V → H → Prop} (hr : ∀ h, Runs CL f args h fun v h' => P h v h' ∧ Grow h h') (hp : ∀ h v h', P h v h' → noRefR pu v = false) {h : H} {k : V → H → Cls → Prop}
    (hk : ∀ v h', P h v h' → Grow h h' → k v h' (.ge h h')) : callD pu CL false f args h k := by
  rw [callD_new h k ((hr H.empty).mono fun v h' a => hp _ v h' a.1)]
  exact (hr h).mono fun v h' a => hk v h' a.1 a.2

/-! ### verdicts -/
def markS (p : Pool) (slot verdict : Int) : List Entry :=
  if slot < 0 ∨ 64 ≤ slot then []
  else if verdict = 1 ∧ ((p.at slot).state = 1 ∨ (p.at slot).state = 3) then [⟨2, slot, 0, 0, 0, key0⟩]
  else if verdict = 2 ∧ (p.at slot).state = 2 then [⟨3, slot, 0, 0, 0, key0⟩]
  else []

theorem run_mark12 (p : Pool) (hp : p.slots.length = 64) (slot v : Int) (h : H) : Runs CL 12 [p.v, .i .i64 slot, .i .i64 v] h fun w h' => EntsR h' w (markS p slot v) ∧ Grow h h' := by
  refine run (fn := F12) rfl rfl ?_
  unfold F12
  by_cases c1 : slot < 0
  · simp only [Slot.sh, Slot.nt, Key.sh, Key.nt, Ring.sh, Ring.nt, Pool.sh, Pool.nt, Entry.sh, Entry.nt, c1, ↓stepR, normR, Int.cast_ofNat_Int, Int.natCast_nonneg, Int.toNat_natCast, Nat.reduceMod, Nat.reduceDiv, Nat.reducePow, Nat.testBit_eq_decide_div_mod_eq, ↓reduceIte, Nat.reduceEqDiff, Nat.reduceAdd, Nat.reduceSub, Nat.reduceMul, Nat.reduceLT, Nat.reduceLeDiff, Int.reduceEq, Int.reduceLT, Int.reduceLE, Int.reduceAdd, Int.reduceSub, Int.reduceMul, Int.reduceNeg, Int.reduceToNat, reduceCtorEq, eq_self]
    exact ⟨.inl ⟨rfl, by simp [markS, c1]⟩, (Grow.refl h).push _⟩
  by_cases c2 : 64 ≤ slot
  · simp only [Slot.sh, Slot.nt, Key.sh, Key.nt, Ring.sh, Ring.nt, Pool.sh, Pool.nt, Entry.sh, Entry.nt, c1, c2, ↓stepR, normR, Int.cast_ofNat_Int, Int.natCast_nonneg, Int.toNat_natCast, Nat.reduceMod, Nat.reduceDiv, Nat.reducePow, Nat.testBit_eq_decide_div_mod_eq, ↓reduceIte, Nat.reduceEqDiff, Nat.reduceAdd, Nat.reduceSub, Nat.reduceMul, Nat.reduceLT, Nat.reduceLeDiff, Int.reduceEq, Int.reduceLT, Int.reduceLE, Int.reduceAdd, Int.reduceSub, Int.reduceMul, Int.reduceNeg, Int.reduceToNat, reduceCtorEq, eq_self]
    exact ⟨.inl ⟨rfl, by simp [markS, c2]⟩, (Grow.refl h).push _⟩
  have c1' : 0 ≤ slot := by omega
  have c2' : slot < 64 := by omega
  have hat := nthK_at hp c1' c2'
  have fin : ∀ (e : Entry) (g : H), g.get (h.n + 1) = some (.cells (.agg 17 [e.v]) false false) → markS p slot v = [e] → EntsR g (.sl (h.n + 1) 0 [] 16 0 1 (some 1)) (markS p slot v) := by
    intro e g hg hm; rw [hm]; exact .inr ⟨_, 0, _, false, rfl, hg, rfl⟩
  by_cases v1 : v = 1
  · subst v1
    by_cases s1 : (p.at slot).state = 1
    · simp only [Slot.sh, Slot.nt, Key.sh, Key.nt, Ring.sh, Ring.nt, Pool.sh, Pool.nt, Entry.sh, Entry.nt, c1, c2, Pool.v, c1', c2', hat, Slot.v, s1, ↓stepR, normR, Int.cast_ofNat_Int, Int.natCast_nonneg, Int.toNat_natCast, Nat.reduceMod, Nat.reduceDiv, Nat.reducePow, Nat.testBit_eq_decide_div_mod_eq, ↓reduceIte, Nat.reduceEqDiff, Nat.reduceAdd, Nat.reduceSub, Nat.reduceMul, Nat.reduceLT, Nat.reduceLeDiff, Int.reduceEq, Int.reduceLT, Int.reduceLE, Int.reduceAdd, Int.reduceSub, Int.reduceMul, Int.reduceNeg, Int.reduceToNat, reduceCtorEq, eq_self]
      exact ⟨fin ⟨2, slot, 0, 0, 0, key0⟩ _ (by simp only [↓stepR, normR, Int.cast_ofNat_Int, Int.natCast_nonneg, Int.toNat_natCast, Nat.reduceMod, Nat.reduceDiv, Nat.reducePow, Nat.testBit_eq_decide_div_mod_eq, ↓reduceIte, Nat.reduceEqDiff, Nat.reduceAdd, Nat.reduceSub, Nat.reduceMul, Nat.reduceLT, Nat.reduceLeDiff, Int.reduceEq, Int.reduceLT, Int.reduceLE, Int.reduceAdd, Int.reduceSub, Int.reduceMul, Int.reduceNeg, Int.reduceToNat, reduceCtorEq, eq_self]; rfl) (by simp [markS, c1, c2, s1]), ((Grow.refl h).push _).push _⟩
    · by_cases s3 : (p.at slot).state = 3
      · simp only [Slot.sh, Slot.nt, Key.sh, Key.nt, Ring.sh, Ring.nt, Pool.sh, Pool.nt, Entry.sh, Entry.nt, c1, c2, Pool.v, c1', c2', hat, Slot.v, s1, s3, ↓stepR, normR, Int.cast_ofNat_Int, Int.natCast_nonneg, Int.toNat_natCast, Nat.reduceMod, Nat.reduceDiv, Nat.reducePow, Nat.testBit_eq_decide_div_mod_eq, ↓reduceIte, Nat.reduceEqDiff, Nat.reduceAdd, Nat.reduceSub, Nat.reduceMul, Nat.reduceLT, Nat.reduceLeDiff, Int.reduceEq, Int.reduceLT, Int.reduceLE, Int.reduceAdd, Int.reduceSub, Int.reduceMul, Int.reduceNeg, Int.reduceToNat, reduceCtorEq, eq_self]
        exact ⟨fin ⟨2, slot, 0, 0, 0, key0⟩ _ (by simp only [↓stepR, normR, Int.cast_ofNat_Int, Int.natCast_nonneg, Int.toNat_natCast, Nat.reduceMod, Nat.reduceDiv, Nat.reducePow, Nat.testBit_eq_decide_div_mod_eq, ↓reduceIte, Nat.reduceEqDiff, Nat.reduceAdd, Nat.reduceSub, Nat.reduceMul, Nat.reduceLT, Nat.reduceLeDiff, Int.reduceEq, Int.reduceLT, Int.reduceLE, Int.reduceAdd, Int.reduceSub, Int.reduceMul, Int.reduceNeg, Int.reduceToNat, reduceCtorEq, eq_self]; rfl) (by simp [markS, c1, c2, s3]), ((Grow.refl h).push _).push _⟩
      · simp only [Slot.sh, Slot.nt, Key.sh, Key.nt, Ring.sh, Ring.nt, Pool.sh, Pool.nt, Entry.sh, Entry.nt, c1, c2, Pool.v, c1', c2', hat, Slot.v, s1, s3, ↓stepR, normR, Int.cast_ofNat_Int, Int.natCast_nonneg, Int.toNat_natCast, Nat.reduceMod, Nat.reduceDiv, Nat.reducePow, Nat.testBit_eq_decide_div_mod_eq, ↓reduceIte, Nat.reduceEqDiff, Nat.reduceAdd, Nat.reduceSub, Nat.reduceMul, Nat.reduceLT, Nat.reduceLeDiff, Int.reduceEq, Int.reduceLT, Int.reduceLE, Int.reduceAdd, Int.reduceSub, Int.reduceMul, Int.reduceNeg, Int.reduceToNat, reduceCtorEq, eq_self]
        exact ⟨.inl ⟨rfl, by simp [markS, s1, s3]⟩, (Grow.refl h).push _⟩
  · by_cases v2 : v = 2
    · subst v2
      by_cases s2 : (p.at slot).state = 2
      · simp only [Slot.sh, Slot.nt, Key.sh, Key.nt, Ring.sh, Ring.nt, Pool.sh, Pool.nt, Entry.sh, Entry.nt, c1, c2, Pool.v, c1', c2', hat, Slot.v, s2, ↓stepR, normR, Int.cast_ofNat_Int, Int.natCast_nonneg, Int.toNat_natCast, Nat.reduceMod, Nat.reduceDiv, Nat.reducePow, Nat.testBit_eq_decide_div_mod_eq, ↓reduceIte, Nat.reduceEqDiff, Nat.reduceAdd, Nat.reduceSub, Nat.reduceMul, Nat.reduceLT, Nat.reduceLeDiff, Int.reduceEq, Int.reduceLT, Int.reduceLE, Int.reduceAdd, Int.reduceSub, Int.reduceMul, Int.reduceNeg, Int.reduceToNat, reduceCtorEq, eq_self]
        exact ⟨fin ⟨3, slot, 0, 0, 0, key0⟩ _ (by simp only [↓stepR, normR, Int.cast_ofNat_Int, Int.natCast_nonneg, Int.toNat_natCast, Nat.reduceMod, Nat.reduceDiv, Nat.reducePow, Nat.testBit_eq_decide_div_mod_eq, ↓reduceIte, Nat.reduceEqDiff, Nat.reduceAdd, Nat.reduceSub, Nat.reduceMul, Nat.reduceLT, Nat.reduceLeDiff, Int.reduceEq, Int.reduceLT, Int.reduceLE, Int.reduceAdd, Int.reduceSub, Int.reduceMul, Int.reduceNeg, Int.reduceToNat, reduceCtorEq, eq_self]; rfl) (by simp [markS, c1, c2, s2]), ((Grow.refl h).push _).push _⟩
      · simp only [Slot.sh, Slot.nt, Key.sh, Key.nt, Ring.sh, Ring.nt, Pool.sh, Pool.nt, Entry.sh, Entry.nt, c1, c2, Pool.v, c1', c2', hat, Slot.v, s2, ↓stepR, normR, Int.cast_ofNat_Int, Int.natCast_nonneg, Int.toNat_natCast, Nat.reduceMod, Nat.reduceDiv, Nat.reducePow, Nat.testBit_eq_decide_div_mod_eq, ↓reduceIte, Nat.reduceEqDiff, Nat.reduceAdd, Nat.reduceSub, Nat.reduceMul, Nat.reduceLT, Nat.reduceLeDiff, Int.reduceEq, Int.reduceLT, Int.reduceLE, Int.reduceAdd, Int.reduceSub, Int.reduceMul, Int.reduceNeg, Int.reduceToNat, reduceCtorEq, eq_self]
        exact ⟨.inl ⟨rfl, by simp [markS, s2]⟩, (Grow.refl h).push _⟩
    · simp only [Slot.sh, Slot.nt, Key.sh, Key.nt, Ring.sh, Ring.nt, Pool.sh, Pool.nt, Entry.sh, Entry.nt, c1, c2, Pool.v, c1', c2', hat, Slot.v, v1, v2, ↓stepR, normR, Int.cast_ofNat_Int, Int.natCast_nonneg, Int.toNat_natCast, Nat.reduceMod, Nat.reduceDiv, Nat.reducePow, Nat.testBit_eq_decide_div_mod_eq, ↓reduceIte, Nat.reduceEqDiff, Nat.reduceAdd, Nat.reduceSub, Nat.reduceMul, Nat.reduceLT, Nat.reduceLeDiff, Int.reduceEq, Int.reduceLT, Int.reduceLE, Int.reduceAdd, Int.reduceSub, Int.reduceMul, Int.reduceNeg, Int.reduceToNat, reduceCtorEq, eq_self]
      exact ⟨.inl ⟨rfl, by simp [markS, v1, v2]⟩, (Grow.refl h).push _⟩

end Go.Rae.Order
