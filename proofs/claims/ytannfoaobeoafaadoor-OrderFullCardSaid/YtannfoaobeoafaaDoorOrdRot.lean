/- Keys anew, same, all: what the calls answer. -/
import Derived.Test.YtannfoaobeoafaaDoorOrdEnts
set_option linter.unusedVariables false
set_option linter.unusedSimpArgs false
namespace Go.Rae.Order
set_option maxRecDepth 100000

theorem run_mark13 (p : Pool) (hp : p.slots.length = 64) (slot v : Int) (h : H) : Runs CL 13 [p.v, .i .i64 slot, .i .i64 v] h fun w h' => EntsR h' w (markS p slot v) ∧ Grow h h' := by
  refine run (fn := F13) rfl rfl ?_
  unfold F13
  by_cases c1 : slot < 0
  · simp only [Slot.sh, Slot.nt, Key.sh, Key.nt, Ring.sh, Ring.nt, Pool.sh, Pool.nt, Entry.sh, Entry.nt, c1, ↓stepR, normR, Int.cast_ofNat_Int, Int.natCast_nonneg, Int.toNat_natCast, Nat.reduceMod, Nat.reduceDiv, Nat.reducePow, Nat.testBit_eq_decide_div_mod_eq, ↓reduceIte, Nat.reduceEqDiff, Nat.reduceAdd, Nat.reduceSub, Nat.reduceMul, Nat.reduceLT, Nat.reduceLeDiff, Int.reduceEq, Int.reduceLT, Int.reduceLE, Int.reduceAdd, Int.reduceSub, Int.reduceMul, Int.reduceNeg, Int.reduceToNat, reduceCtorEq, eq_self]
    exact ⟨.inl ⟨rfl, by simp [markS, c1]⟩, (Grow.refl h).push _⟩
  by_cases c2 : 64 ≤ slot
  · simp only [Slot.sh, Slot.nt, Key.sh, Key.nt, Ring.sh, Ring.nt, Pool.sh, Pool.nt, Entry.sh, Entry.nt, c1, c2, ↓stepR, normR, Int.cast_ofNat_Int, Int.natCast_nonneg, Int.toNat_natCast, Nat.reduceMod, Nat.reduceDiv, Nat.reducePow, Nat.testBit_eq_decide_div_mod_eq, ↓reduceIte, Nat.reduceEqDiff, Nat.reduceAdd, Nat.reduceSub, Nat.reduceMul, Nat.reduceLT, Nat.reduceLeDiff, Int.reduceEq, Int.reduceLT, Int.reduceLE, Int.reduceAdd, Int.reduceSub, Int.reduceMul, Int.reduceNeg, Int.reduceToNat, reduceCtorEq, eq_self]
    exact ⟨.inl ⟨rfl, by simp [markS, c2]⟩, (Grow.refl h).push _⟩
  have c1' : 0 ≤ slot := by omega
  have c2' : slot < 64 := by omega
  have hat := nthK_at hp c1' c2'
  have fin : ∀ (e : Entry) (g : H), g.get (h.n + 1) = some (.cells (.agg 17 [e.v]) false false) → markS p slot v = [e] → EntsR g (.sl (h.n + 1) 0 [] 16 0 1 (some 1)) (markS p slot v) := by
    intro e g hg hm; rw [hm]; exact .inr ⟨_, 0, _, false, rfl, hg, rfl⟩
  by_cases v1 : v = 1
  · subst v1
    by_cases s1 : (p.at slot).state = 1
    · simp only [Slot.sh, Slot.nt, Key.sh, Key.nt, Ring.sh, Ring.nt, Pool.sh, Pool.nt, Entry.sh, Entry.nt, c1, c2, Pool.v, c1', c2', hat, Slot.v, s1, ↓stepR, normR, Int.cast_ofNat_Int, Int.natCast_nonneg, Int.toNat_natCast, Nat.reduceMod, Nat.reduceDiv, Nat.reducePow, Nat.testBit_eq_decide_div_mod_eq, ↓reduceIte, Nat.reduceEqDiff, Nat.reduceAdd, Nat.reduceSub, Nat.reduceMul, Nat.reduceLT, Nat.reduceLeDiff, Int.reduceEq, Int.reduceLT, Int.reduceLE, Int.reduceAdd, Int.reduceSub, Int.reduceMul, Int.reduceNeg, Int.reduceToNat, reduceCtorEq, eq_self]
      exact ⟨fin ⟨2, slot, 0, 0, 0, key0⟩ _ (by simp only [↓stepR, normR, Int.cast_ofNat_Int, Int.natCast_nonneg, Int.toNat_natCast, Nat.reduceMod, Nat.reduceDiv, Nat.reducePow, Nat.testBit_eq_decide_div_mod_eq, ↓reduceIte, Nat.reduceEqDiff, Nat.reduceAdd, Nat.reduceSub, Nat.reduceMul, Nat.reduceLT, Nat.reduceLeDiff, Int.reduceEq, Int.reduceLT, Int.reduceLE, Int.reduceAdd, Int.reduceSub, Int.reduceMul, Int.reduceNeg, Int.reduceToNat, reduceCtorEq, eq_self]; rfl) (by simp [markS, c1, c2, s1]), ((Grow.refl h).push _).push _⟩
    · by_cases s3 : (p.at slot).state = 3
      · simp only [Slot.sh, Slot.nt, Key.sh, Key.nt, Ring.sh, Ring.nt, Pool.sh, Pool.nt, Entry.sh, Entry.nt, c1, c2, Pool.v, c1', c2', hat, Slot.v, s1, s3, ↓stepR, normR, Int.cast_ofNat_Int, Int.natCast_nonneg, Int.toNat_natCast, Nat.reduceMod, Nat.reduceDiv, Nat.reducePow, Nat.testBit_eq_decide_div_mod_eq, ↓reduceIte, Nat.reduceEqDiff, Nat.reduceAdd, Nat.reduceSub, Nat.reduceMul, Nat.reduceLT, Nat.reduceLeDiff, Int.reduceEq, Int.reduceLT, Int.reduceLE, Int.reduceAdd, Int.reduceSub, Int.reduceMul, Int.reduceNeg, Int.reduceToNat, reduceCtorEq, eq_self]
        exact ⟨fin ⟨2, slot, 0, 0, 0, key0⟩ _ (by simp only [↓stepR, normR, Int.cast_ofNat_Int, Int.natCast_nonneg, Int.toNat_natCast, Nat.reduceMod, Nat.reduceDiv, Nat.reducePow, Nat.testBit_eq_decide_div_mod_eq, ↓reduceIte, Nat.reduceEqDiff, Nat.reduceAdd, Nat.reduceSub, Nat.reduceMul, Nat.reduceLT, Nat.reduceLeDiff, Int.reduceEq, Int.reduceLT, Int.reduceLE, Int.reduceAdd, Int.reduceSub, Int.reduceMul, Int.reduceNeg, Int.reduceToNat, reduceCtorEq, eq_self]; rfl) (by simp [markS, c1, c2, s3]), ((Grow.refl h).push _).push _⟩
      · simp only [Slot.sh, Slot.nt, Key.sh, Key.nt, Ring.sh, Ring.nt, Pool.sh, Pool.nt, Entry.sh, Entry.nt, c1, c2, Pool.v, c1', c2', hat, Slot.v, s1, s3, ↓stepR, normR, Int.cast_ofNat_Int, Int.natCast_nonneg, Int.toNat_natCast, Nat.reduceMod, Nat.reduceDiv, Nat.reducePow, Nat.testBit_eq_decide_div_mod_eq, ↓reduceIte, Nat.reduceEqDiff, Nat.reduceAdd, Nat.reduceSub, Nat.reduceMul, Nat.reduceLT, Nat.reduceLeDiff, Int.reduceEq, Int.reduceLT, Int.reduceLE, Int.reduceAdd, Int.reduceSub, Int.reduceMul, Int.reduceNeg, Int.reduceToNat, reduceCtorEq, eq_self]
        exact ⟨.inl ⟨rfl, by simp [markS, s1, s3]⟩, (Grow.refl h).push _⟩
  · by_cases v2 : v = 2
    · subst v2
      by_cases s2 : (p.at slot).state = 2
      · simp only [Slot.sh, Slot.nt, Key.sh, Key.nt, Ring.sh, Ring.nt, Pool.sh, Pool.nt, Entry.sh, Entry.nt, c1, c2, Pool.v, c1', c2', hat, Slot.v, s2, ↓stepR, normR, Int.cast_ofNat_Int, Int.natCast_nonneg, Int.toNat_natCast, Nat.reduceMod, Nat.reduceDiv, Nat.reducePow, Nat.testBit_eq_decide_div_mod_eq, ↓reduceIte, Nat.reduceEqDiff, Nat.reduceAdd, Nat.reduceSub, Nat.reduceMul, Nat.reduceLT, Nat.reduceLeDiff, Int.reduceEq, Int.reduceLT, Int.reduceLE, Int.reduceAdd, Int.reduceSub, Int.reduceMul, Int.reduceNeg, Int.reduceToNat, reduceCtorEq, eq_self]
        exact ⟨fin ⟨3, slot, 0, 0, 0, key0⟩ _ (by simp only [↓stepR, normR, Int.cast_ofNat_Int, Int.natCast_nonneg, Int.toNat_natCast, Nat.reduceMod, Nat.reduceDiv, Nat.reducePow, Nat.testBit_eq_decide_div_mod_eq, ↓reduceIte, Nat.reduceEqDiff, Nat.reduceAdd, Nat.reduceSub, Nat.reduceMul, Nat.reduceLT, Nat.reduceLeDiff, Int.reduceEq, Int.reduceLT, Int.reduceLE, Int.reduceAdd, Int.reduceSub, Int.reduceMul, Int.reduceNeg, Int.reduceToNat, reduceCtorEq, eq_self]; rfl) (by simp [markS, c1, c2, s2]), ((Grow.refl h).push _).push _⟩
      · simp only [Slot.sh, Slot.nt, Key.sh, Key.nt, Ring.sh, Ring.nt, Pool.sh, Pool.nt, Entry.sh, Entry.nt, c1, c2, Pool.v, c1', c2', hat, Slot.v, s2, ↓stepR, normR, Int.cast_ofNat_Int, Int.natCast_nonneg, Int.toNat_natCast, Nat.reduceMod, Nat.reduceDiv, Nat.reducePow, Nat.testBit_eq_decide_div_mod_eq, ↓reduceIte, Nat.reduceEqDiff, Nat.reduceAdd, Nat.reduceSub, Nat.reduceMul, Nat.reduceLT, Nat.reduceLeDiff, Int.reduceEq, Int.reduceLT, Int.reduceLE, Int.reduceAdd, Int.reduceSub, Int.reduceMul, Int.reduceNeg, Int.reduceToNat, reduceCtorEq, eq_self]
        exact ⟨.inl ⟨rfl, by simp [markS, s2]⟩, (Grow.refl h).push _⟩
    · simp only [Slot.sh, Slot.nt, Key.sh, Key.nt, Ring.sh, Ring.nt, Pool.sh, Pool.nt, Entry.sh, Entry.nt, c1, c2, Pool.v, c1', c2', hat, Slot.v, v1, v2, ↓stepR, normR, Int.cast_ofNat_Int, Int.natCast_nonneg, Int.toNat_natCast, Nat.reduceMod, Nat.reduceDiv, Nat.reducePow, Nat.testBit_eq_decide_div_mod_eq, ↓reduceIte, Nat.reduceEqDiff, Nat.reduceAdd, Nat.reduceSub, Nat.reduceMul, Nat.reduceLT, Nat.reduceLeDiff, Int.reduceEq, Int.reduceLT, Int.reduceLE, Int.reduceAdd, Int.reduceSub, Int.reduceMul, Int.reduceNeg, Int.reduceToNat, reduceCtorEq, eq_self]
      exact ⟨.inl ⟨rfl, by simp [markS, v1, v2]⟩, (Grow.refl h).push _⟩

/-! ### keys anew -/
def goneS (p : Pool) (s : Slot) : Bool := decide (s.state = 4 ∧ IntKind.i64.wrap (s.since + 3) ≤ IntKind.i64.wrap (p.ring.epoch + 1))
def freesS (p : Pool) : Nat → List Entry
  | 0 => []
  | n + 1 => freesS p n ++ (if goneS p (p.at n) then [⟨5, n, 0, 0, 0, key0⟩] else [])
def rotateS (p : Pool) (k : Key) : List Entry := ⟨6, 0, 0, 0, 0, k⟩ :: freesS p 64
theorem freesS_len (p : Pool) : ∀ n, (freesS p n).length ≤ n := by
  intro n
  induction n with
  | zero => simp [freesS]
  | succ n ih => simp only [freesS, List.length_append]; split <;> simp <;> omega

theorem boundsK_of {len : Nat} {cap : Option Nat} {lo hi mx : Option V} {r : Nat × Nat × Option Nat} (h : bounds len cap lo hi mx = some r) (k : Nat × Nat × Option Nat → Prop) : boundsK len cap lo hi mx k = k r := by
  unfold boundsK; rw [h]; rfl

theorem call_clip41 {n0 : Nat} (v : V) (es : List Entry) (h : H) (hv : EntsN n0 h v es) (k : V → H → Prop) (hk : ∀ v' h', EntsF n0 h' v' es → Grow h h' → k v' h') : callK pu CL 41 [v] h k := by
  have hlen := hv.r.len
  have hnt := hv.r.nt
  have e : callK pu CL 41 [v] h k = Runs CL 41 [v] h k := by
    rcases hv with ⟨rfl, _⟩ | ⟨id, _, rfl, _⟩ | ⟨id, _, rfl, _⟩ <;> exact callK_refs rfl
  rw [e]
  refine run (fn := F41) rfl rfl ?_
  unfold F41
  rcases hv with ⟨rfl, rfl⟩ | ⟨id, hn0, rfl, hg⟩ | ⟨id, hn0, rfl, hg⟩
  · simp only [↓stepR, normR, Int.cast_ofNat_Int, Int.natCast_nonneg, Int.toNat_natCast, Nat.reduceMod, Nat.reduceDiv, Nat.reducePow, Nat.testBit_eq_decide_div_mod_eq, ↓reduceIte, Nat.reduceEqDiff, Nat.reduceAdd, Nat.reduceSub, Nat.reduceMul, Nat.reduceLT, Nat.reduceLeDiff, Int.reduceEq, Int.reduceLT, Int.reduceLE, Int.reduceAdd, Int.reduceSub, Int.reduceMul, Int.reduceNeg, Int.reduceToNat, reduceCtorEq, eq_self]
    rw [boundsK_of (r := (0, 0, some 0)) (by simp [bounds, bound])]
    simp only [↓stepR, normR, Int.cast_ofNat_Int, Int.natCast_nonneg, Int.toNat_natCast, Nat.reduceMod, Nat.reduceDiv, Nat.reducePow, Nat.testBit_eq_decide_div_mod_eq, ↓reduceIte, Nat.reduceEqDiff, Nat.reduceAdd, Nat.reduceSub, Nat.reduceMul, Nat.reduceLT, Nat.reduceLeDiff, Int.reduceEq, Int.reduceLT, Int.reduceLE, Int.reduceAdd, Int.reduceSub, Int.reduceMul, Int.reduceNeg, Int.reduceToNat, reduceCtorEq, eq_self]
    exact hk _ _ (.inl ⟨rfl, rfl⟩) (Grow.refl h)
  · simp only [↓stepR, normR, Int.cast_ofNat_Int, Int.natCast_nonneg, Int.toNat_natCast, Nat.reduceMod, Nat.reduceDiv, Nat.reducePow, Nat.testBit_eq_decide_div_mod_eq, ↓reduceIte, Nat.reduceEqDiff, Nat.reduceAdd, Nat.reduceSub, Nat.reduceMul, Nat.reduceLT, Nat.reduceLeDiff, Int.reduceEq, Int.reduceLT, Int.reduceLE, Int.reduceAdd, Int.reduceSub, Int.reduceMul, Int.reduceNeg, Int.reduceToNat, reduceCtorEq, eq_self]
    rw [boundsK_of (r := (0, es.length, some es.length)) (by simp [bounds, bound])]
    simp only [Nat.sub_zero, Option.map_some, ↓stepR, normR, Int.cast_ofNat_Int, Int.natCast_nonneg, Int.toNat_natCast, Nat.reduceMod, Nat.reduceDiv, Nat.reducePow, Nat.testBit_eq_decide_div_mod_eq, ↓reduceIte, Nat.reduceEqDiff, Nat.reduceAdd, Nat.reduceSub, Nat.reduceMul, Nat.reduceLT, Nat.reduceLeDiff, Int.reduceEq, Int.reduceLT, Int.reduceLE, Int.reduceAdd, Int.reduceSub, Int.reduceMul, Int.reduceNeg, Int.reduceToNat, reduceCtorEq, eq_self]
    exact hk _ _ (.inr ⟨id, 0, _, false, hn0, rfl, hg, rfl⟩) (Grow.refl h)
  · simp only [↓stepR, normR, Int.cast_ofNat_Int, Int.natCast_nonneg, Int.toNat_natCast, Nat.reduceMod, Nat.reduceDiv, Nat.reducePow, Nat.testBit_eq_decide_div_mod_eq, ↓reduceIte, Nat.reduceEqDiff, Nat.reduceAdd, Nat.reduceSub, Nat.reduceMul, Nat.reduceLT, Nat.reduceLeDiff, Int.reduceEq, Int.reduceLT, Int.reduceLE, Int.reduceAdd, Int.reduceSub, Int.reduceMul, Int.reduceNeg, Int.reduceToNat, reduceCtorEq, eq_self]
    rw [boundsK_of (r := (0, es.length, some es.length)) (by simp [bounds, bound])]
    simp only [Nat.sub_zero, Option.map_some, ↓stepR, normR, Int.cast_ofNat_Int, Int.natCast_nonneg, Int.toNat_natCast, Nat.reduceMod, Nat.reduceDiv, Nat.reducePow, Nat.testBit_eq_decide_div_mod_eq, ↓reduceIte, Nat.reduceEqDiff, Nat.reduceAdd, Nat.reduceSub, Nat.reduceMul, Nat.reduceLT, Nat.reduceLeDiff, Int.reduceEq, Int.reduceLT, Int.reduceLE, Int.reduceAdd, Int.reduceSub, Int.reduceMul, Int.reduceNeg, Int.reduceToNat, reduceCtorEq, eq_self]
    exact hk _ _ (.inr ⟨id, _, _, true, hn0, rfl, hg, rfl⟩) (Grow.refl h)

theorem Grow.push_set (h : H) (a b : Obj) : Grow h ((h.push a).set h.n b) := ((Grow.refl h).push _).set (Nat.le_refl _) (by rw [H.has_push]; exact .inl rfl) _

theorem run_rotate10 (p : Pool) (hp : p.slots.length = 64) (kk : Key) (h : H) : Runs CL 10 [p.v, kk.v] h fun w h' => EntsF h.n h' w (rotateS p kk) ∧ Grow h h' := by
  refine run (fn := F10) rfl rfl ?_
  unfold F10
  simp only [Slot.sh, Slot.nt, Key.sh, Key.nt, Ring.sh, Ring.nt, Pool.sh, Pool.nt, Entry.sh, Entry.nt, Pool.v, Ring.v, ↓stepR, normR, Int.cast_ofNat_Int, Int.natCast_nonneg, Int.toNat_natCast, Nat.reduceMod, Nat.reduceDiv, Nat.reducePow, Nat.testBit_eq_decide_div_mod_eq, ↓reduceIte, Nat.reduceEqDiff, Nat.reduceAdd, Nat.reduceSub, Nat.reduceMul, Nat.reduceLT, Nat.reduceLeDiff, Int.reduceEq, Int.reduceLT, Int.reduceLE, Int.reduceAdd, Int.reduceSub, Int.reduceMul, Int.reduceNeg, Int.reduceToNat, reduceCtorEq, eq_self]
  refine W_up 64 (fun i e hh => ∃ v, e = [(2, .ptr h.n 0 [] 15), (5, v), (12, .agg 12 (p.slots.map Slot.v)), (13, .i .i64 i)] ∧ hh.get h.n = some (.cells p.v false false) ∧ EntsN (h.n + 2) hh v (⟨6, 0, 0, 0, 0, kk⟩ :: freesS p i) ∧ Grow h hh ∧ h.n + 2 ≤ hh.n) ?_ 0 (by omega) _ _ ?_
  · rintro i e hh hi ⟨v, rfl, hg, hv, hG, hn⟩
    have hnt := hv.r.nt
    simp only [Pool.v, Ring.v] at hg
    by_cases c1 : (i : Int) < 64
    · have hi' : i < p.slots.length := by omega
      have hi2 : i < 64 := by omega
      have n1 : ¬ h.n = hh.n := by omega
      have hw := @wrap_up i (by omega)
      have hat : (p.slots[i]) = p.at i := by simp [Pool.at, List.getD, hi']
      have fl := freesS_len p i
      cases hs : goneS p (p.at i) with
      | true =>
        have hd := hs
        simp only [goneS, decide_eq_true_eq] at hd
        obtain ⟨d1, d2⟩ := hd
        simp only [c1, nthK_map _ _ _ _ hi', Slot.v, hat, d1, d2, hnt, n1, objK_of hg, ↓stepR, normR, Int.cast_ofNat_Int, Int.natCast_nonneg, Int.toNat_natCast, Nat.reduceMod, Nat.reduceDiv, Nat.reducePow, Nat.testBit_eq_decide_div_mod_eq, ↓reduceIte, Nat.reduceEqDiff, Nat.reduceAdd, Nat.reduceSub, Nat.reduceMul, Nat.reduceLT, Nat.reduceLeDiff, Int.reduceEq, Int.reduceLT, Int.reduceLE, Int.reduceAdd, Int.reduceSub, Int.reduceMul, Int.reduceNeg, Int.reduceToNat, reduceCtorEq, eq_self]
        refine app_ents (y := ⟨5, i, 0, 0, 0, key0⟩) (hv.grow ((((Grow.refl hh).push _).set (Nat.le_refl _) (by rw [H.has_push]; exact .inl rfl) _).push _)) (by simp; omega) (by simp only [H.push_n, H.set_n]; omega) (fun v' h' hv' hk' hn' => ?_)
        have hnt' := hv'.r.nt
        have hG' : Grow h h' := hk' h (by omega) ((((hG.push _).set (by omega) (by rw [H.has_push]; exact .inl rfl) _).push _))
        have hg' : h'.get h.n = some (.cells p.v false false) := by
          have hG2 : Grow (h.push (.cells p.v false false)) hh := ⟨by rw [H.push_n]; omega, fun id o ho => by
            rw [H.get_push'] at ho
            split at ho
            · rename_i e; subst e; rw [← Option.some.inj ho]; simp only [Pool.v, Ring.v]; exact hg
            · exact hG.2 _ _ ho⟩
          exact (hk' (h.push (.cells p.v false false)) (by rw [H.push_n]; omega) ((((hG2.push _).set (by rw [H.push_n]; omega) (by rw [H.has_push]; exact .inl rfl) _).push _))).2 _ _ (by rw [H.get_push', if_pos rfl])
        simp only [hnt', hw, ↓stepR, normR, Int.cast_ofNat_Int, Int.natCast_nonneg, Int.toNat_natCast, Nat.reduceMod, Nat.reduceDiv, Nat.reducePow, Nat.testBit_eq_decide_div_mod_eq, ↓reduceIte, Nat.reduceEqDiff, Nat.reduceAdd, Nat.reduceSub, Nat.reduceMul, Nat.reduceLT, Nat.reduceLeDiff, Int.reduceEq, Int.reduceLT, Int.reduceLE, Int.reduceAdd, Int.reduceSub, Int.reduceMul, Int.reduceNeg, Int.reduceToNat, reduceCtorEq, eq_self]
        exact ⟨hi2, v', rfl, hg', by simpa [freesS, hs] using hv', hG', by omega⟩
      | false =>
        have hd : ¬ ((p.at i).state = 4 ∧ IntKind.i64.wrap ((p.at i).since + 3) ≤ IntKind.i64.wrap (p.ring.epoch + 1)) := by simpa [goneS] using hs
        by_cases d1 : (p.at i).state = 4
        · have d2 : ¬ IntKind.i64.wrap ((p.at i).since + 3) ≤ IntKind.i64.wrap (p.ring.epoch + 1) := fun d2 => hd ⟨d1, d2⟩
          simp only [c1, nthK_map _ _ _ _ hi', Slot.v, hat, d1, d2, hnt, n1, objK_of hg, hw, ↓stepR, normR, Int.cast_ofNat_Int, Int.natCast_nonneg, Int.toNat_natCast, Nat.reduceMod, Nat.reduceDiv, Nat.reducePow, Nat.testBit_eq_decide_div_mod_eq, ↓reduceIte, Nat.reduceEqDiff, Nat.reduceAdd, Nat.reduceSub, Nat.reduceMul, Nat.reduceLT, Nat.reduceLeDiff, Int.reduceEq, Int.reduceLT, Int.reduceLE, Int.reduceAdd, Int.reduceSub, Int.reduceMul, Int.reduceNeg, Int.reduceToNat, reduceCtorEq, eq_self]
          exact ⟨hi2, v, rfl, by simp only [Pool.v, Ring.v]; exact hg, by rw [freesS, hs, if_neg (by decide), List.append_nil]; exact hv.grow (Grow.push_set hh _ _), hG.trans (Grow.push_set hh _ _), by omega⟩
        · simp only [c1, nthK_map _ _ _ _ hi', Slot.v, hat, d1, hnt, n1, objK_of hg, hw, ↓stepR, normR, Int.cast_ofNat_Int, Int.natCast_nonneg, Int.toNat_natCast, Nat.reduceMod, Nat.reduceDiv, Nat.reducePow, Nat.testBit_eq_decide_div_mod_eq, ↓reduceIte, Nat.reduceEqDiff, Nat.reduceAdd, Nat.reduceSub, Nat.reduceMul, Nat.reduceLT, Nat.reduceLeDiff, Int.reduceEq, Int.reduceLT, Int.reduceLE, Int.reduceAdd, Int.reduceSub, Int.reduceMul, Int.reduceNeg, Int.reduceToNat, reduceCtorEq, eq_self]
          exact ⟨hi2, v, rfl, by simp only [Pool.v, Ring.v]; exact hg, by rw [freesS, hs, if_neg (by decide), List.append_nil]; exact hv.grow (Grow.push_set hh _ _), hG.trans (Grow.push_set hh _ _), by omega⟩
    · simp only [c1, hnt, ↓stepR, normR, Int.cast_ofNat_Int, Int.natCast_nonneg, Int.toNat_natCast, Nat.reduceMod, Nat.reduceDiv, Nat.reducePow, Nat.testBit_eq_decide_div_mod_eq, ↓reduceIte, Nat.reduceEqDiff, Nat.reduceAdd, Nat.reduceSub, Nat.reduceMul, Nat.reduceLT, Nat.reduceLeDiff, Int.reduceEq, Int.reduceLT, Int.reduceLE, Int.reduceAdd, Int.reduceSub, Int.reduceMul, Int.reduceNeg, Int.reduceToNat, reduceCtorEq, eq_self]
      refine call_clip41 v _ hh hv _ (fun v' h' hv' hG' => ?_)
      have hnt' := hv'.r.nt
      simp only [hnt', ↓stepR, normR, Int.cast_ofNat_Int, Int.natCast_nonneg, Int.toNat_natCast, Nat.reduceMod, Nat.reduceDiv, Nat.reducePow, Nat.testBit_eq_decide_div_mod_eq, ↓reduceIte, Nat.reduceEqDiff, Nat.reduceAdd, Nat.reduceSub, Nat.reduceMul, Nat.reduceLT, Nat.reduceLeDiff, Int.reduceEq, Int.reduceLT, Int.reduceLE, Int.reduceAdd, Int.reduceSub, Int.reduceMul, Int.reduceNeg, Int.reduceToNat, reduceCtorEq, eq_self]
      have : i = 64 := by omega
      subst this
      exact ⟨hv'.mono (by omega), hG.trans hG'⟩
  · refine ⟨.sl (h.n + 2) 0 [] 16 0 1 (some 1), rfl, by simp only [↓stepR, normR, Int.cast_ofNat_Int, Int.natCast_nonneg, Int.toNat_natCast, Nat.reduceMod, Nat.reduceDiv, Nat.reducePow, Nat.testBit_eq_decide_div_mod_eq, ↓reduceIte, Nat.reduceEqDiff, Nat.reduceAdd, Nat.reduceSub, Nat.reduceMul, Nat.reduceLT, Nat.reduceLeDiff, Int.reduceEq, Int.reduceLT, Int.reduceLE, Int.reduceAdd, Int.reduceSub, Int.reduceMul, Int.reduceNeg, Int.reduceToNat, reduceCtorEq, eq_self]; rfl, .inr (.inl ⟨h.n + 2, Nat.le_refl _, rfl, by simp only [↓stepR, normR, Int.cast_ofNat_Int, Int.natCast_nonneg, Int.toNat_natCast, Nat.reduceMod, Nat.reduceDiv, Nat.reducePow, Nat.testBit_eq_decide_div_mod_eq, ↓reduceIte, Nat.reduceEqDiff, Nat.reduceAdd, Nat.reduceSub, Nat.reduceMul, Nat.reduceLT, Nat.reduceLeDiff, Int.reduceEq, Int.reduceLT, Int.reduceLE, Int.reduceAdd, Int.reduceSub, Int.reduceMul, Int.reduceNeg, Int.reduceToNat, reduceCtorEq, eq_self]; rfl⟩), (((Grow.refl h).push _).push _).push _, by simp only [H.push_n]; omega⟩
end Go.Rae.Order
