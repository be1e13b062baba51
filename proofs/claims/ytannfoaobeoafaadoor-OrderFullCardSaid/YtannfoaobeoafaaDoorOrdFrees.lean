/- OrderFrees: keys anew free just the slots whose time has come, rising. -/
import Derived.Test.YtannfoaobeoafaaDoorOrdNone
set_option linter.unusedVariables false
set_option linter.unusedSimpArgs false
namespace Go.Rae.Order
set_option maxRecDepth 100000

theorem call_rotate10 (p : Pool) (hp : p.slots.length = 64) (kk : Key) (h : H) (k : V → H → Prop) (hk : ∀ w h', EntsR h' w (rotateS p kk) → Grow h h' → k w h') : callK pu CL 10 [p.v, kk.v] h k :=
  callK_mkF (P := fun h w h' => EntsF h.n h' w (rotateS p kk)) (fun h => run_rotate10 p hp kk h) (fun _ _ _ a => a.r.nr) fun w h' a g => hk w h' a.r g
theorem callD_rotate10 (p : Pool) (hp : p.slots.length = 64) (kk : Key) (h : H) (k : V → H → Cls → Prop) (hk : ∀ w h', EntsR h' w (rotateS p kk) → Grow h h' → k w h' (.ge h h')) : callD pu CL false 10 [p.v, kk.v] h k :=
  callD_mkF (P := fun h w h' => EntsF h.n h' w (rotateS p kk)) (fun h => run_rotate10 p hp kk h) (fun _ _ _ a => a.r.nr) fun w h' a g => hk w h' a.r g
theorem callD_rotate10F (p : Pool) (hp : p.slots.length = 64) (kk : Key) (h : H) (k : V → H → Cls → Prop) (hk : ∀ w h', EntsF h.n h' w (rotateS p kk) → Grow h h' → k w h' (.ge h h')) : callD pu CL false 10 [p.v, kk.v] h k :=
  callD_mkF (P := fun h w h' => EntsF h.n h' w (rotateS p kk)) (fun h => run_rotate10 p hp kk h) (fun _ _ _ a => a.r.nr) hk

theorem freesS_split (p : Pool) {i : Nat} : ∀ {m : Nat}, i < m → goneS p (p.at i) = true → ∃ r, freesS p m = freesS p i ++ ⟨5, i, 0, 0, 0, key0⟩ :: r
  | 0, h, _ => by omega
  | m + 1, h, hg => by
    by_cases e : i = m
    · subst e; exact ⟨[], by rw [freesS, if_pos hg]⟩
    · obtain ⟨r, hr⟩ := freesS_split p (m := m) (by omega) hg
      rw [freesS, hr, List.append_assoc]; exact ⟨_, rfl⟩

theorem EntsR.obj {h : H} {v : V} {es : List Entry} (a : EntsR h v es) (hl : 0 < es.length) : ∃ id st q, (∀ (i : Nat) (k : V → Prop), i < es.length → iaLK 16 v (i : Int) k = k (.ptr id st [i] 16)) ∧ h.get id = some (.cells (.agg 17 (es.map Entry.v)) q false) ∧ stampOf (.cells (.agg 17 (es.map Entry.v)) q false) = st := by
  rcases a with ⟨rfl, rfl⟩ | ⟨id, st, cap, q, rfl, b, c⟩
  · simp at hl
  · have hs : stampOf (.cells (.agg 17 (es.map Entry.v)) q false) = st := by
      subst c; cases q
      · exact stampOf_false _ _
      · rw [stampOf_true]; simp
    refine ⟨id, st, q, fun i k hi => ?_, b, hs⟩
    have hc : (i : Int) < (es.length : Int) := by omega
    simp only [hc, ↓stepR, normR, Int.cast_ofNat_Int, Int.natCast_nonneg, Int.toNat_natCast, Nat.reduceMod, Nat.reduceDiv, Nat.reducePow, Nat.testBit_eq_decide_div_mod_eq, ↓reduceIte, Nat.reduceEqDiff, Nat.reduceAdd, Nat.reduceSub, Nat.reduceMul, Nat.reduceLT, Nat.reduceLeDiff, Int.reduceEq, Int.reduceLT, Int.reduceLE, Int.reduceAdd, Int.reduceSub, Int.reduceMul, Int.reduceNeg, Int.reduceToNat, reduceCtorEq, eq_self]

theorem law_frees (v : V) (ns : List Int) (kz : Int) (h : H) (hv : IntsAt h v ns) (hw : IntKind.i64.wrap kz = kz) : Runs CL 29 [v, .i .i64 kz] h fun u _ => u = .b true := by
  have hlen := makeS_slots ns 80
  refine run (fn := F29) rfl rfl ?_
  unfold F29
  have hnt : v.isTup = false := by rcases hv with ⟨rfl, _⟩ | ⟨_, rfl, _⟩ <;> rfl
  simp only [call_known, hnt, ↓stepR, normR, Int.cast_ofNat_Int, Int.natCast_nonneg, Int.toNat_natCast, Nat.reduceMod, Nat.reduceDiv, Nat.reducePow, Nat.testBit_eq_decide_div_mod_eq, ↓reduceIte, Nat.reduceEqDiff, Nat.reduceAdd, Nat.reduceSub, Nat.reduceMul, Nat.reduceLT, Nat.reduceLeDiff, Int.reduceEq, Int.reduceLT, Int.reduceLE, Int.reduceAdd, Int.reduceSub, Int.reduceMul, Int.reduceNeg, Int.reduceToNat, reduceCtorEq, eq_self]
  refine call_make v ns 80 (by omega) h hv _ (fun h1 g1 => ?_)
  generalize hp : makeS ns 80 = p at *
  have hpo : (h1.push (.cells p.v false false)).get h1.n = some (.cells p.v false false) := by rw [H.get_push', if_pos rfl]
  simp only [Slot.sh, Slot.nt, Key.sh, Key.nt, Ring.sh, Ring.nt, Pool.sh, Pool.nt, Entry.sh, Entry.nt, dcall_key9, ↓stepR, normR, Int.cast_ofNat_Int, Int.natCast_nonneg, Int.toNat_natCast, Nat.reduceMod, Nat.reduceDiv, Nat.reducePow, Nat.testBit_eq_decide_div_mod_eq, ↓reduceIte, Nat.reduceEqDiff, Nat.reduceAdd, Nat.reduceSub, Nat.reduceMul, Nat.reduceLT, Nat.reduceLeDiff, Int.reduceEq, Int.reduceLT, Int.reduceLE, Int.reduceAdd, Int.reduceSub, Int.reduceMul, Int.reduceNeg, Int.reduceToNat, reduceCtorEq, eq_self]
  refine callD_rotate10 p hlen (keyS kz) _ _ (fun w h2 hu g2 => ?_)
  have hp2 := g2.2 _ _ (H.get_pushset h1 _ _)
  generalize hr : rotateS p (keyS kz) = es at *
  have hnu := hu.nt
  have hlu := hu.len
  have hl0 : 0 < es.length := by rw [← hr]; simp [rotateS]
  have hz : ¬ ((es.length : Int) = 0) := by omega
  have h0 : es[0] = ⟨6, 0, 0, 0, 0, keyS kz⟩ := by simp only [← hr, rotateS, List.getElem_cons_zero]
  obtain ⟨id, st, q, hi1, hb, hs⟩ := hu.obj hl0
  have hi1' : ∀ k : V → Prop, iaLK 16 w 0 k = k (.ptr id st [0] 16) := fun k => hi1 0 k hl0
  simp only [hnu, hlu, hz, dcall_key9, hi1', objK_of hb, hs, nthK_map _ _ _ _ hl0, h0, Entry.v, Key.v, veq_agg, veqs_cons, veqs_nil, veq_i, Bool.and_self, Slot.sh, Slot.nt, Key.sh, Key.nt, Ring.sh, Ring.nt, Pool.sh, Pool.nt, Entry.sh, Entry.nt, ↓stepR, normR, Int.cast_ofNat_Int, Int.natCast_nonneg, Int.toNat_natCast, Nat.reduceMod, Nat.reduceDiv, Nat.reducePow, Nat.testBit_eq_decide_div_mod_eq, ↓reduceIte, Nat.reduceEqDiff, Nat.reduceAdd, Nat.reduceSub, Nat.reduceMul, Nat.reduceLT, Nat.reduceLeDiff, Int.reduceEq, Int.reduceLT, Int.reduceLE, Int.reduceAdd, Int.reduceSub, Int.reduceMul, Int.reduceNeg, Int.reduceToNat, reduceCtorEq, eq_self]
  simp only [Pool.v, Ring.v] at hp2
  refine W_up 64 (fun i e hh => e = [(5, .ptr h1.n 0 [] 15), (6, w), (7, .i .i64 ((freesS p i).length + 1 : Nat)), (8, .i .i64 i)] ∧ hh = h2) ?_ 0 (by omega) _ _ ⟨rfl, rfl⟩
  rintro i e hh hi ⟨rfl, rfl⟩
  by_cases c1 : (i : Int) < 64
  · have hi' : i < p.slots.length := by omega
    have hi2 : i < 64 := by omega
    have hw := @wrap_up i (by omega)
    have hat : (p.slots[i]) = p.at i := by simp [Pool.at, List.getD, hi']
    have fl := freesS_len p i
    have hwa := @wrap_up ((freesS p i).length + 1) (by omega)
    cases hgn : goneS p (p.at i) with
    | true =>
      have hd := hgn
      simp only [goneS, decide_eq_true_eq] at hd
      obtain ⟨d1, d2'⟩ := hd
      have d2 := Int.not_lt.2 d2'
      obtain ⟨r, hr2⟩ := freesS_split p (by omega : i < 64) hgn
      have hle : (freesS p i).length + 1 < es.length := by rw [← hr]; simp only [rotateS, hr2, List.length_cons, List.length_append]; omega
      have hge : es[(freesS p i).length + 1] = ⟨5, i, 0, 0, 0, key0⟩ := by simp only [← hr, rotateS, hr2]; simp
      have c3 : ¬ ((es.length : Int) ≤ (((freesS p i).length + 1 : Nat) : Int)) := by omega
      have hi1'' : ∀ k : V → Prop, iaLK 16 w (((freesS p i).length + 1 : Nat) : Int) k = k (.ptr id st [(freesS p i).length + 1] 16) := fun k => hi1 _ k hle
      simp only [c1, nthK_map _ _ _ _ hi', Slot.v, hat, d1, d2, hnu, objK_of hp2, hlu, c3, hi1'', objK_of hb, hs, nthK_map _ _ _ _ hle, hge, Entry.v, Key.v, key0, veq_agg, veqs_cons, veqs_nil, veq_i, Bool.and_self, hw, hwa, ↓stepR, normR, Int.cast_ofNat_Int, Int.natCast_nonneg, Int.toNat_natCast, Nat.reduceMod, Nat.reduceDiv, Nat.reducePow, Nat.testBit_eq_decide_div_mod_eq, ↓reduceIte, Nat.reduceEqDiff, Nat.reduceAdd, Nat.reduceSub, Nat.reduceMul, Nat.reduceLT, Nat.reduceLeDiff, Int.reduceEq, Int.reduceLT, Int.reduceLE, Int.reduceAdd, Int.reduceSub, Int.reduceMul, Int.reduceNeg, Int.reduceToNat, reduceCtorEq, eq_self]
      refine ⟨hi2, ?_⟩
      simp only [freesS, hgn, if_true, List.length_append, List.length_cons, List.length_nil]
    | false =>
      have hd : ¬ ((p.at i).state = 4 ∧ IntKind.i64.wrap ((p.at i).since + 3) ≤ IntKind.i64.wrap (p.ring.epoch + 1)) := by simpa [goneS] using hgn
      by_cases d1 : (p.at i).state = 4
      · have d2 : IntKind.i64.wrap (p.ring.epoch + 1) < IntKind.i64.wrap ((p.at i).since + 3) := Int.not_le.1 fun d2 => hd ⟨d1, d2⟩
        simp only [c1, nthK_map _ _ _ _ hi', Slot.v, hat, d1, d2, hnu, objK_of hp2, hw, ↓stepR, normR, Int.cast_ofNat_Int, Int.natCast_nonneg, Int.toNat_natCast, Nat.reduceMod, Nat.reduceDiv, Nat.reducePow, Nat.testBit_eq_decide_div_mod_eq, ↓reduceIte, Nat.reduceEqDiff, Nat.reduceAdd, Nat.reduceSub, Nat.reduceMul, Nat.reduceLT, Nat.reduceLeDiff, Int.reduceEq, Int.reduceLT, Int.reduceLE, Int.reduceAdd, Int.reduceSub, Int.reduceMul, Int.reduceNeg, Int.reduceToNat, reduceCtorEq, eq_self]
        refine ⟨hi2, ?_⟩
        simp only [freesS, hgn, Bool.false_eq_true, if_false, List.append_nil]
      · simp only [c1, nthK_map _ _ _ _ hi', Slot.v, hat, d1, hnu, objK_of hp2, hw, ↓stepR, normR, Int.cast_ofNat_Int, Int.natCast_nonneg, Int.toNat_natCast, Nat.reduceMod, Nat.reduceDiv, Nat.reducePow, Nat.testBit_eq_decide_div_mod_eq, ↓reduceIte, Nat.reduceEqDiff, Nat.reduceAdd, Nat.reduceSub, Nat.reduceMul, Nat.reduceLT, Nat.reduceLeDiff, Int.reduceEq, Int.reduceLT, Int.reduceLE, Int.reduceAdd, Int.reduceSub, Int.reduceMul, Int.reduceNeg, Int.reduceToNat, reduceCtorEq, eq_self]
        refine ⟨hi2, ?_⟩
        simp only [freesS, hgn, Bool.false_eq_true, if_false, List.append_nil]
  · have : i = 64 := by omega
    subst this
    have he : (es.length : Int) = ((freesS p 64).length + 1 : Nat) := by rw [← hr]; simp [rotateS]
    simp only [c1, hnu, hlu, he, ↓stepR, normR, Int.cast_ofNat_Int, Int.natCast_nonneg, Int.toNat_natCast, Nat.reduceMod, Nat.reduceDiv, Nat.reducePow, Nat.testBit_eq_decide_div_mod_eq, ↓reduceIte, Nat.reduceEqDiff, Nat.reduceAdd, Nat.reduceSub, Nat.reduceMul, Nat.reduceLT, Nat.reduceLeDiff, Int.reduceEq, Int.reduceLT, Int.reduceLE, Int.reduceAdd, Int.reduceSub, Int.reduceMul, Int.reduceNeg, Int.reduceToNat, reduceCtorEq, eq_self]
    done
end Go.Rae.Order
