/- Calls of the functions that make entries. -/
import Derived.Test.YtannfoaobeoafaaDoorOrdMarks
import Derived.Test.YtannfoaobeoafaaDoorOrdRem
set_option linter.unusedVariables false
set_option linter.unusedSimpArgs false
namespace Go.Rae.Order
set_option maxRecDepth 100000

theorem EntsR.nrt {h : H} {v : V} {es : List Entry} (a : EntsR h v es) (n : Int) : noRefR pu (.tup [v, .i .i64 n]) = false := by
  rcases a with ⟨rfl, _⟩ | ⟨id, st, cap, q, rfl, _⟩ <;> rfl

section
variable (p : Pool) (hp : p.slots.length = 64) (a b c : Int) (h : H) (k : V → H → Prop)
include hp

theorem callK_add4 (hk : ∀ u h', EntsF h.n h' u (addS p a b c).1 → Grow h h' → k (.tup [u, .i .i64 (addS p a b c).2]) h') : callK pu CL 4 [p.v, .i .i64 a, .i .i64 b, .i .i64 c] h k :=
  callK_mkF (P := fun h w h' => ∃ u, w = .tup [u, .i .i64 (addS p a b c).2] ∧ EntsF h.n h' u (addS p a b c).1) (fun h => run_add4 p hp a b c h) (fun _ _ _ ⟨_, e, f⟩ => by subst e; exact f.r.nrt _) fun _ h' ⟨u, e, f⟩ g => by subst e; exact hk u h' f g
theorem callK_add5 (hk : ∀ u h', EntsF h.n h' u (addS p a b c).1 → Grow h h' → k (.tup [u, .i .i64 (addS p a b c).2]) h') : callK pu CL 5 [p.v, .i .i64 a, .i .i64 b, .i .i64 c] h k :=
  callK_mkF (P := fun h w h' => ∃ u, w = .tup [u, .i .i64 (addS p a b c).2] ∧ EntsF h.n h' u (addS p a b c).1) (fun h => run_add5 p hp a b c h) (fun _ _ _ ⟨_, e, f⟩ => by subst e; exact f.r.nrt _) fun _ h' ⟨u, e, f⟩ g => by subst e; exact hk u h' f g
theorem callK_remove6 (hst : p.St) (hk : ∀ u h', EntsF h.n h' u (removeS p a b).1 → Grow h h' → k (.tup [u, .i .i64 (removeS p a b).2]) h') : callK pu CL 6 [p.v, .i .i64 a, .i .i64 b] h k :=
  callK_mkF (P := fun h w h' => ∃ u, w = .tup [u, .i .i64 (removeS p a b).2] ∧ EntsF h.n h' u (removeS p a b).1) (fun h => run_remove6 p hp hst a b h) (fun _ _ _ ⟨_, e, f⟩ => by subst e; exact f.r.nrt _) fun _ h' ⟨u, e, f⟩ g => by subst e; exact hk u h' f g
theorem callK_remove7 (hk : ∀ u h', EntsF h.n h' u (removeS p a b).1 → Grow h h' → k (.tup [u, .i .i64 (removeS p a b).2]) h') : callK pu CL 7 [p.v, .i .i64 a, .i .i64 b] h k :=
  callK_mkF (P := fun h w h' => ∃ u, w = .tup [u, .i .i64 (removeS p a b).2] ∧ EntsF h.n h' u (removeS p a b).1) (fun h => run_remove7 p hp a b h) (fun _ _ _ ⟨_, e, f⟩ => by subst e; exact f.r.nrt _) fun _ h' ⟨u, e, f⟩ g => by subst e; exact hk u h' f g
theorem callD_mark13 (k : V → H → Cls → Prop) (hk : ∀ w h', EntsR h' w (markS p a b) → Grow h h' → k w h' (.ge h h')) : callD pu CL false 13 [p.v, .i .i64 a, .i .i64 b] h k :=
  callD_mk (fun h => run_mark13 p hp a b h) (fun _ _ a => a.nr) hk
theorem callD_rotate11 (kk : Key) (k : V → H → Cls → Prop) (hk : ∀ w h', EntsF h.n h' w (rotateS p kk) → Grow h h' → k w h' (.ge h h')) : callD pu CL false 11 [p.v, kk.v] h k :=
  callD_mkF (P := fun h w h' => EntsF h.n h' w (rotateS p kk)) (fun h => run_rotate11 p hp kk h) (fun _ _ _ a => a.r.nr) hk
end

theorem callK_same8 (v w : V) (es fs : List Entry) (h : H) (hv : EntsR h v es) (hw : EntsR h w fs) (hle : es.length < 1000000) (k : V → H → Prop) (hk : ∀ h', Grow h h' → k (.b (decide (es = fs))) h') : callK pu CL 8 [v, w] h k := by
  rw [callK_refs (hw.nr2 _)]
  exact (run_same8 v w es fs h hv hw hle).mono fun u h' ⟨a, b⟩ => by subst a; exact hk h' b
theorem callD_same8 (v w : V) (es fs : List Entry) (h : H) (hv : EntsR h v es) (hw : EntsR h w fs) (hle : es.length < 1000000) (k : V → H → Cls → Prop) (hk : ∀ h', Grow h h' → k (.b (decide (es = fs))) h' (.ge h h')) : callD pu CL false 8 [v, w] h k := by
  rw [callD_refs h k (hw.nr2 _)]
  exact (run_same8 v w es fs h hv hw hle).mono fun u h' ⟨a, b⟩ => by subst a; exact hk h' b

theorem addS_len (p : Pool) (a b c : Int) : (addS p a b c).1.length < 1000000 := by
  unfold addS; split
  · simp
  · split
    · simp
    · split <;> simp
theorem removeS_len (p : Pool) (a b : Int) : (removeS p a b).1.length < 1000000 := by
  unfold removeS; split
  · simp
  · simp only; split <;> simp
theorem rotateS_len (p : Pool) (k : Key) : (rotateS p k).length < 1000000 := by
  have := freesS_len p 64
  simp only [rotateS, List.length_cons]; omega

/-! ### states that may be, kept -/
theorem slot_st {p : Pool} (hs : p.St) (i : Int) : 0 ≤ (p.at i).state ∧ (p.at i).state ≤ 4 := by
  unfold Pool.at
  by_cases h : i.toNat < p.slots.length
  · rw [List.getD_eq_getElem?_getD, List.getElem?_eq_getElem h]; exact hs _ (List.getElem_mem h)
  · rw [List.getD_eq_getElem?_getD, List.getElem?_eq_none (by omega)]; exact ⟨by decide, by decide⟩
theorem slotS_st {p : Pool} (hs : p.St) (e : Entry) : 0 ≤ (slotS p e).state ∧ (slotS p e).state ≤ 4 := by
  have := slot_st hs e.slot
  unfold slotS
  simp only
  split
  · (constructor <;> simp only <;> omega)
  · split
    · (constructor <;> simp only <;> omega)
    · split
      · (constructor <;> simp only <;> omega)
      · split
        · (constructor <;> simp only <;> omega)
        · split
          · (constructor <;> decide)
          · exact this
theorem pool0_st : pool0.St := fun s hs => by
  rw [List.eq_of_mem_replicate hs]; exact ⟨by decide, by decide⟩
theorem pool1_st : pool1.St := fun s hs => by
  rw [List.eq_of_mem_replicate hs]; exact ⟨by decide, by decide⟩
theorem applyS_st {p : Pool} (hs : p.St) (e : Entry) : (applyS p e).St := by
  unfold applyS; split
  · intro s hm
    rcases List.mem_or_eq_of_mem_set hm with h | h
    · exact hs s h
    · subst h; exact slotS_st hs e
  · exact pool0_st
theorem foldS_st : ∀ (ns : List Int) {p : Pool}, p.St → (foldS p ns).St
  | [], _, h => h
  | n :: ns, p, h => by
    unfold foldS
    refine foldS_st ns ?_
    split
    · exact applyS_st h _
    · exact h
theorem makeS_st (ns : List Int) (most : Nat) : (makeS ns most).St := foldS_st _ pool1_st
end Go.Rae.Order
