/- The plain laws: what is wished may be done. -/
import Derived.Test.YtannfoaobeoafaaDoorOrdCalls
set_option linter.unusedVariables false
set_option linter.unusedSimpArgs false
namespace Go.Rae.Order
set_option maxRecDepth 100000

theorem at_some {p : Pool} {i : Nat} (h : i < p.slots.length) : p.at i = p.slots[i] := by simp [Pool.at, List.getD, h]

theorem allS_cons {p : Pool} {e : Entry} {es : List Entry} {i : Nat} (h : applyE p e = 0) : allS p (e :: es) i = allS (applyS p e) es (i + 1) := by rw [allS, if_pos h]
theorem allS_append : ∀ (es fs : List Entry) (p : Pool) (i : Nat), (allS p es i).2.2 = 0 → allS p (es ++ fs) i = allS (allS p es i).1 fs (i + es.length) ∧ (allS p es i).2.1 = i + es.length := by
  intro es fs
  induction es with
  | nil => intro p i _; exact ⟨rfl, rfl⟩
  | cons e es ih =>
    intro p i h
    by_cases c : applyE p e = 0
    · rw [allS_cons c] at h ⊢
      obtain ⟨h1, h2⟩ := ih _ _ h
      rw [List.cons_append, allS_cons c, h1, h2, List.length_cons]
      exact ⟨by congr 1; omega, by omega⟩
    · rw [allS, if_neg c] at h; exact absurd h c

theorem applyS_at {p : Pool} (hp : p.slots.length = 64) {e : Entry} (h : applyE p e = 0) (h0 : 0 ≤ e.slot) (h1 : e.slot < 64) (j : Nat) (hj : j < 64) : (applyS p e).at j = if (j : Int) = e.slot then slotS p e else p.at j := by
  have hl : (applyS p e).slots.length = 64 := applyS_len p e hp
  rw [at_some (by omega), at_some (by omega)]
  simp only [applyS, if_pos h, doS, List.getElem_set]
  by_cases c : (j : Int) = e.slot
  · rw [if_pos c, if_pos (by omega)]
  · rw [if_neg c, if_neg (by omega)]
theorem applyS_ring {p : Pool} {e : Entry} (h : applyE p e = 0) : (applyS p e).ring = if e.kind = 6 then nextS p.ring e.key else p.ring := by
  simp only [applyS, if_pos h, doS]

theorem applyS_addr {p : Pool} {e : Entry} (h : applyE p e = 0) : (applyS p e).addr = p.addr := by
  simp only [applyS, if_pos h, doS]
theorem applyS_port {p : Pool} {e : Entry} (h : applyE p e = 0) : (applyS p e).port = p.port := by
  simp only [applyS, if_pos h, doS]

theorem apply_ok {p : Pool} {e : Entry} (h1 : checkS e = 0) (h2 : badS p e = false) (h3 : ¬ soonS p e) : applyE p e = 0 := by
  unfold applyE; rw [if_neg (by simp [h1]), if_neg (by simp [h2]), if_neg h3]

theorem check_open {i : Nat} (hi : i < 64) : checkS (openE i) = 0 := by
  unfold checkS openE; simp only; rw [if_neg (by omega), if_neg (by omega), if_neg (by omega), if_neg (by simp)]
theorem check_drain {i : Nat} (hi : i < 64) : checkS (drainE i) = 0 := by
  unfold checkS drainE; simp only; rw [if_neg (by omega), if_neg (by omega), if_neg (by omega), if_neg (by simp)]
theorem check_shut {i : Nat} (hi : i < 64) : checkS (shutE i) = 0 := by
  unfold checkS shutE; simp only; rw [if_neg (by omega), if_neg (by omega), if_neg (by omega), if_neg (by simp)]
theorem check_addE {i : Nat} {a b c : Int} (hi : i < 64) (h : checkS (addE 0 a b c) = 0) : checkS (addE i a b c) = 0 := by
  unfold checkS addE at *
  simp only at *
  rw [if_neg (by omega), if_neg (by omega)] at *
  exact h

/-- One who is added is active, and is found. -/
theorem add_done {p : Pool} (hp : p.slots.length = 64) {a b c : Int} (h : (addS p a b c).2 = 0) : ∃ (i : Nat) (q : Pool), i < 64 ∧ addS p a b c = ([addE i a b c, openE i], 0) ∧ p.slots.findIdx? freeS = some i ∧ heldS p a b = false ∧ allS p (addS p a b c).1 0 = (q, 2, 0) ∧
    q.slots.length = 64 ∧ q.at i = ⟨2, a, b, c, 0⟩ ∧ (∀ j : Nat, j < 64 → j ≠ i → q.at j = p.at j) ∧ q.slots.findIdx? (stands a b) = some i ∧ q.addr = p.addr ∧ q.port = p.port ∧ q.ring = p.ring := by
  unfold addS at h
  by_cases c1 : checkS (addE 0 a b c) ≠ 0
  · rw [if_pos c1] at h; exact absurd h (by decide)
  · rw [if_neg c1] at h
    cases c2 : heldS p a b with
    | true => rw [if_pos c2] at h; exact absurd h (by decide)
    | false =>
      rw [if_neg (by simp [c2])] at h
      cases c3 : p.slots.findIdx? freeS with
      | none => rw [c3] at h; exact absurd h (show ¬ (9 : Int) = 0 by decide)
      | some i =>
        obtain ⟨hi', hf, _⟩ := List.findIdx?_eq_some_iff_getElem.1 c3
        have hi : i < 64 := by omega
        have ea : addS p a b c = ([addE i a b c, openE i], 0) := by unfold addS; rw [if_neg c1, if_neg (by simp [c2]), c3]
        have hfree : (p.at i).state = 0 := by rw [at_some hi']; simpa [freeS] using hf
        have e1 : applyE p (addE i a b c) = 0 := apply_ok (check_addE hi (by simpa using c1)) (by simp [badS, addE, hfree, c2]) (fun h => absurd h.1 (show ¬ (1 : Int) = 5 by decide))
        have l1 := applyS_len p (addE i a b c) hp
        have a1 : ∀ j : Nat, j < 64 → (applyS p (addE i a b c)).at j = if j = i then ⟨1, a, b, c, 0⟩ else p.at j := fun j hj => by
          rw [applyS_at hp e1 (by simp [addE]) (by simp [addE]; omega) j hj]
          by_cases c : j = i
          · subst c; rw [if_pos (show (j : Int) = (addE j a b c).slot from rfl), if_pos rfl]; rfl
          · rw [if_neg c, if_neg (by simp only [addE]; omega)]
        have e2 : applyE (applyS p (addE i a b c)) (openE i) = 0 := apply_ok (check_open hi) (by simp [badS, openE, a1 i hi]) (fun h => absurd h.1 (by decide : ¬ (2 : Int) = 5))
        have a2 : ∀ j : Nat, j < 64 → (applyS (applyS p (addE i a b c)) (openE i)).at j = if j = i then ⟨2, a, b, c, 0⟩ else p.at j := fun j hj => by
          rw [applyS_at l1 e2 (by simp [openE]) (by simp [openE]; omega) j hj]
          by_cases c : j = i
          · subst c; rw [if_pos (show (j : Int) = (openE j).slot from rfl), if_pos rfl]; simp [slotS, openE, a1 j hj]
          · rw [if_neg c, if_neg (by simp only [openE]; omega), a1 j hj, if_neg c]
        have l2 := applyS_len _ (openE i) l1
        refine ⟨i, applyS (applyS p (addE i a b c)) (openE i), hi, ea, rfl, rfl, ?_, l2, by rw [a2 i hi, if_pos rfl], fun j hj hn => by rw [a2 j hj, if_neg hn], ?_, ?_, ?_, ?_⟩
        · rw [ea, allS_cons e1, allS_cons e2, allS]
        · refine findIdx_at (by omega) ?_ fun j hj hlt => ?_
          · rw [← at_some (by omega), a2 i hi, if_pos rfl]; simp [stands]
          · rw [← at_some hj, a2 j (by omega), if_neg (by omega)]
            have hnt : taken a b (p.at j) = false := by
              have := (Bool.or_eq_false_iff.1 c2).1
              rw [List.any_eq_false] at this
              rw [at_some (by omega)]
              simpa using this _ (List.getElem_mem (show j < p.slots.length by omega))
            simp only [taken, decide_eq_false_iff_not] at hnt
            simp only [stands, decide_eq_false_iff_not]
            exact fun h => hnt ⟨by omega, h.2⟩
        · rw [applyS_addr e2, applyS_addr e1]
        · rw [applyS_port e2, applyS_port e1]
        · rw [applyS_ring e2, applyS_ring e1]; rfl

/-- One who is removed is shut. -/
theorem remove_done {p : Pool} (hp : p.slots.length = 64) {a b : Int} (h : (removeS p a b).2 = 0) : ∃ (i : Nat) (q : Pool), i < 64 ∧ p.slots.findIdx? (stands a b) = some i ∧ removeS p a b = ((if (p.at i).state = 2 then [drainE i] else []) ++ [shutE i], 0) ∧
    allS p (removeS p a b).1 0 = (q, (removeS p a b).1.length, 0) ∧ q.slots.length = 64 ∧ q.at i = { p.at i with state := 4, since := p.ring.epoch } ∧ (∀ j : Nat, j < 64 → j ≠ i → q.at j = p.at j) ∧ q.addr = p.addr ∧ q.port = p.port ∧ q.ring = p.ring := by
  unfold removeS at h
  cases c3 : p.slots.findIdx? (stands a b) with
  | none => rw [c3] at h; exact absurd h (show ¬ (9 : Int) = 0 by decide)
  | some i =>
    obtain ⟨hi', hf, _⟩ := List.findIdx?_eq_some_iff_getElem.1 c3
    have hi : i < 64 := by omega
    have ea : removeS p a b = ((if (p.at i).state = 2 then [drainE i] else []) ++ [shutE i], 0) := by unfold removeS; rw [c3]
    have hst : (p.at i).state = 1 ∨ (p.at i).state = 2 ∨ (p.at i).state = 3 := by
      rw [at_some hi']
      have : (p.slots[i].state = 1 ∨ p.slots[i].state = 2 ∨ p.slots[i].state = 3) ∧ p.slots[i].addr = a ∧ p.slots[i].port = b := by simpa [stands] using hf
      exact this.1
    have last : ∀ r : Pool, r.slots.length = 64 → ((r.at i).state = 1 ∨ (r.at i).state = 3) → applyE r (shutE i) = 0 := fun r _ hr =>
      apply_ok (check_shut hi) (by rcases hr with hr | hr <;> simp [badS, shutE, hr]) (fun h => absurd h.1 (show ¬ (4 : Int) = 5 by decide))
    have lastat : ∀ r : Pool, r.slots.length = 64 → applyE r (shutE i) = 0 → ∀ j : Nat, j < 64 → (applyS r (shutE i)).at j = if j = i then { r.at i with state := 4, since := r.ring.epoch } else r.at j := fun r hr he j hj => by
      rw [applyS_at hr he (by simp [shutE]) (by simp [shutE]; omega) j hj]
      by_cases c : j = i
      · subst c; rw [if_pos (show (j : Int) = (shutE j).slot from rfl), if_pos rfl]; rfl
      · rw [if_neg c, if_neg (by simp only [shutE]; omega)]
    by_cases c : (p.at i).state = 2
    · have e1 : applyE p (drainE i) = 0 := apply_ok (check_drain hi) (by simp [badS, drainE, c]) (fun h => absurd h.1 (show ¬ (3 : Int) = 5 by decide))
      have l1 := applyS_len p (drainE i) hp
      have a1 : ∀ j : Nat, j < 64 → (applyS p (drainE i)).at j = if j = i then { p.at i with state := 3 } else p.at j := fun j hj => by
        rw [applyS_at hp e1 (by simp [drainE]) (by simp [drainE]; omega) j hj]
        by_cases c : j = i
        · subst c; rw [if_pos (show (j : Int) = (drainE j).slot from rfl), if_pos rfl]; rfl
        · rw [if_neg c, if_neg (by simp only [drainE]; omega)]
      have e2 := last _ l1 (.inr (by rw [a1 i hi, if_pos rfl]))
      have a2 := lastat _ l1 e2
      have r1 : (applyS p (drainE i)).ring = p.ring := by rw [applyS_ring e1]; rfl
      rw [if_pos c] at ea
      refine ⟨i, applyS (applyS p (drainE i)) (shutE i), hi, rfl, by rw [ea, if_pos c], ?_, applyS_len _ _ l1, ?_, fun j hj hn => by rw [a2 j hj, if_neg hn, a1 j hj, if_neg hn], by rw [applyS_addr e2, applyS_addr e1], by rw [applyS_port e2, applyS_port e1], ?_⟩
      · rw [ea]; simp only [List.cons_append, List.nil_append]; rw [allS_cons e1, allS_cons e2, allS]; rfl
      · rw [a2 i hi, if_pos rfl, a1 i hi, if_pos rfl, r1]
      · rw [applyS_ring e2, r1]; rfl
    · have e2 := last p hp (by omega)
      have a2 := lastat p hp e2
      rw [if_neg c] at ea
      refine ⟨i, applyS p (shutE i), hi, rfl, by rw [ea, if_neg c], ?_, applyS_len _ _ hp, by rw [a2 i hi, if_pos rfl], fun j hj hn => by rw [a2 j hj, if_neg hn], applyS_addr e2, applyS_port e2, ?_⟩
      · rw [ea]; simp only [List.nil_append]; rw [allS_cons e2, allS]; rfl
      · rw [applyS_ring e2]; rfl

/-! ### keys anew -/
def rotE (k : Key) : Entry := ⟨6, 0, 0, 0, 0, k⟩
def freeE (i : Nat) : Entry := ⟨5, i, 0, 0, 0, key0⟩
theorem check_free {i : Nat} (hi : i < 64) : checkS (freeE i) = 0 := by
  unfold checkS freeE; simp only; rw [if_neg (by omega), if_neg (by omega), if_neg (by omega), if_neg (by simp)]
theorem check_rot (k : Key) : checkS (rotE k) = 0 := by
  unfold checkS rotE; simp

theorem rotate_done {p : Pool} (hp : p.slots.length = 64) (k : Key) : ∃ (q : Pool) (n : Nat), allS p (rotateS p k) 0 = (q, n, 0) ∧ 1 ≤ n ∧ q.slots.length = 64 ∧ q.ring = nextS p.ring k ∧ ∀ j : Nat, j < 64 → q.at j = if goneS p (p.at j) then slot0 else p.at j := by
  have e1 : applyE p (rotE k) = 0 := apply_ok (check_rot k) (by simp [badS, rotE]) (fun h => absurd h.1 (show ¬ (6 : Int) = 5 by decide))
  have l1 := applyS_len p (rotE k) hp
  have r1 : (applyS p (rotE k)).ring = nextS p.ring k := by rw [applyS_ring e1]; rfl
  have a1 : ∀ j : Nat, j < 64 → (applyS p (rotE k)).at j = p.at j := fun j hj => by
    rw [applyS_at hp e1 (by simp [rotE]) (by simp [rotE]) j hj]
    split
    · rename_i h
      have e : slotS p (rotE k) = p.at (rotE k).slot := by simp [slotS, rotE]
      rw [e, ← h]
    · rfl
  have key : ∀ n : Nat, n ≤ 64 → ∃ q : Pool, allS (applyS p (rotE k)) (freesS p n) 1 = (q, 1 + (freesS p n).length, 0) ∧ q.slots.length = 64 ∧ q.ring = nextS p.ring k ∧ ∀ j : Nat, j < 64 → q.at j = if j < n ∧ goneS p (p.at j) = true then slot0 else p.at j := by
    intro n
    induction n with
    | zero => intro _; exact ⟨_, rfl, l1, r1, fun j hj => by rw [a1 j hj, if_neg (by omega)]⟩
    | succ n ih =>
      intro hn
      obtain ⟨q, h1, h2, h3, h4⟩ := ih (by omega)
      cases hg : goneS p (p.at n) with
      | false =>
        refine ⟨q, by rw [freesS, hg, if_neg (by decide), List.append_nil]; exact h1, h2, h3, fun j hj => ?_⟩
        rw [h4 j hj]
        by_cases c : j = n
        · subst c; rw [if_neg (by simp [hg]), if_neg (by simp [hg])]
        · by_cases d : j < n ∧ goneS p (p.at j) = true
          · rw [if_pos d, if_pos ⟨by omega, d.2⟩]
          · rw [if_neg d, if_neg (fun h => d ⟨by omega, h.2⟩)]
      | true =>
        have hd := hg
        simp only [goneS, decide_eq_true_eq] at hd
        have hqn : q.at n = p.at n := by rw [h4 n (by omega), if_neg (by omega)]
        have e2 : applyE q (freeE n) = 0 := apply_ok (check_free (by omega)) (by simp [badS, freeE, hqn, hd.1]) (fun h => by
          have h' := h.2
          simp only [freeE, hqn, h3, nextS] at h'
          omega)
        have ap := allS_append (freesS p n) [freeE n] (applyS p (rotE k)) 1 (by rw [h1])
        refine ⟨applyS q (freeE n), ?_, applyS_len _ _ h2, by rw [applyS_ring e2, if_neg (by simp [freeE])]; exact h3, fun j hj => ?_⟩
        · rw [freesS, hg, if_pos rfl]
          rw [show (⟨5, (n : Int), 0, 0, 0, key0⟩ : Entry) = freeE n from rfl, ap.1, h1]
          simp only
          rw [allS_cons e2, allS]
          simp only [List.length_append, List.length_singleton, Nat.add_assoc]
        · rw [applyS_at h2 e2 (by simp [freeE]) (by simp [freeE]; omega) j hj]
          by_cases c : j = n
          · subst c; rw [if_pos (show (j : Int) = (freeE j).slot from rfl), if_pos ⟨by omega, hg⟩]; simp [slotS, freeE]
          · rw [if_neg (by simp only [freeE]; omega), h4 j hj]
            by_cases d : j < n ∧ goneS p (p.at j) = true
            · rw [if_pos d, if_pos ⟨by omega, d.2⟩]
            · rw [if_neg d, if_neg (fun h => d ⟨by omega, h.2⟩)]
  obtain ⟨q, h1, h2, h3, h4⟩ := key 64 (Nat.le_refl _)
  refine ⟨q, 1 + (freesS p 64).length, ?_, by omega, h2, h3, fun j hj => ?_⟩
  · unfold rotateS
    rw [show (⟨6, 0, 0, 0, 0, k⟩ : Entry) = rotE k from rfl, allS_cons e1]; exact h1
  · rw [h4 j hj]
    by_cases d : goneS p (p.at j) = true
    · rw [if_pos ⟨hj, d⟩, if_pos d]
    · rw [if_neg (fun h => d h.2), if_neg d]
end Go.Rae.Order
