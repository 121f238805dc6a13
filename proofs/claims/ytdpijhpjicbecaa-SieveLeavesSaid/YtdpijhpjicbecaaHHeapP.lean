/- Heaps as plain lists: sift up, sift down, pop; what they keep, and that the first is a least one. No conditions. -/
namespace Go.Proofs.Ytdpijhpjicbecaa.H
set_option linter.unusedVariables false
section
variable {α : Type} (lt : α → α → Bool)
/-- Two places changed. -/
def swp (l : List α) (i j : Nat) (hi : i < l.length) (hj : j < l.length) : List α := (l.set i l[j]).set j l[i]
theorem swp_length (l : List α) (i j : Nat) (hi : i < l.length) (hj : j < l.length) : (swp l i j hi hj).length = l.length := by simp [swp]
theorem swp_perm (l : List α) (i j : Nat) (hi : i < l.length) (hj : j < l.length) : (swp l i j hi hj).Perm l := List.set_set_perm hi hj
theorem swp_get (l : List α) (i j : Nat) (hi : i < l.length) (hj : j < l.length) (k : Nat) (hk : k < l.length) :
    (swp l i j hi hj)[k]'(by rw [swp_length]; exact hk) = if k = j then l[i] else if k = i then l[j] else l[k] := by
  unfold swp
  rw [List.getElem_set]
  by_cases h : j = k
  · rw [if_pos h, if_pos h.symm]
  · rw [if_neg h, if_neg (fun e => h e.symm), List.getElem_set]
    by_cases h' : i = k
    · rw [if_pos h', if_pos h'.symm]
    · rw [if_neg h', if_neg (fun e => h' e.symm)]
def upL (l : List α) (i : Nat) : List α :=
  if h : 0 < i ∧ i < l.length then
    if lt l[i] (l[(i - 1) / 2]'(by omega)) then upL (swp l i ((i - 1) / 2) h.2 (by omega)) ((i - 1) / 2) else l
  else l
termination_by i
decreasing_by omega
/-- The lesser child's place (the left one's where there is no right one). -/
def child (l : List α) (i : Nat) : Nat :=
  if h : 2 * i + 2 < l.length then (if lt l[2 * i + 2] (l[2 * i + 1]'(by omega)) then 2 * i + 2 else 2 * i + 1) else 2 * i + 1
theorem child_two (l : List α) (i : Nat) : child lt l i = 2 * i + 1 ∨ child lt l i = 2 * i + 2 := by
  unfold child
  split
  · split
    · exact .inr rfl
    · exact .inl rfl
  · exact .inl rfl
theorem child_lt (l : List α) (i : Nat) : child lt l i < l.length ↔ 2 * i + 1 < l.length := by
  unfold child
  split
  · split <;> omega
  · exact Iff.rfl
def downL (l : List α) (i : Nat) : List α :=
  if h : child lt l i < l.length then
    if lt l[child lt l i] (l[i]'(by have := child_two lt l i; omega)) then downL (swp l i (child lt l i) (by have := child_two lt l i; omega) h) (child lt l i) else l
  else l
termination_by l.length - i
decreasing_by
  rw [swp_length]
  have := child_two lt l i
  omega
theorem upL_perm (l : List α) (i : Nat) : (upL lt l i).Perm l := by
  induction i using Nat.strongRecOn generalizing l with
  | _ i ih =>
    rw [upL]
    split
    · split
      · exact (ih _ (by omega) _).trans (swp_perm _ _ _ _ _)
      · exact List.Perm.refl _
    · exact List.Perm.refl _
theorem downL_perm (l : List α) (i : Nat) : (downL lt l i).Perm l := by
  generalize hn : l.length - i = n
  induction n using Nat.strongRecOn generalizing l i with
  | _ n ih =>
    rw [downL]
    have hc := child_two lt l i
    split
    · split
      · exact (ih (l.length - child lt l i) (by omega) _ _ (by rw [swp_length])).trans (swp_perm _ _ _ _ _)
      · exact List.Perm.refl _
    · exact List.Perm.refl _
theorem upL_length (l : List α) (i : Nat) : (upL lt l i).length = l.length := (upL_perm lt l i).length_eq
theorem downL_length (l : List α) (i : Nat) : (downL lt l i).length = l.length := (downL_perm lt l i).length_eq
/-- The last in the first one's place. -/
def rot : List α → List α
  | [] => []
  | x :: r => match r.getLast? with
    | none => []
    | some z => z :: r.dropLast
theorem rot_perm (x : α) (r : List α) : (rot (x :: r)).Perm r := by
  show (match r.getLast? with | none => [] | some z => z :: r.dropLast).Perm r
  cases h : r.getLast? with
  | none => rw [List.getLast?_eq_none_iff] at h; subst h; exact List.Perm.refl _
  | some z =>
    have h' : r = r.dropLast ++ [z] := by
      have hne : r ≠ [] := by rintro rfl; simp at h
      rw [List.getLast?_eq_some_getLast hne] at h
      injection h with h
      rw [← h]
      exact (List.dropLast_concat_getLast hne).symm
    have := List.perm_append_comm (l₁ := [z]) (l₂ := r.dropLast)
    rw [← h'] at this
    exact this
/-- What is left behind Pop. -/
def popL : List α → List α
  | [] => []
  | x :: r => downL lt (rot (x :: r)) 0
def pushL (l : List α) (x : α) : List α := upL lt (l ++ [x]) l.length
theorem popL_perm (x : α) (r : List α) : (popL lt (x :: r)).Perm r := (downL_perm lt _ 0).trans (rot_perm x r)
theorem pushL_perm (l : List α) (x : α) : (pushL lt l x).Perm (x :: l) := (upL_perm lt _ _).trans (List.perm_append_comm (l₁ := l) (l₂ := [x]))
theorem popL_length (x : α) (r : List α) : (popL lt (x :: r)).length = r.length := (popL_perm lt x r).length_eq
theorem pushL_length (l : List α) (x : α) : (pushL lt l x).length = l.length + 1 := by simpa using (pushL_perm lt l x).length_eq

/-! ### An order -/
/-- Nothing stands ahead of what stands ahead of it; 'not behind' goes on. -/
structure Weak (lt : α → α → Bool) : Prop where
  asymm : ∀ x y, lt x y = true → lt y x = false
  trans : ∀ x y z, lt y x = false → lt z y = false → lt z x = false
def IsHeap (l : List α) : Prop := ∀ i (h : i < l.length), 0 < i → lt l[i] (l[(i - 1) / 2]'(by omega)) = false
variable {lt}
theorem IsHeap.least (W : Weak lt) {l : List α} (h : IsHeap lt l) : ∀ i (hi : i < l.length), lt l[i] (l[0]'(by omega)) = false := by
  intro i
  induction i using Nat.strongRecOn with
  | _ i ih =>
    intro hi
    rcases Nat.eq_zero_or_pos i with rfl | hp
    · cases hl : lt l[0] l[0] with
      | false => rfl
      | true => rw [W.asymm _ _ hl] at hl; cases hl
    · exact W.trans _ _ _ (ih ((i - 1) / 2) (by omega) (by omega)) (h i hi hp)
theorem IsHeap.head (W : Weak lt) {x : α} {r : List α} (h : IsHeap lt (x :: r)) : ∀ y ∈ x :: r, lt y x = false := by
  intro y hy
  obtain ⟨i, hi, rfl⟩ := List.getElem_of_mem hy
  exact h.least W i hi
theorem IsHeap.nil : IsHeap lt ([] : List α) := fun i h => absurd h (by simp)
/-- A heap but for the way from i up. -/
theorem upL_heap (W : Weak lt) (l : List α) (i : Nat) (h1 : ∀ j (h : j < l.length), 0 < j → j ≠ i → lt l[j] (l[(j - 1) / 2]'(by omega)) = false)
    (h2 : ∀ j (h : j < l.length) (_ : 0 < j) (_ : (j - 1) / 2 = i) (_ : 0 < i), lt l[j] (l[(i - 1) / 2]'(by omega)) = false) : IsHeap lt (upL lt l i) := by
  induction i using Nat.strongRecOn generalizing l with
  | _ i ih =>
    rw [upL]
    split
    · rename_i h
      split
      · rename_i hlt
        have hp : (i - 1) / 2 < l.length := by omega
        refine ih _ (by omega) _ ?_ ?_
        · intro j hj hj0 hji
          rw [swp_length] at hj
          rw [swp_get _ _ _ _ _ _ hj, swp_get _ _ _ _ _ _ (by omega)]
          rw [if_neg hji]
          by_cases e : j = i
          · subst e
            rw [if_pos rfl, if_pos rfl]
            exact W.asymm _ _ hlt
          · rw [if_neg e]
            by_cases e2 : (j - 1) / 2 = (i - 1) / 2
            · rw [if_pos e2]
              have := h1 j hj hj0 e
              simp only [e2] at this
              exact W.trans _ _ _ (W.asymm _ _ hlt) this
            · rw [if_neg e2]
              by_cases e3 : (j - 1) / 2 = i
              · rw [if_pos e3]
                exact h2 j hj hj0 e3 h.1
              · rw [if_neg e3]
                exact h1 j hj hj0 e
        · intro j hj hj0 hji hi0
          rw [swp_length] at hj
          rw [swp_get _ _ _ _ _ _ hj, swp_get _ _ _ _ _ _ (by omega)]
          rw [if_neg (show ¬ ((i - 1) / 2 - 1) / 2 = (i - 1) / 2 by omega), if_neg (show ¬ ((i - 1) / 2 - 1) / 2 = i by omega), if_neg (show ¬ j = (i - 1) / 2 by omega)]
          have hpp := h1 ((i - 1) / 2) hp hi0 (by omega)
          by_cases e : j = i
          · rw [if_pos e]
            exact hpp
          · rw [if_neg e]
            have := h1 j hj hj0 e
            simp only [hji] at this
            exact W.trans _ _ _ hpp this
      · rename_i hlt
        intro j hj hj0
        by_cases e : j = i
        · subst e; simpa using hlt
        · exact h1 j hj hj0 e
    · rename_i h
      intro j hj hj0
      exact h1 j hj hj0 (by rintro rfl; exact h ⟨hj0, hj⟩)
theorem pushL_heap (W : Weak lt) (l : List α) (x : α) (h : IsHeap lt l) : IsHeap lt (pushL lt l x) := by
  unfold pushL
  refine upL_heap W _ _ ?_ ?_
  · intro j hj hj0 hji
    simp only [List.length_append, List.length_singleton] at hj
    have hj' : j < l.length := by omega
    have := h j hj' hj0
    rwa [List.getElem_append_left hj', List.getElem_append_left (show (j - 1) / 2 < l.length by omega)]
  · intro j hj hj0 hji
    simp only [List.length_append, List.length_singleton] at hj
    omega
/-- A heap but for what stands below i. -/
theorem downL_heap (W : Weak lt) (l : List α) (i : Nat) (h1 : ∀ j (h : j < l.length), 0 < j → (j - 1) / 2 ≠ i → lt l[j] (l[(j - 1) / 2]'(by omega)) = false)
    (h2 : ∀ j (h : j < l.length) (_ : 0 < j) (_ : (j - 1) / 2 = i) (_ : 0 < i), lt l[j] (l[(i - 1) / 2]'(by omega)) = false) : IsHeap lt (downL lt l i) := by
  generalize hn : l.length - i = n
  induction n using Nat.strongRecOn generalizing l i with
  | _ n ih =>
    rw [downL]
    have hc := child_two lt l i
    have hcl := child_lt lt l i
    have hleast : ∀ (hcl : child lt l i < l.length) j (h : j < l.length), 0 < j → (j - 1) / 2 = i → lt l[j] (l[child lt l i]'hcl) = false := by
      intro hcl j hj hj0 hji
      have hirr : ∀ x, lt x x = false := fun x => by
        cases hl : lt x x with
        | false => rfl
        | true => rw [W.asymm _ _ hl] at hl; cases hl
      have hj2 : j = 2 * i + 1 ∨ j = 2 * i + 2 := by omega
      by_cases hr : 2 * i + 2 < l.length
      · by_cases hlt : lt l[2 * i + 2] (l[2 * i + 1]'(by omega)) = true
        · have e : child lt l i = 2 * i + 2 := by unfold child; rw [dif_pos hr, if_pos hlt]
          simp only [e]
          rcases hj2 with rfl | rfl
          · exact W.asymm _ _ hlt
          · exact hirr _
        · have e : child lt l i = 2 * i + 1 := by unfold child; rw [dif_pos hr, if_neg hlt]
          simp only [e]
          rcases hj2 with rfl | rfl
          · exact hirr _
          · simpa using hlt
      · have e : child lt l i = 2 * i + 1 := by unfold child; rw [dif_neg hr]
        simp only [e]
        have : j = 2 * i + 1 := by omega
        subst this
        exact hirr _
    split
    · rename_i hclt
      have hle := hleast hclt
      split
      · rename_i hlt
        refine ih (l.length - child lt l i) (by omega) _ _ ?_ ?_ (by rw [swp_length])
        · intro j hj hj0 hji
          rw [swp_length] at hj
          rw [swp_get _ _ _ _ _ _ hj, swp_get _ _ _ _ _ _ (by omega)]
          rw [if_neg hji]
          by_cases e : j = child lt l i
          · rw [if_pos e]
            have e2 : (j - 1) / 2 = i := by omega
            rw [if_pos e2]
            exact W.asymm _ _ hlt
          · rw [if_neg e]
            by_cases e3 : (j - 1) / 2 = i
            · rw [if_pos e3, if_neg (by omega)]
              exact hle j hj hj0 e3
            · rw [if_neg e3]
              by_cases e4 : j = i
              · rw [if_pos e4]
                subst e4
                exact h2 _ hclt (by omega) (by omega) hj0
              · rw [if_neg e4]
                exact h1 j hj hj0 e3
        · intro j hj hj0 hji hc0
          rw [swp_length] at hj
          have e1 : (child lt l i - 1) / 2 = i := by omega
          rw [swp_get _ _ _ _ _ _ hj, swp_get _ _ _ _ _ _ (by omega)]
          rw [if_neg (show ¬ (child lt l i - 1) / 2 = child lt l i by omega), if_pos e1, if_neg (show ¬ j = child lt l i by omega), if_neg (show ¬ j = i by omega)]
          have := h1 j hj hj0 (by omega)
          simp only [hji] at this
          exact this
      · rename_i hlt
        intro j hj hj0
        by_cases e : (j - 1) / 2 = i
        · have h3 := hle j hj hj0 e
          simp only [e]
          exact W.trans _ _ _ (by simpa using hlt) h3
        · exact h1 j hj hj0 e
    · rename_i hclt
      intro j hj hj0
      exact h1 j hj hj0 (by omega)
theorem popL_heap (W : Weak lt) (x : α) (r : List α) (h : IsHeap lt (x :: r)) : IsHeap lt (popL lt (x :: r)) := by
  unfold popL
  refine downL_heap W _ _ ?_ ?_
  · intro j hj hj0 hji
    unfold rot at hj ⊢
    cases hz : r.getLast? with
    | none => simp [hz] at hj
    | some z =>
      simp only [hz] at hj ⊢
      have hr : ∀ k (hk : k < r.dropLast.length), r.dropLast[k] = r[k]'(by rw [List.length_dropLast] at hk; omega) := fun k hk => List.getElem_dropLast hk
      simp only [List.length_cons, List.length_dropLast] at hj
      have hj' := h j (by simp only [List.length_cons]; omega) hj0
      obtain ⟨j, rfl⟩ : ∃ k, j = k + 1 := ⟨j - 1, by omega⟩
      obtain ⟨q, hq⟩ : ∃ k, (j + 1 - 1) / 2 = k + 1 := ⟨(j + 1 - 1) / 2 - 1, by omega⟩
      simp only [hq, List.getElem_cons_succ] at hj' ⊢
      rw [hr, hr]
      exact hj'
  · intro j hj hj0 hji hi0
    exact absurd hi0 (by omega)
end
end Go.Proofs.Ytdpijhpjicbecaa.H
