/- Merging, plain: what is taken next, out of some lists; all that is taken. No conditions. -/
import Derived.Test.YtdpijhpjicbecaaSkO
import Derived.Test.YtdpijhpjicbecaaHHeapP
namespace Go.Proofs.Ytdpijhpjicbecaa.H
open Go.RowKit Go.Deep Go.Proofs.YtdpijhpjicbecaaW.PrintWords
set_option linter.unusedVariables false
set_option linter.unusedSimpArgs false
/-- The entry x of the i-th source is taken ahead of the entry y of the j-th. -/
def lessR (x : Ent) (i : Nat) (y : Ent) (j : Nat) : Bool := if cmpEE x y ≠ 0 then decide (cmpEE x y < 0) else decide (i < j)
theorem lessR_iff (x : Ent) (i : Nat) (y : Ent) (j : Nat) : lessR x i y j = true ↔ ltE x y ∨ (samE x y ∧ i < j) := by
  unfold lessR
  by_cases h : cmpEE x y = 0
  · have hn : ¬ ltE x y := fun k => by unfold ltE at k; omega
    rw [if_neg (by simp [h])]
    simp [hn, (eqE_iff x y).1 h]
  · have hn : ¬ samE x y := fun k => h ((eqE_iff x y).2 k)
    rw [if_pos h]
    simp [hn, ltE]
theorem lessR_false (x : Ent) (i : Nat) (y : Ent) (j : Nat) : lessR x i y j = false ↔ ltE y x ∨ (samE x y ∧ j ≤ i) := by
  rw [← Bool.not_eq_true, lessR_iff]
  constructor
  · intro h
    rcases E_tri x y with k | k | k
    · exact absurd (.inl k) h
    · exact .inr ⟨k, by
        have : ¬ i < j := fun l => h (.inr ⟨k, l⟩)
        omega⟩
    · exact .inl k
  · rintro (h | ⟨h, hj⟩) (k | ⟨k, hk⟩)
    · exact ltE_asymm h k
    · exact ltE_irrefl (samE_lt_r k h)
    · exact ltE_irrefl (samE_lt_l h k)
    · omega
theorem lessR_asymm {x y : Ent} {i j : Nat} (h : lessR x i y j = true) : lessR y j x i = false := by
  rw [lessR_false]
  rcases (lessR_iff _ _ _ _).1 h with h | ⟨h, k⟩
  · exact .inl h
  · exact .inr ⟨samE_symm h, by omega⟩
theorem lessR_trans' {x y z : Ent} {i j k : Nat} (h : lessR y j x i = false) (h2 : lessR z k y j = false) : lessR z k x i = false := by
  rw [lessR_false] at *
  rcases h with h | ⟨h, hi⟩
  · rcases h2 with h2 | ⟨h2, _⟩
    · exact .inl (ltE_trans h h2)
    · exact .inl (samE_lt_r (samE_symm h2) h)
  · rcases h2 with h2 | ⟨h2, hj⟩
    · exact .inl (samE_lt_l h h2)
    · exact .inr ⟨samE_trans h2 h, by omega⟩
/-- Which is taken next: its place, it, what is left of its list. -/
def bestO : Nat → List (List Ent) → Option (Nat × Ent × List Ent)
  | _, [] => none
  | i, [] :: r => bestO (i + 1) r
  | i, (e :: t) :: r => match bestO (i + 1) r with
    | none => some (i, e, t)
    | some (j, f, u) => if lessR f j e i = true then some (j, f, u) else some (i, e, t)
def totL (l : List (List Ent)) : Nat := (l.map List.length).sum
def mergeN : Nat → List (List Ent) → List Ent
  | 0, _ => []
  | n + 1, l => match bestO 0 l with
    | none => []
    | some (i, e, t) => e :: mergeN n (l.set i t)
/-- All that is taken. -/
def mergeL (l : List (List Ent)) : List Ent := mergeN (totL l) l
theorem bestO_none {l : List (List Ent)} : ∀ {k : Nat}, bestO k l = none ↔ ∀ x ∈ l, x = [] := by
  induction l with
  | nil => intro k; simp [bestO]
  | cons a l ih =>
    intro k
    cases a with
    | nil => simp [bestO, ih]
    | cons e t =>
      rw [bestO]
      constructor
      · intro h
        split at h
        · cases h
        · split at h <;> cases h
      · intro h
        have := h (e :: t) (by simp)
        cases this
/-- What is taken: nothing that stands next is taken ahead of it. -/
theorem bestO_some {l : List (List Ent)} : ∀ {k i : Nat} {e : Ent} {t : List Ent}, bestO k l = some (i, e, t) ↔ ∃ m, i = k + m ∧ l[m]? = some (e :: t) ∧ ∀ j f u, l[j]? = some (f :: u) → lessR f (k + j) e i = false := by
  induction l with
  | nil => intro k i e t; simp [bestO]
  | cons a l ih =>
    intro k i e t
    cases a with
    | nil =>
      rw [bestO, ih]
      constructor
      · rintro ⟨m, rfl, hm, h⟩
        refine ⟨m + 1, by omega, by simpa using hm, fun j f u hj => ?_⟩
        cases j with
        | zero => simp at hj
        | succ j => have := h j f u (by simpa using hj); rwa [show k + (j + 1) = k + 1 + j by omega]
      · rintro ⟨m, rfl, hm, h⟩
        cases m with
        | zero => simp at hm
        | succ m =>
          refine ⟨m, by omega, by simpa using hm, fun j f u hj => ?_⟩
          have := h (j + 1) f u (by simpa using hj)
          rwa [show k + 1 + j = k + (j + 1) by omega]
    | cons e0 t0 =>
      rw [bestO]
      have hself : ∀ (x : Ent) (n : Nat), lessR x n x n = false := fun x n => by
        cases h : lessR x n x n with
        | false => rfl
        | true => rw [lessR_asymm h] at h; cases h
      cases hb : bestO (k + 1) l with
      | none =>
        have hn := bestO_none.1 hb
        simp only [Option.some.injEq, Prod.mk.injEq]
        constructor
        · rintro ⟨rfl, rfl, rfl⟩
          refine ⟨0, by omega, by simp, fun j f u hj => ?_⟩
          cases j with
          | zero => simp at hj; obtain ⟨rfl, rfl⟩ := hj; exact hself _ _
          | succ j =>
            have := hn _ (List.mem_of_getElem? (by simpa using hj))
            cases this
        · rintro ⟨m, rfl, hm, h⟩
          cases m with
          | zero => simp at hm; exact ⟨by omega, hm.1, hm.2⟩
          | succ m =>
            have := hn _ (List.mem_of_getElem? (by simpa using hm))
            cases this
      | some p =>
        obtain ⟨i1, e1, t1⟩ := p
        obtain ⟨m1, hi1, hm1, h1⟩ := ih.1 hb
        dsimp only
        by_cases hl : lessR e1 i1 e0 k = true
        · rw [if_pos hl]
          simp only [Option.some.injEq, Prod.mk.injEq]
          constructor
          · rintro ⟨rfl, rfl, rfl⟩
            refine ⟨m1 + 1, by omega, by simpa using hm1, fun j f u hj => ?_⟩
            cases j with
            | zero => simp at hj; obtain ⟨rfl, rfl⟩ := hj; exact lessR_asymm hl
            | succ j => have := h1 j f u (by simpa using hj); rwa [show k + (j + 1) = k + 1 + j by omega]
          · rintro ⟨m, rfl, hm, h⟩
            cases m with
            | zero =>
              simp at hm
              obtain ⟨rfl, rfl⟩ := hm
              have := h (m1 + 1) e1 t1 (by simpa using hm1)
              rw [show k + (m1 + 1) = i1 by omega, show k + 0 = k by omega, hl] at this
              cases this
            | succ m =>
              have hx : bestO (k + 1) l = some (k + (m + 1), e, t) := ih.2 ⟨m, by omega, by simpa using hm, fun j f u hj => by
                have := h (j + 1) f u (by simpa using hj)
                rwa [show k + 1 + j = k + (j + 1) by omega]⟩
              rw [hb] at hx
              injection hx with hx
              injection hx with a b
              injection b with b c
              exact ⟨a, b, c⟩
        · rw [if_neg hl]
          simp only [Option.some.injEq, Prod.mk.injEq]
          have hl' : lessR e1 i1 e0 k = false := by simpa using hl
          constructor
          · rintro ⟨rfl, rfl, rfl⟩
            refine ⟨0, by omega, by simp, fun j f u hj => ?_⟩
            cases j with
            | zero => simp at hj; obtain ⟨rfl, rfl⟩ := hj; exact hself _ _
            | succ j =>
              have := h1 j f u (by simpa using hj)
              rw [show k + (j + 1) = k + 1 + j by omega]
              exact lessR_trans' hl' this
          · rintro ⟨m, rfl, hm, h⟩
            cases m with
            | zero => simp at hm; exact ⟨by omega, hm.1, hm.2⟩
            | succ m =>
              have hx : bestO (k + 1) l = some (k + (m + 1), e, t) := ih.2 ⟨m, by omega, by simpa using hm, fun j f u hj => by
                have := h (j + 1) f u (by simpa using hj)
                rwa [show k + 1 + j = k + (j + 1) by omega]⟩
              rw [hb] at hx
              injection hx with hx
              injection hx with a b
              injection b with b c
              subst a; subst b; subst c
              have h2 := h 0 e0 t0 (by simp)
              rw [show k + 0 = k by omega] at h2
              rw [lessR_false] at hl' h2
              rcases hl' with p | ⟨p, q⟩ <;> rcases h2 with p2 | ⟨p2, q2⟩
              · exact absurd p2 (fun h => ltE_asymm p h)
              · exact (ltE_irrefl (samE_lt_l p2 p)).elim
              · exact (ltE_irrefl (samE_lt_l p p2)).elim
              · omega
theorem totL_set {l : List (List Ent)} {i : Nat} {e : Ent} {t : List Ent} (h : l[i]? = some (e :: t)) : totL l = totL (l.set i t) + 1 := by
  induction l generalizing i with
  | nil => simp at h
  | cons a l ih =>
    cases i with
    | zero => simp at h; subst h; simp [totL]; omega
    | succ i =>
      have := ih (i := i) (by simpa using h)
      simp only [totL, List.set_cons_succ, List.map_cons, List.sum_cons] at this ⊢
      omega
theorem mergeL_step {l : List (List Ent)} {i : Nat} {e : Ent} {t : List Ent} (h : bestO 0 l = some (i, e, t)) : mergeL l = e :: mergeL (l.set i t) := by
  obtain ⟨m, hm, hl, _⟩ := bestO_some.1 h
  have e0 : i = m := by omega
  subst e0
  unfold mergeL
  rw [totL_set hl, mergeN, h]
theorem mergeL_end {l : List (List Ent)} (h : ∀ x ∈ l, x = []) : mergeL l = [] := by
  unfold mergeL
  cases totL l with
  | zero => rfl
  | succ n => rw [mergeN, bestO_none.2 h]
theorem totL_zero {l : List (List Ent)} : totL l = 0 ↔ ∀ x ∈ l, x = [] := by
  induction l with
  | nil => simp [totL]
  | cons a l ih =>
    have e : totL (a :: l) = a.length + totL l := by simp [totL]
    rw [e, List.forall_mem_cons, ← ih]
    cases a <;> simp
theorem mergeL_length (l : List (List Ent)) : (mergeL l).length = totL l := by
  obtain ⟨n, hn⟩ : ∃ n, totL l = n := ⟨_, rfl⟩
  induction n generalizing l with
  | zero => rw [mergeL_end (totL_zero.1 hn), hn]; rfl
  | succ n ih =>
    cases hb : bestO 0 l with
    | none => have := totL_zero.2 (bestO_none.1 hb); omega
    | some p =>
      obtain ⟨i, e, t⟩ := p
      obtain ⟨m, hm, hl, _⟩ := bestO_some.1 hb
      have e0 : i = m := by omega
      subst e0
      have h1 := totL_set hl
      rw [mergeL_step hb, List.length_cons, ih _ (by omega), hn]
      omega
theorem set_perm {l : List (List Ent)} {i : Nat} {e : Ent} {t : List Ent} (hl : l[i]? = some (e :: t)) : (e :: (l.set i t).flatten).Perm l.flatten := by
  induction l generalizing i with
  | nil => simp at hl
  | cons a l ih =>
    cases i with
    | zero => simp at hl; subst hl; simp
    | succ i =>
      have := ih (i := i) (by simpa using hl)
      rw [List.set_cons_succ, List.flatten_cons, List.flatten_cons]
      exact (List.perm_middle.symm).trans (this.append_left a)
/-- All of all lists, as often as they stand there. -/
theorem mergeL_perm (l : List (List Ent)) : (mergeL l).Perm l.flatten := by
  obtain ⟨n, hn⟩ : ∃ n, totL l = n := ⟨_, rfl⟩
  induction n generalizing l with
  | zero =>
    have h := totL_zero.1 hn
    rw [mergeL_end h, List.flatten_eq_nil_iff.2 h]
  | succ n ih =>
    cases hb : bestO 0 l with
    | none => have := totL_zero.2 (bestO_none.1 hb); omega
    | some p =>
      obtain ⟨i, e, t⟩ := p
      obtain ⟨m, hm, hl, _⟩ := bestO_some.1 hb
      have e0 : i = m := by omega
      subst e0
      have h1 := totL_set hl
      rw [mergeL_step hb]
      exact ((ih _ (by omega)).cons e).trans (set_perm hl)
end Go.Proofs.Ytdpijhpjicbecaa.H
