/- Plain laws: put in from the other end it is the same list; the towers are the draws'. No conditions. -/
import Derived.Test.YtjbbobhjomhnmaaSkF
namespace Go.Proofs.Ytjbbobhjomhnmaa.H
open Go Go.RowKit Go.Deep Go.Shelf Go.Proofs Go.Proofs.YtjbbobhjomhnmaaW.PrintWords
set_option linter.unusedVariables false
set_option linter.unusedSimpArgs false
/-- L is what r has become, put in one by one. -/
structure Laid (draws : List Int) (r : List Ent) (L : List EH) : Prop where
  perm : (allE L).Perm r
  order : L.Pairwise (fun x y => ltE x.1 y.1)
  high : ∀ x ∈ L, ∃ i, r[i]? = some x.1 ∧ x.2 = hgt draws i
theorem Laid.len {draws : List Int} {r : List Ent} {L : List EH} (h : Laid draws r L) : L.length = r.length := by
  rw [← h.perm.length_eq]
  simp [allE]
theorem Laid.step {draws : List Int} {r : List Ent} {L : List EH} (h : Laid draws r L) {e : Ent} (hn : ¬ hasL L e = true) : Laid draws (r ++ [e]) (insL L (e, hgt draws L.length)) := by
  refine ⟨((allE_perm (insL_perm _ _)).trans (List.Perm.cons _ h.perm)).trans (List.perm_append_comm (l₁ := [e])), insL_sorted h.order hn, fun x hx => ?_⟩
  rcases List.mem_cons.1 ((insL_perm _ _).subset hx) with rfl | hx
  · refine ⟨L.length, ?_, rfl⟩
    rw [h.len, List.getElem?_append_right (Nat.le_refl _)]
    simp
  · obtain ⟨i, h1, h2⟩ := h.high x hx
    exact ⟨i, by rw [List.getElem?_append_left (List.getElem?_eq_some_iff.1 h1).1]; exact h1, h2⟩
theorem made_laid (draws : List Int) (l : List Ent) : Laid draws (madeF draws l).2 (madeF draws l).1 := by
  have : ∀ (l : List Ent) (s : Made), Laid draws s.2 s.1 → Laid draws (l.foldl (madeS draws) s).2 (l.foldl (madeS draws) s).1 := by
    intro l
    induction l with
    | nil => intro s h; exact h
    | cons e l ih =>
      intro s h
      refine ih _ ?_
      unfold madeS
      split
      · exact h
      · rename_i hh
        exact h.step hh
  exact this l ([], []) ⟨by simp [allE], List.Pairwise.nil, by simp⟩
def pushF (draws : List Int) (r : List Ent) : List EH := r.foldl (putS draws) []
theorem pushF_take {draws : List Int} {r : List Ent} {i : Nat} {e : Ent} (h : r[i]? = some e) : pushF draws (r.take (i + 1)) = putS draws (pushF draws (r.take i)) e := by
  unfold pushF
  rw [List.take_add_one, h, List.foldl_append]
  rfl
/-- No two stand at one place. -/
def Unlike (r : List Ent) : Prop := r.Pairwise (fun x y => ¬ samE x y)
theorem Unlike.reverse {r : List Ent} (h : Unlike r) : Unlike r.reverse := by
  unfold Unlike at *
  rw [List.pairwise_reverse]
  exact h.imp (fun hn hs => hn (samE_symm hs))
theorem samE_irrefl_lt {x y : Ent} (h : ltE x y) (hs : samE x y) : False := ltE_irrefl (samE_lt_l hs h)
theorem Laid.unlike {draws : List Int} {r : List Ent} {L : List EH} (h : Laid draws r L) : Unlike r := by
  have h1 : (allE L).Pairwise (fun x y => ¬ samE x y) := (List.pairwise_map.2 h.order).imp (fun hl hs => samE_irrefl_lt hl hs)
  exact h.perm.pairwise h1 (fun hn hs => hn (samE_symm hs))
theorem push_step (draws : List Int) {r : List Ent} (hu : Unlike r) : ∀ i, i ≤ r.length → Laid draws (r.take i) (pushF draws (r.take i)) ∧ ∀ e, r[i]? = some e → hasL (pushF draws (r.take i)) e = false
  | 0, _ => ⟨⟨by simp [pushF, allE], by simp [pushF], by simp [pushF]⟩, fun e _ => by simp [pushF, hasL]⟩
  | i + 1, hi => by
    obtain ⟨h1, h2⟩ := push_step draws hu i (by omega)
    obtain ⟨x, hx⟩ := getElem?_of_lt (l := r) (by omega : i < r.length)
    have e1 : r.take (i + 1) = r.take i ++ [x] := by rw [List.take_add_one, hx]; rfl
    have hL : Laid draws (r.take (i + 1)) (pushF draws (r.take (i + 1))) := by
      have hno : ¬ hasL (pushF draws (r.take i)) x = true := by rw [h2 x hx]; decide
      rw [pushF_take hx]
      unfold putS
      rw [if_neg hno, e1]
      exact h1.step hno
    refine ⟨hL, fun e he => ?_⟩
    cases hh : hasL (pushF draws (r.take (i + 1))) e with
    | false => rfl
    | true =>
      exfalso
      obtain ⟨y, hy, hs⟩ := (hasL_iff _ _).1 hh
      have hy2 := hL.perm.subset hy
      obtain ⟨j, hj⟩ := List.getElem?_of_mem hy2
      have hjlt : j < i + 1 := by
        have := (List.getElem?_eq_some_iff.1 hj).1
        rw [List.length_take] at this
        omega
      rw [List.getElem?_take_of_lt hjlt] at hj
      obtain ⟨h3, h4⟩ := List.getElem?_eq_some_iff.1 hj
      obtain ⟨h5, h6⟩ := List.getElem?_eq_some_iff.1 he
      have := List.pairwise_iff_getElem.1 hu j (i + 1) h3 h5 hjlt
      rw [h4, h6] at this
      exact this hs
theorem push_laid (draws : List Int) {r : List Ent} (hu : Unlike r) : Laid draws r (pushF draws r) := by
  have := (push_step draws hu r.length (Nat.le_refl _)).1
  rwa [List.take_length] at this
/-- In order there is but one. -/
theorem sorted_uniq : ∀ {a b : List Ent}, a.Pairwise ltE → b.Pairwise ltE → a.Perm b → a = b
  | [], b, _, _, h => (List.nil_perm.1 h).symm
  | x :: a, b, ha, hb, h => by
    obtain ⟨h1, h2⟩ := List.pairwise_cons.1 ha
    cases b with
    | nil => exact absurd h (by simp)
    | cons y b =>
      obtain ⟨h3, h4⟩ := List.pairwise_cons.1 hb
      have hxy : x = y := by
        have hx : x ∈ y :: b := h.subset (by simp)
        have hy : y ∈ x :: a := h.symm.subset (by simp)
        rcases List.mem_cons.1 hx with e | hx
        · exact e
        · rcases List.mem_cons.1 hy with e | hy
          · exact e.symm
          · exact absurd (ltE_trans (h3 x hx) (h1 y hy)) (fun hh => ltE_irrefl hh)
      subst hxy
      rw [sorted_uniq h2 h4 (List.perm_cons x |>.1 h)]
theorem Laid.all_eq {d d' : List Int} {r r' : List Ent} {L L' : List EH} (h : Laid d r L) (h' : Laid d' r' L') (hp : r.Perm r') : allE L = allE L' :=
  sorted_uniq (List.pairwise_map.2 h.order) (List.pairwise_map.2 h'.order) ((h.perm.trans hp).trans h'.perm.symm)
theorem Laid.at {d : List Int} {r : List Ent} {L : List EH} (h : Laid d r L) {i j : Nat} {e : Ent} (hi : r[i]? = some e) (hj : (allE L)[j]? = some e) : (allH L)[j]? = some ((hgt d i : Nat) : Int) := by
  unfold allE at hj
  rw [List.getElem?_map] at hj
  cases hx : L[j]? with
  | none => rw [hx] at hj; cases hj
  | some x =>
    rw [hx] at hj
    have hxe : x.1 = e := by simpa using hj
    obtain ⟨i', h1, h2⟩ := h.high x (List.mem_of_getElem? hx)
    have : i' = i := by
      obtain ⟨q1, q2⟩ := List.getElem?_eq_some_iff.1 h1
      obtain ⟨q3, q4⟩ := List.getElem?_eq_some_iff.1 hi
      have hu := h.unlike
      rcases Nat.lt_trichotomy i' i with hlt | heq | hgt
      · exfalso
        have := List.pairwise_iff_getElem.1 hu i' i q1 q3 hlt
        rw [q2, q4, hxe] at this
        exact this ⟨rfl, rfl⟩
      · exact heq
      · exfalso
        have := List.pairwise_iff_getElem.1 hu i i' q3 q1 hgt
        rw [q2, q4, hxe] at this
        exact this ⟨rfl, rfl⟩
    subst this
    unfold allH
    rw [List.getElem?_map, hx, ← h2]
    rfl
theorem rev_at {r : List Ent} {i : Nat} {e : Ent} (h : r[i]? = some e) : r.reverse[r.length - 1 - i]? = some e := by
  have hlt := (List.getElem?_eq_some_iff.1 h).1
  rw [List.getElem?_reverse (by omega), ← h]
  congr 1
  omega
end Go.Proofs.Ytjbbobhjomhnmaa.H
