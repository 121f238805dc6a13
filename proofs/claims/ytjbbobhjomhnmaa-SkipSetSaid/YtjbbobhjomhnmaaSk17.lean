/- Plain laws of made: what is in the list, and in which order. No conditions. -/
import Derived.Test.YtjbbobhjomhnmaaSk16
namespace Go.Proofs.Ytjbbobhjomhnmaa.H
open Go Go.RowKit Go.Deep Go.Shelf Go.Proofs Go.Proofs.YtjbbobhjomhnmaaW.PrintWords
set_option linter.unusedVariables false
set_option linter.unusedSimpArgs false
def samB (x : Ent) (y : Ent) : Bool := decide (y.1.toList = x.1.toList) && decide (y.2.1 = x.2.1)
theorem samB_iff (x y : Ent) : samB x y = true ↔ samE y x := by
  unfold samB samE
  simp
theorem insL_perm (L : List EH) (x : EH) : (insL L x).Perm (x :: L) := by
  unfold insL
  refine List.perm_middle.trans (List.Perm.cons _ ?_)
  exact List.filter_append_perm _ _
theorem allE_perm {L M : List EH} (h : L.Perm M) : (allE L).Perm (allE M) := h.map _
theorem hasL_iff (L : List EH) (e : Ent) : hasL L e = true ↔ ∃ y ∈ allE L, samE y e := by
  unfold hasL allE
  simp only [List.any_eq_true, decide_eq_true_eq, List.mem_map]
  exact ⟨fun ⟨x, hx, h⟩ => ⟨x.1, ⟨x, hx, rfl⟩, (eqE_iff _ _).1 h⟩, fun ⟨y, ⟨x, hx, e⟩, h⟩ => ⟨x, hx, by subst e; exact (eqE_iff _ _).2 h⟩⟩
theorem insL_sorted {L : List EH} {e : Ent} {h : Nat} (hs : L.Pairwise (fun x y => ltE x.1 y.1)) (hn : ¬ hasL L e = true) : (insL L (e, h)).Pairwise (fun x y => ltE x.1 y.1) := by
  unfold insL
  have hgt : ∀ y ∈ L, ¬ ltE y.1 e → ltE e y.1 := fun y hy hlt => by
    rcases E_tri y.1 e with h1 | h1 | h1
    · exact absurd h1 hlt
    · exact absurd ((hasL_iff L e).2 ⟨y.1, List.mem_map_of_mem (f := (·.1)) hy, h1⟩) hn
    · exact h1
  refine List.pairwise_append.2 ⟨hs.filter _, List.pairwise_cons.2 ⟨fun y hy => ?_, hs.filter _⟩, fun x hx y hy => ?_⟩
  · obtain ⟨h1, h2⟩ := List.mem_filter.1 hy
    exact hgt y h1 (by simpa using h2)
  · obtain ⟨h1, h2⟩ := List.mem_filter.1 hx
    have h2 : ltE x.1 e := by simpa using h2
    rcases List.mem_cons.1 hy with rfl | hy
    · exact h2
    · obtain ⟨h3, h4⟩ := List.mem_filter.1 hy
      exact ltE_trans h2 (hgt y h3 (by simpa using h4))
/-- What made keeps, entry by entry. -/
structure MadeOk (draws : List Int) (done : List Ent) (s : Made) : Prop where
  perm : (allE s.1).Perm s.2
  order : s.1.Pairwise (fun x y => ltE x.1 y.1)
  some_ : ∀ x ∈ done, ∃ y ∈ s.2, samE y x
  sub : ∀ y ∈ s.2, y ∈ done
theorem MadeOk.step {draws : List Int} {done : List Ent} {s : Made} (h : MadeOk draws done s) (e : Ent) : MadeOk draws (done ++ [e]) (madeS draws s e) := by
  unfold madeS
  split
  · rename_i hh
    refine ⟨h.perm, h.order, fun x hx => ?_, fun y hy => List.mem_append_left _ (h.sub y hy)⟩
    rcases List.mem_append.1 hx with hx | hx
    · exact h.some_ x hx
    · obtain rfl : x = e := by simpa using hx
      obtain ⟨y, hy, hs⟩ := (hasL_iff _ _).1 hh
      exact ⟨y, h.perm.subset hy, hs⟩
  · rename_i hh
    refine ⟨((allE_perm (insL_perm _ _)).trans (List.Perm.cons _ h.perm)).trans (List.perm_append_comm (l₁ := [e])), insL_sorted h.order hh, fun x hx => ?_, fun y hy => ?_⟩
    · rcases List.mem_append.1 hx with hx | hx
      · obtain ⟨y, hy, hs⟩ := h.some_ x hx
        exact ⟨y, List.mem_append_left _ hy, hs⟩
      · obtain rfl : x = e := by simpa using hx
        exact ⟨x, by simp, rfl, rfl⟩
    · rcases List.mem_append.1 hy with hy | hy
      · exact List.mem_append_left _ (h.sub y hy)
      · exact List.mem_append_right _ hy
theorem made_ok (draws : List Int) (l : List Ent) : MadeOk draws l (madeF draws l) := by
  have : ∀ (l done : List Ent) (s : Made), MadeOk draws done s → MadeOk draws (done ++ l) (l.foldl (madeS draws) s) := by
    intro l
    induction l with
    | nil => intro done s h; simpa using h
    | cons e l ih =>
      intro done s h
      have := ih (done ++ [e]) _ (h.step e)
      simpa using this
  exact this l [] ([], []) ⟨by simp [allE], List.Pairwise.nil, by simp, by simp⟩
theorem made_sorted (draws : List Int) (l : List Ent) : (allE (madeF draws l).1).Pairwise ltE := List.pairwise_map.2 (made_ok draws l).order
/-- One alone, of a list of which no two are. -/
theorem count_one {α : Type} (p : α → Bool) {R : α → α → Prop} (hR : ∀ a b, R a b → p a = true → p b = true → False) : ∀ {l : List α}, l.Pairwise R → (∃ a ∈ l, p a = true) → l.countP p = 1
  | [], _, ⟨a, ha, _⟩ => by simp at ha
  | x :: l, hp, ⟨a, ha, hpa⟩ => by
    obtain ⟨h1, h2⟩ := List.pairwise_cons.1 hp
    cases hx : p x with
    | true =>
      have h0 : l.countP p = 0 := List.countP_eq_zero.2 (fun b hb hpb => hR x b (h1 b hb) hx hpb)
      rw [List.countP_cons, hx, h0]
      rfl
    | false =>
      have : ∃ a ∈ l, p a = true := by
        rcases List.mem_cons.1 ha with rfl | ha
        · rw [hx] at hpa; cases hpa
        · exact ⟨a, ha, hpa⟩
      rw [List.countP_cons, hx, count_one p hR h2 this]
      rfl
theorem made_once (draws : List Int) (l : List Ent) {x : Ent} (hx : x ∈ l) : (madeF draws l).2.countP (samB x) = 1 := by
  have h := made_ok draws l
  rw [← h.perm.countP_eq]
  refine count_one (samB x) (R := ltE) (fun a b hab ha hb => ?_) (made_sorted draws l) ?_
  · have h1 := (samB_iff x a).1 ha
    have h2 := (samB_iff x b).1 hb
    exact ltE_irrefl (samE_lt_l (samE_trans h1 (samE_symm h2)) hab)
  · obtain ⟨y, hy, hs⟩ := h.some_ x hx
    exact ⟨y, h.perm.symm.subset hy, (samB_iff x y).2 hs⟩
theorem made_count (draws : List Int) (l : List Ent) {x : Ent} (hx : x ∈ allE (madeF draws l).1) : (madeF draws l).2.countP (fun y => decide (y = x)) = 1 := by
  have h := made_ok draws l
  rw [← h.perm.countP_eq]
  refine count_one _ (R := ltE) (fun a b hab ha hb => ?_) (made_sorted draws l) ⟨x, hx, by simp⟩
  have h1 : a = x := by simpa using ha
  have h2 : b = x := by simpa using hb
  subst h1; subst h2
  exact ltE_irrefl hab
theorem notAhead_all {l : List Ent} (h : ∀ e ∈ l, e.2.1 ≤ 18446744073709551615) : notAhead ⟨#[]⟩ 18446744073709551615 l = l := by
  unfold notAhead
  refine List.filter_eq_self.2 (fun e he => ?_)
  have : ¬ ltE e (⟨#[]⟩, 18446744073709551615, false, ⟨#[]⟩) := fun hlt => by
    rcases (ltE_iff _ _).1 hlt with h1 | ⟨_, h1⟩
    · have e0 : (⟨#[]⟩ : ByteArray).toList = [] := by rw [ByteArray.toList_eq]
      simp only [e0] at h1
      cases e.1.toList <;> simp [Op.bytesLess] at h1
    · have := h e he
      simp only at h1
      omega
  simpa using this
theorem made_all (draws : List Int) (l : List Ent) (h : ∀ e ∈ l, e.2.1 ≤ 18446744073709551615) : notAhead ⟨#[]⟩ 18446744073709551615 (allE (madeF draws l).1) = allE (madeF draws l).1 :=
  notAhead_all (fun e he => h e ((made_ok draws l).sub e ((made_ok draws l).perm.subset he)))
theorem made_lens (draws : List Int) (l : List Ent) : (allE (madeF draws l).1).length = (madeF draws l).2.length ∧ (madeF draws l).1.length = (madeF draws l).2.length ∧ (madeF draws l).2.length ≤ l.length := by
  obtain ⟨h1, h2⟩ := madeF_len draws l l.length
  rw [List.take_length] at h1 h2
  exact ⟨by rw [← h1]; simp [allE], h1, h2⟩
theorem countP_take {α : Type} (p : α → Bool) {l : List α} {j : Nat} {x : α} (h : l[j]? = some x) : (l.take (j + 1)).countP p = (l.take j).countP p + if p x = true then 1 else 0 := by
  rw [List.take_add_one, h, List.countP_append]
  simp [List.countP_cons]
end Go.Proofs.Ytjbbobhjomhnmaa.H
