/- Plain laws of Seek and From against all entries. No conditions. -/
import Derived.Test.YtjbbobhjomhnmaaSkF
namespace Go.Proofs.Ytjbbobhjomhnmaa.H
open Go Go.RowKit Go.Deep Go.Shelf Go.Proofs Go.Proofs.YtjbbobhjomhnmaaW.PrintWords
set_option linter.unusedVariables false
set_option linter.unusedSimpArgs false
abbrev atE (k : ByteArray) (q : Int) : Ent := (k, q, false, ⟨#[]⟩)
def fits (k : ByteArray) (q : Int) (e : Ent) : Bool := decide (e.1.toList = k.toList) && decide (e.2.1 ≤ q)
def bestS (k : ByteArray) (q : Int) (s : Ent × Bool) (e : Ent) : Ent × Bool := if (fits k q e && (!s.2 || decide (s.1.2.1 < e.2.1))) = true then (e, true) else s
def bestF (k : ByteArray) (q : Int) (l : List Ent) : Ent × Bool := l.foldl (bestS k q) (zeroE, false)
theorem bestF_take {k : ByteArray} {q : Int} {l : List Ent} {i : Nat} {e : Ent} (h : l[i]? = some e) : bestF k q (l.take (i + 1)) = bestS k q (bestF k q (l.take i)) e := by
  unfold bestF
  rw [List.take_add_one, h, List.foldl_append]
  rfl
structure BestOk (k : ByteArray) (q : Int) (done : List Ent) (s : Ent × Bool) : Prop where
  no : s.2 = false → s.1 = zeroE ∧ ∀ y ∈ done, fits k q y = false
  yes : s.2 = true → s.1 ∈ done ∧ fits k q s.1 = true ∧ ∀ y ∈ done, fits k q y = true → y.2.1 ≤ s.1.2.1
theorem BestOk.step {k : ByteArray} {q : Int} {done : List Ent} {s : Ent × Bool} (h : BestOk k q done s) (e : Ent) : BestOk k q (done ++ [e]) (bestS k q s e) := by
  unfold bestS
  obtain ⟨b, f⟩ := s
  cases hf : fits k q e with
  | false =>
    simp only [Bool.false_and, Bool.false_eq_true, if_false]
    refine ⟨fun h0 => ⟨(h.no h0).1, fun y hy => ?_⟩, fun h0 => ⟨List.mem_append_left _ (h.yes h0).1, (h.yes h0).2.1, fun y hy hy2 => ?_⟩⟩
    · rcases List.mem_append.1 hy with hy | hy
      · exact (h.no h0).2 y hy
      · obtain rfl : y = e := by simpa using hy
        exact hf
    · rcases List.mem_append.1 hy with hy | hy
      · exact (h.yes h0).2.2 y hy hy2
      · obtain rfl : y = e := by simpa using hy
        rw [hf] at hy2; cases hy2
  | true =>
    cases f with
    | false =>
      simp only [Bool.true_and, Bool.not_false, Bool.true_or, if_true]
      refine ⟨(fun h0 => by cases h0), fun _ => ⟨by simp, hf, fun y hy hy2 => ?_⟩⟩
      rcases List.mem_append.1 hy with hy | hy
      · rw [(h.no rfl).2 y hy] at hy2; cases hy2
      · obtain rfl : y = e := by simpa using hy
        exact Int.le_refl _
    | true =>
      by_cases hlt : b.2.1 < e.2.1
      · simp only [Bool.true_and, Bool.not_true, Bool.false_or, decide_eq_true hlt, if_true]
        refine ⟨(fun h0 => by cases h0), fun _ => ⟨by simp, hf, fun y hy hy2 => ?_⟩⟩
        rcases List.mem_append.1 hy with hy | hy
        · have := (h.yes rfl).2.2 y hy hy2
          simp only at this ⊢
          omega
        · obtain rfl : y = e := by simpa using hy
          exact Int.le_refl _
      · simp only [Bool.true_and, Bool.not_true, Bool.false_or, decide_eq_false hlt, Bool.false_eq_true, if_false]
        refine ⟨(fun h0 => by cases h0), fun _ => ⟨List.mem_append_left _ (h.yes rfl).1, (h.yes rfl).2.1, fun y hy hy2 => ?_⟩⟩
        rcases List.mem_append.1 hy with hy | hy
        · exact (h.yes rfl).2.2 y hy hy2
        · obtain rfl : y = e := by simpa using hy
          simp only
          omega
theorem best_ok (k : ByteArray) (q : Int) (l : List Ent) : BestOk k q l (bestF k q l) := by
  have : ∀ (l done : List Ent) (s : Ent × Bool), BestOk k q done s → BestOk k q (done ++ l) (l.foldl (bestS k q) s) := by
    intro l
    induction l with
    | nil => intro done s h; simpa using h
    | cons e l ih =>
      intro done s h
      have := ih (done ++ [e]) _ (h.step e)
      simpa using this
  exact this l [] (zeroE, false) ⟨fun _ => ⟨rfl, by simp⟩, fun h => by cases h⟩
theorem fits_not {k : ByteArray} {q : Int} {e : Ent} (h : fits k q e = true) : ¬ ltE e (atE k q) := by
  unfold fits at h
  simp only [Bool.and_eq_true, decide_eq_true_eq] at h
  intro hlt
  rcases (ltE_iff _ _).1 hlt with h1 | ⟨_, h1⟩
  · simp only [h.1] at h1
    rw [less_irrefl] at h1
    cases h1
  · simp only at h1
    omega
/-- What isn't ahead of the place stands at its key at or below the number, or behind the key. -/
theorem not_fits {k : ByteArray} {q : Int} {e : Ent} (h : ¬ ltE e (atE k q)) (hk : e.1.toList = k.toList) : fits k q e = true := by
  unfold fits
  simp only [Bool.and_eq_true, decide_eq_true_eq]
  refine ⟨hk, ?_⟩
  rcases Int.lt_or_le q e.2.1 with h1 | h1
  · exact absurd ((ltE_iff _ _).2 (.inr ⟨hk, h1⟩)) h
  · exact h1
theorem count_notAhead {k : ByteArray} {q : Int} {l m : List Ent} (h : l.Perm m) : m.countP (fun e => !decide (ltE e (atE k q))) = (notAhead k q l).length := by
  rw [← h.countP_eq, List.countP_eq_length_filter]
  rfl
theorem notAhead_sorted {k : ByteArray} {q : Int} {l : List Ent} (h : l.Pairwise ltE) : (notAhead k q l).Pairwise ltE := h.filter _
theorem notAhead_mem {k : ByteArray} {q : Int} {l : List Ent} {e : Ent} (h : e ∈ notAhead k q l) : e ∈ l ∧ ¬ ltE e (atE k q) := by
  obtain ⟨h1, h2⟩ := List.mem_filter.1 h
  exact ⟨h1, by simpa using h2⟩
/-- Seek's answer is the newest of the key at or below the number. -/
theorem best_seek {k : ByteArray} {q : Int} {l m : List Ent} (hp : l.Perm m) (hs : l.Pairwise ltE) :
    ((bestF k q m).2 = true ↔ ∃ x t, notAhead k q l = x :: t ∧ x.1.toList = k.toList) ∧ ((bestF k q m).2 = true → ∃ t, notAhead k q l = (bestF k q m).1 :: t) := by
  have hb := best_ok k q m
  have hsr := notAhead_sorted (k := k) (q := q) hs
  have key : (bestF k q m).2 = true → ∃ t, notAhead k q l = (bestF k q m).1 :: t := fun h => by
    obtain ⟨h1, h2, h3⟩ := hb.yes h
    have hm : (bestF k q m).1 ∈ notAhead k q l := List.mem_filter.2 ⟨hp.symm.subset h1, by simpa using fits_not h2⟩
    cases hn : notAhead k q l with
    | nil => rw [hn] at hm; cases hm
    | cons x t =>
      rw [hn] at hm hsr
      rcases List.mem_cons.1 hm with e | hm
      · rw [e]; exact ⟨t, rfl⟩
      · exfalso
        have hlt := (List.pairwise_cons.1 hsr).1 _ hm
        obtain ⟨hxl, hxn⟩ := notAhead_mem (k := k) (q := q) (l := l) (e := x) (by rw [hn]; simp)
        have hbk : (bestF k q m).1.1.toList = k.toList := by
          unfold fits at h2
          simp only [Bool.and_eq_true, decide_eq_true_eq] at h2
          exact h2.1
        have hxk : x.1.toList = k.toList := by
          rcases (ltE_iff _ _).1 hlt with h4 | ⟨h4, _⟩
          · exfalso
            apply hxn
            refine (ltE_iff _ _).2 (.inl ?_)
            simp only
            rw [← hbk]
            exact h4
          · rw [h4, hbk]
        have hxf := not_fits hxn hxk
        have hle := h3 x (hp.subset hxl) hxf
        rcases (ltE_iff _ _).1 hlt with h4 | ⟨_, h4⟩
        · rw [hxk, hbk, less_irrefl] at h4
          cases h4
        · omega
  refine ⟨⟨fun h => ?_, fun ⟨x, t, h, hk⟩ => ?_⟩, key⟩
  · obtain ⟨t, ht⟩ := key h
    obtain ⟨_, h2, _⟩ := hb.yes h
    unfold fits at h2
    simp only [Bool.and_eq_true, decide_eq_true_eq] at h2
    exact ⟨_, t, ht, h2.1⟩
  · cases hf : (bestF k q m).2 with
    | true => rfl
    | false =>
      exfalso
      obtain ⟨hxl, hxn⟩ := notAhead_mem (k := k) (q := q) (l := l) (e := x) (by rw [h]; simp)
      have := (hb.no hf).2 x (hp.subset hxl)
      rw [not_fits hxn hk] at this
      cases this
end Go.Proofs.Ytjbbobhjomhnmaa.H
