/- skip.List: what Put's loop does to the nodes, height by height. No conditions. -/
import Derived.Test.YtjbbobhjomhnmaaSk2
namespace Go.Proofs.Ytjbbobhjomhnmaa.H
open Go.RowKit Go.Deep Go.Shelf Go.Proofs Go.Proofs.YtjbbobhjomhnmaaW.PrintWords
set_option linter.unusedVariables false
set_option linter.unusedSimpArgs false
def entAt (w : World) (x : Nd) : Prop := (∀ i v, (encE x.e)[i]? = some v → w.cell? ⟨x.b, i, none⟩ = some v) ∧ w.cell? ⟨x.b, 4, none⟩ = some (.int .i64 x.high)
/-- x is put in between pre and post at the heights below k. -/
structure MidAt (w : World) (g : Nat) (pre : List Nd) (x : Nd) (post : List Nd) (k : Nat) : Prop where
  head : ∀ h, h < 12 → w.cell? ⟨g, 5 + h, none⟩ = some (ptrV (if h < k then nxt h (pre ++ x :: post) else nxt h (pre ++ post)))
  pres : ∀ a y c, pre = a ++ y :: c → entAt w y ∧ y.high ≤ 12 ∧ 1 ≤ y.high ∧ ∀ h, h < y.high → w.cell? ⟨y.b, 5 + h, none⟩ = some (ptrV (if h < k then nxt h (c ++ x :: post) else nxt h (c ++ post)))
  new : entAt w x ∧ x.high ≤ 12 ∧ 1 ≤ x.high ∧ ∀ h, h < k → w.cell? ⟨x.b, 5 + h, none⟩ = some (ptrV (nxt h post))
  posts : ∀ a y c, post = a ++ y :: c → entAt w y ∧ y.high ≤ 12 ∧ 1 ≤ y.high ∧ ∀ h, h < y.high → w.cell? ⟨y.b, 5 + h, none⟩ = some (ptrV (nxt h c))
/-- The cell that Put's loop reads at height h. -/
theorem MidAt.cell {w : World} {g : Nat} {pre : List Nd} {x : Nd} {post : List Nd} {k h : Nat} (hM : MidAt w g pre x post k) (hk : k ≤ h) (h12 : h < 12) : w.cell? ⟨atB g (prv h pre), 5 + h, none⟩ = some (ptrV (nxt h post)) := by
  cases hp : prv h pre with
  | none =>
    have hlow : ∀ y ∈ pre, ¬ h < y.high := by
      intro y hy hh
      unfold prv at hp
      rw [List.getLast?_eq_none_iff, List.filter_eq_nil_iff] at hp
      exact hp y hy (by simpa using hh)
    have := hM.head h h12
    rw [if_neg (by omega), nxt_none hlow] at this
    exact this
  | some p =>
    obtain ⟨h1, a, c, h2, h3⟩ := prv_split hp
    have := (hM.pres a p c h2).2.2.2 h h1
    rw [if_neg (by omega), nxt_none h3] at this
    exact this
theorem MidAt.start {w : World} {g : Nat} {pre : List Nd} {x : Nd} {post : List Nd} (hN : NodesAt w g (pre ++ post)) (hx : entAt w x) (h1 : x.high ≤ 12) (h2 : 1 ≤ x.high) : MidAt w g pre x post 0 := by
  refine ⟨fun h hh => by rw [if_neg (by omega)]; exact hN.head h hh, fun a y c hl => ?_, ⟨hx, h1, h2, fun h hh => by omega⟩, fun a y c hl => ?_⟩
  · obtain ⟨q1, q2, q3, q4, q5⟩ := hN.node a y (c ++ post) (by rw [hl]; simp)
    exact ⟨⟨q1, q2⟩, q3, q4, fun h hh => by rw [if_neg (by omega)]; exact q5 h hh⟩
  · obtain ⟨q1, q2, q3, q4, q5⟩ := hN.node (pre ++ a) y c (by rw [hl]; simp)
    exact ⟨⟨q1, q2⟩, q3, q4, q5⟩
theorem nxt_skip {h : Nat} {c : List Nd} {x : Nd} {post : List Nd} (hx : ¬ h < x.high) : nxt h (c ++ x :: post) = nxt h (c ++ post) := by
  unfold nxt
  rw [List.find?_append, List.find?_append, List.find?_cons_of_neg (by simpa using hx)]
theorem nxt_hit {h : Nat} {c : List Nd} {x : Nd} {post : List Nd} (hc : ∀ y ∈ c, ¬ h < y.high) (hx : h < x.high) : nxt h (c ++ x :: post) = some x := by
  rw [nxt_none hc]
  unfold nxt
  rw [List.find?_cons_of_pos (by simpa using hx)]
theorem nxt_same {h : Nat} {c : List Nd} {x : Nd} {post : List Nd} (hc : ∃ y ∈ c, h < y.high) : nxt h (c ++ x :: post) = nxt h (c ++ post) := by
  cases hq : nxt h c with
  | none =>
    obtain ⟨y, hy, hh⟩ := hc
    have := List.find?_eq_none.1 hq y hy
    simp at this
    omega
  | some u => rw [nxt_some hq, nxt_some hq]
theorem MidAt.finish {w : World} {g : Nat} {pre : List Nd} {x : Nd} {post : List Nd} (hM : MidAt w g pre x post x.high) : NodesAt w g (pre ++ x :: post) := by
  refine ⟨fun h hh => ?_, fun a y c hl => ?_⟩
  · have := hM.head h hh
    by_cases hx : h < x.high
    · rwa [if_pos hx] at this
    · rwa [if_neg hx, ← nxt_skip (x := x) hx] at this
  · rcases List.append_eq_append_iff.1 hl with ⟨a', h1, h2⟩ | ⟨c', h1, h2⟩
    · -- y lies at x or behind
      cases a' with
      | nil =>
        simp only [List.nil_append, List.cons.injEq] at h2
        obtain ⟨rfl, rfl⟩ := h2
        exact ⟨hM.new.1.1, hM.new.1.2, hM.new.2.1, hM.new.2.2.1, hM.new.2.2.2⟩
      | cons z a' =>
        simp only [List.cons_append, List.cons.injEq] at h2
        obtain ⟨q1, q2, q3, q4⟩ := hM.posts a' y c h2.2
        exact ⟨q1.1, q1.2, q2, q3, q4⟩
    · cases c' with
      | nil =>
        simp only [List.nil_append, List.cons.injEq] at h2
        obtain ⟨rfl, rfl⟩ := h2
        exact ⟨hM.new.1.1, hM.new.1.2, hM.new.2.1, hM.new.2.2.1, hM.new.2.2.2⟩
      | cons z c' =>
        simp only [List.cons_append, List.cons.injEq] at h2
        obtain ⟨rfl, rfl⟩ := h2
        obtain ⟨q1, q2, q3, q4⟩ := hM.pres a y c' h1
        refine ⟨q1.1, q1.2, q2, q3, fun h hh => ?_⟩
        have := q4 h hh
        by_cases hx : h < x.high
        · rwa [if_pos hx] at this
        · rwa [if_neg hx, ← nxt_skip (x := x) hx] at this
end Go.Proofs.Ytjbbobhjomhnmaa.H
