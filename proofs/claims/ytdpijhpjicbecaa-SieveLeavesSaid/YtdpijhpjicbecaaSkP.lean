/- Skip lists as plain lists of nodes: what the node behind one is, at each height; what putting one in changes. No conditions. -/
import Derived.Test.YtdpijhpjicbecaaKCmp
namespace Go.Proofs.Ytdpijhpjicbecaa.H
open Go.RowKit Go.Deep Go.Proofs.YtdpijhpjicbecaaW.PrintWords
set_option linter.unusedVariables false
set_option linter.unusedSimpArgs false
/-- An entry: key, number, gone, value. -/
abbrev Ent := ByteArray × Int × Bool × ByteArray
def encE (y : Ent) : List Value := [.string y.1, .int .u64 y.2.1, .bool y.2.2.1, .string y.2.2.2]
def cmpEE (x y : Ent) : Int := cmpE x.1.toList y.1.toList x.2.1 y.2.1
/-- x stands ahead of y. -/
def ltE (x y : Ent) : Prop := cmpEE x y < 0
instance (x y : Ent) : Decidable (ltE x y) := inferInstanceAs (Decidable (cmpEE x y < 0))
structure Nd where
  b : Nat
  e : Ent
  high : Nat
/-- The first of l that is higher than h. -/
def nxt (h : Nat) (l : List Nd) : Option Nd := l.find? (fun x => decide (h < x.high))
/-- The last of l that is higher than h. -/
def prv (h : Nat) (l : List Nd) : Option Nd := (l.filter (fun x => decide (h < x.high))).getLast?
theorem nxt_none {h : Nat} {l : List Nd} (hn : ∀ x ∈ l, ¬ h < x.high) (m : List Nd) : nxt h (l ++ m) = nxt h m := by
  unfold nxt
  rw [List.find?_append]
  have : l.find? (fun x => decide (h < x.high)) = none := List.find?_eq_none.2 (fun x hx => by simpa using hn x hx)
  rw [this]
  rfl
theorem nxt_some {h : Nat} {l : List Nd} {x : Nd} (hn : nxt h l = some x) (m : List Nd) : nxt h (l ++ m) = some x := by
  unfold nxt at *
  rw [List.find?_append, hn]
  rfl
theorem nxt_split {h : Nat} {l : List Nd} {x : Nd} (hn : nxt h l = some x) : h < x.high ∧ ∃ a c, l = a ++ x :: c ∧ ∀ y ∈ a, ¬ h < y.high := by
  unfold nxt at hn
  obtain ⟨h1, a, c, h2, h3⟩ := List.find?_eq_some_iff_append.1 hn
  exact ⟨by simpa using h1, a, c, h2, fun y hy => by simpa using h3 y hy⟩
theorem prv_none {h : Nat} {l : List Nd} (hn : ∀ x ∈ l, ¬ h < x.high) : prv h l = none := by
  unfold prv
  rw [List.filter_eq_nil_iff.2 (fun x hx => by simpa using hn x hx)]
  rfl
theorem prv_last {h : Nat} {a c : List Nd} {x : Nd} (hx : h < x.high) (hc : ∀ y ∈ c, ¬ h < y.high) : prv h (a ++ x :: c) = some x := by
  unfold prv
  have e : c.filter (fun x => decide (h < x.high)) = [] := List.filter_eq_nil_iff.2 (fun y hy => by simpa using hc y hy)
  rw [List.filter_append, List.filter_cons_of_pos (by simpa using hx), e]
  simp
theorem prv_cons {h : Nat} {z : Nd} {l : List Nd} (hq : ∃ y ∈ l, h < y.high) : prv h (z :: l) = prv h l := by
  obtain ⟨y, hy, hy2⟩ := hq
  have hm : y ∈ l.filter (fun x => decide (h < x.high)) := List.mem_filter.2 ⟨hy, by simpa using hy2⟩
  unfold prv
  rw [List.filter_cons]
  split
  · cases hf : l.filter (fun x => decide (h < x.high)) with
    | nil => rw [hf] at hm; cases hm
    | cons u t => rw [List.getLast?_cons_cons]
  · rfl
theorem prv_split {h : Nat} {l : List Nd} {x : Nd} (hp : prv h l = some x) : h < x.high ∧ ∃ a c, l = a ++ x :: c ∧ ∀ y ∈ c, ¬ h < y.high := by
  induction l with
  | nil => simp [prv] at hp
  | cons z l ih =>
    by_cases hq : ∃ y ∈ l, h < y.high
    · have e : prv h (z :: l) = prv h l := prv_cons hq
      rw [e] at hp
      obtain ⟨h1, a, c, h2, h3⟩ := ih hp
      exact ⟨h1, z :: a, c, by rw [h2]; rfl, h3⟩
    · have hq' : ∀ y ∈ l, ¬ h < y.high := fun y hy h2 => hq ⟨y, hy, h2⟩
      by_cases hz : h < z.high
      · have := prv_last (a := []) hz hq'
        rw [List.nil_append] at this
        rw [this] at hp
        injection hp with hp
        subst hp
        exact ⟨hz, [], l, rfl, hq'⟩
      · have := prv_none (h := h) (l := z :: l) (fun y hy => by rcases List.mem_cons.1 hy with rfl | hy; exact hz; exact hq' y hy)
        rw [this] at hp
        cases hp
end Go.Proofs.Ytdpijhpjicbecaa.H
