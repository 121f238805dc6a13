/- A slice that is read: its cells, element by element, in a spelling that the walk meets. No conditions. -/
import Derived.Test.YtdeomnbmbhkecaaHRd
import Derived.Deep.Draws
namespace Go.Proofs.Ytdeomnbmbhkecaa.H
open Go.RowKit Go.Deep Go.Proofs.YtdeomnbmbhkecaaW.PrintWords
set_option linter.unusedVariables false
theorem add_at (b o n : Nat) : (⟨b, o, none⟩ : Addr).add n = ⟨b, o + n, none⟩ := by
  unfold Addr.add
  by_cases h : n = 0 <;> simp [h]
/-- The slice at A holds the elements l, each of sz cells 'enc x'. -/
def Sl {α : Type} (enc : α → List Value) (sz : Nat) (w : World) (A : Option Addr) (l : List α) : Prop :=
  l.length ≤ 9223372036854775807 ∧ (l = [] ∨ ∃ b o, A = some ⟨b, o, none⟩ ∧ b < w.heap.size ∧ ∀ i x, l[i]? = some x → ∀ j u, (enc x)[j]? = some u → w.cell? ⟨b, o + i * sz + j, none⟩ = some u)
section
variable {α : Type} {enc : α → List Value} {sz : Nat} {w w' : World} {A : Option Addr} {l : List α}
theorem Sl.of_C {d : Kd α} (henc : ∀ w x c, d.K w x c → c = enc x) (hsz : d.sz = sz) (hpos : ∀ x, 0 < (enc x).length) (h : d.C w A l.length l) : Sl enc sz w A l := by
  obtain ⟨h1, h2, h3⟩ := h
  refine ⟨h2, ?_⟩
  rcases l with _ | ⟨x, l⟩
  · exact .inl rfl
  · obtain ⟨ad, rfl, hc⟩ := h3 (by simp)
    obtain ⟨c, hcl, hk, hcell⟩ := hc 0 x rfl
    have e := henc _ _ _ hk
    subst e
    have h0 := hcell 0 ((enc x)[0]'(hpos x)) (List.getElem?_eq_getElem (hpos x))
    have hspot : ad.spot = none := by
      have := World.cell?_spot h0
      simpa [Addr.add] using this
    obtain ⟨b, o, spot⟩ := ad
    simp only at hspot
    subst hspot
    refine .inr ⟨b, o, rfl, ?_, fun i y hy j u hu => ?_⟩
    · have := World.block_lt_of_cell? w _ h0
      simpa [Addr.add] using this
    · obtain ⟨c', hcl', hk', hcell'⟩ := hc i y hy
      have e' := henc _ _ _ hk'
      subst e'
      have := hcell' j u hu
      rw [hsz, add_at, ← Nat.add_assoc] at this
      exact this
theorem Sl.nil (enc : α → List Value) (sz : Nat) (w : World) (A : Option Addr) : Sl enc sz w A [] := ⟨by simp, .inl rfl⟩
theorem Sl.below {B : Nat} (h : Sl enc sz w A l) (hb : Below B w w') (hB : ∀ b o, A = some ⟨b, o, none⟩ → l ≠ [] → b < B) : Sl enc sz w' A l := by
  refine ⟨h.1, ?_⟩
  rcases h.2 with h0 | ⟨b, o, rfl, hlt, hc⟩
  · exact .inl h0
  · by_cases e : l = []
    · exact .inl e
    · refine .inr ⟨b, o, rfl, Nat.lt_of_lt_of_le hlt hb.size, fun i x hx j u hu => ?_⟩
      rw [hb.cell (by exact hB b o rfl e)]
      exact hc i x hx j u hu
theorem Sl.later (h : Sl enc sz w A l) (hb : Below w.heap.size w w') : Sl enc sz w' A l := by
  refine ⟨h.1, ?_⟩
  rcases h.2 with h0 | ⟨b, o, rfl, hlt, hc⟩
  · exact .inl h0
  · refine .inr ⟨b, o, rfl, Nat.lt_of_lt_of_le hlt hb.size, fun i x hx j u hu => ?_⟩
    rw [hb.cell (by exact hlt)]
    exact hc i x hx j u hu
theorem Sl.at (h : Sl enc sz w A l) {i : Nat} {x : α} (hx : l[i]? = some x) : ∃ b o, A = some ⟨b, o, none⟩ ∧ b < w.heap.size ∧ ∀ j u, (enc x)[j]? = some u → w.cell? ⟨b, o + i * sz + j, none⟩ = some u := by
  rcases h.2 with h0 | ⟨b, o, hA, hlt, hc⟩
  · subst h0; simp at hx
  · exact ⟨b, o, hA, hlt, hc i x hx⟩
theorem getElem?_of_lt {α : Type} {l : List α} {i : Nat} (h : i < l.length) : ∃ x, l[i]? = some x := ⟨l[i], List.getElem?_eq_getElem h⟩
theorem take_succ_of {α : Type} {l : List α} {i : Nat} {x : α} (h : l[i]? = some x) : l.take (i + 1) = l.take i ++ [x] := by
  rw [List.take_add_one, h]; rfl
end
end Go.Proofs.Ytdeomnbmbhkecaa.H
