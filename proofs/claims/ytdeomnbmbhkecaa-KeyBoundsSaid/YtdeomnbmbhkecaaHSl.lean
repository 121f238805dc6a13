/- A slice that is read: its cells, element by element, in a spelling that the walk meets. No conditions. -/
import Derived.Test.YtdeomnbmbhkecaaHRd
import Derived.Deep.Draws
namespace Go.Proofs.Ytdeomnbmbhkecaa.H
open Go.RowKit Go.Deep Go.Proofs.YtdeomnbmbhkecaaW.PrintWords
set_option linter.unusedVariables false
theorem alloc2_new (w : World) (o o' : Obj) : ((w.alloc o).alloc o').heap[w.heap.size + 1]? = some o' := by
  have := heap_alloc_new (w.alloc o) o'
  simpa only [World.size_alloc] using this
theorem add_at (b o n : Nat) : (⟨b, o, none⟩ : Addr).add n = ⟨b, o + n, none⟩ := by
  unfold Addr.add
  by_cases h : n = 0 <;> simp [h]
/-- The slice at A holds the elements l, each of sz cells 'enc x'. -/
def Sl {α : Type} (enc : α → List Value) (sz : Nat) (w : World) (A : Option Addr) (l : List α) : Prop :=
  l.length ≤ 9223372036854775807 ∧ (l = [] ∨ ∃ b o, A = some ⟨b, o, none⟩ ∧ b < w.heap.size ∧ ∀ i x, l[i]? = some x → ∀ j u, (enc x)[j]? = some u → w.cell? ⟨b, o + i * sz + j, none⟩ = some u)
section
variable {α : Type} {enc : α → List Value} {sz : Nat} {w w' : World} {A : Option Addr} {l : List α}
theorem Sl.of_C {d : Kd α} (henc : ∀ w x c, d.K w x c → c = enc x) (hsz : d.sz = sz) (hpos : ∀ x, 0 < (enc x).length) (h : d.C w A l.length l) : Sl enc sz w A l := by
  obtain ⟨h1, h2, h3⟩ := h
  refine ⟨h2, ?_⟩
  rcases l with _ | ⟨x, l⟩
  · exact .inl rfl
  · obtain ⟨ad, rfl, hc⟩ := h3 (by simp)
    obtain ⟨c, hcl, hk, hcell⟩ := hc 0 x rfl
    have e := henc _ _ _ hk
    subst e
    have h0 := hcell 0 ((enc x)[0]'(hpos x)) (List.getElem?_eq_getElem (hpos x))
    have hspot : ad.spot = none := by
      have := World.cell?_spot h0
      simpa [Addr.add] using this
    obtain ⟨b, o, spot⟩ := ad
    simp only at hspot
    subst hspot
    refine .inr ⟨b, o, rfl, ?_, fun i y hy j u hu => ?_⟩
    · have := World.block_lt_of_cell? w _ h0
      simpa [Addr.add] using this
    · obtain ⟨c', hcl', hk', hcell'⟩ := hc i y hy
      have e' := henc _ _ _ hk'
      subst e'
      have := hcell' j u hu
      rw [hsz, add_at, ← Nat.add_assoc] at this
      exact this
theorem Sl.nil (enc : α → List Value) (sz : Nat) (w : World) (A : Option Addr) : Sl enc sz w A [] := ⟨by simp, .inl rfl⟩
theorem Sl.below {B : Nat} (h : Sl enc sz w A l) (hb : Below B w w') (hB : ∀ b o, A = some ⟨b, o, none⟩ → l ≠ [] → b < B) : Sl enc sz w' A l := by
  refine ⟨h.1, ?_⟩
  rcases h.2 with h0 | ⟨b, o, rfl, hlt, hc⟩
  · exact .inl h0
  · by_cases e : l = []
    · exact .inl e
    · refine .inr ⟨b, o, rfl, Nat.lt_of_lt_of_le hlt hb.size, fun i x hx j u hu => ?_⟩
      rw [hb.cell (by exact hB b o rfl e)]
      exact hc i x hx j u hu
theorem Sl.later (h : Sl enc sz w A l) (hb : Below w.heap.size w w') : Sl enc sz w' A l := by
  refine ⟨h.1, ?_⟩
  rcases h.2 with h0 | ⟨b, o, rfl, hlt, hc⟩
  · exact .inl h0
  · refine .inr ⟨b, o, rfl, Nat.lt_of_lt_of_le hlt hb.size, fun i x hx j u hu => ?_⟩
    rw [hb.cell (by exact hlt)]
    exact hc i x hx j u hu
theorem Sl.at (h : Sl enc sz w A l) {i : Nat} {x : α} (hx : l[i]? = some x) : ∃ b o, A = some ⟨b, o, none⟩ ∧ b < w.heap.size ∧ ∀ j u, (enc x)[j]? = some u → w.cell? ⟨b, o + i * sz + j, none⟩ = some u := by
  rcases h.2 with h0 | ⟨b, o, hA, hlt, hc⟩
  · subst h0; simp at hx
  · exact ⟨b, o, hA, hlt, hc i x hx⟩
theorem getElem?_of_lt {α : Type} {l : List α} {i : Nat} (h : i < l.length) : ∃ x, l[i]? = some x := ⟨l[i], List.getElem?_eq_getElem h⟩
theorem take_succ_of {α : Type} {l : List α} {i : Nat} {x : α} (h : l[i]? = some x) : l.take (i + 1) = l.take i ++ [x] := by
  rw [List.take_add_one, h]; rfl
end
/-- A row of the call's own that holds the elements l. -/
def Own {α : Type} (enc : α → List Value) (e : TypeId) (sz : Nat) (w : World) (base : Nat) (v : Value) (l : List α) : Prop := w.ownsRow base e sz v l.length (l.flatMap enc)
theorem flat_at {α : Type} {enc : α → List Value} {sz : Nat} (he : ∀ x, (enc x).length = sz) : ∀ (l : List α) (i : Nat) (x : α), l[i]? = some x → ∀ j u, (enc x)[j]? = some u → (l.flatMap enc)[i * sz + j]? = some u
  | [], i, x, h, j, u, hu => by simp at h
  | y :: l, 0, x, h, j, u, hu => by
    simp only [List.getElem?_cons_zero, Option.some.injEq] at h
    subst h
    have hj : j < (enc y).length := (List.getElem?_eq_some_iff.1 hu).1
    simp only [List.flatMap_cons, Nat.zero_mul, Nat.zero_add]
    rw [List.getElem?_append_left hj, hu]
  | y :: l, i + 1, x, h, j, u, hu => by
    simp only [List.getElem?_cons_succ] at h
    have := flat_at he l i x h j u hu
    simp only [List.flatMap_cons]
    rw [List.getElem?_append_right (by rw [he, Nat.succ_mul]; omega), he, ← this]
    congr 1
    rw [Nat.succ_mul]
    omega
theorem Own.slice {α : Type} {enc : α → List Value} {e : TypeId} {sz : Nat} {w : World} {base : Nat} {v : Value} {l : List α} (h : Own enc e sz w base v l) (he : ∀ x, (enc x).length = sz) :
    ∃ A c, v = .slice A l.length c ∧ l.length ≤ c ∧ Sl enc sz w A l ∧ (l ≠ [] → ∃ g, A = some ⟨g, 0, none⟩ ∧ base ≤ g ∧ g < w.heap.size) := by
  obtain ⟨h1, h2⟩ := h
  rcases h2 with ⟨rfl, h0⟩ | ⟨g, cap, cur, rfl, hb, hh, hn, hm, hsz, htk⟩
  · have : l = [] := List.eq_nil_of_length_eq_zero h0
    subst this
    exact ⟨none, 0, rfl, Nat.le_refl _, Sl.nil _ _ _ _, fun h => absurd rfl h⟩
  · have hlt : g < w.heap.size := by
      rcases Nat.lt_or_ge g w.heap.size with hlt | hge
      · exact hlt
      · rw [Array.getElem?_eq_none hge] at hh; cases hh
    refine ⟨_, cap, rfl, hn, ⟨by unfold maxLen at hm; omega, .inr ⟨g, 0, rfl, hlt, fun i x hx j u hu => ?_⟩⟩, fun _ => ⟨g, rfl, hb, hlt⟩⟩
    have hf := flat_at he l i x hx j u hu
    have hc : w.cell? ⟨g, i * sz + j, none⟩ = cur[i * sz + j]? := cell_of_row _ _ _ _ _ _ hh
    rw [Nat.zero_add, hc, ← Array.getElem?_toList, ← hf, ← htk, List.getElem?_take_of_lt]
    have := (List.getElem?_eq_some_iff.1 hf).1
    omega
theorem Own.below {α : Type} {enc : α → List Value} {e : TypeId} {sz : Nat} {w w' : World} {base : Nat} {v : Value} {l : List α} (h : Own enc e sz w base v l) (hb : Below w.heap.size w w') : Own enc e sz w' base v l :=
  own_move h (fun k hk => hb.block k (own_lt h k hk))
theorem Own.weaken {α : Type} {enc : α → List Value} {e : TypeId} {sz : Nat} {w : World} {base base' : Nat} {v : Value} {l : List α} (h : Own enc e sz w base v l) (hb : base' ≤ base) : Own enc e sz w base' v l := own_weaken h hb
theorem Sl.of_block {α : Type} {enc : α → List Value} {sz : Nat} {w : World} {l : List α} (he : ∀ x, (enc x).length = sz) {g : Nat} {cs : Array Value} {t : TypeId} {fr : Nat × Nat} (hh : w.heap[g]? = some (.cells cs t fr)) (hc : cs.toList = l.flatMap enc) (hm : l.length ≤ 9223372036854775807) :
    Sl enc sz w (some ⟨g, 0, none⟩) l := by
  have hlt : g < w.heap.size := by
    rcases Nat.lt_or_ge g w.heap.size with hlt | hge
    · exact hlt
    · rw [Array.getElem?_eq_none hge] at hh; cases hh
  refine ⟨hm, .inr ⟨g, 0, rfl, hlt, fun i x hx j u hu => ?_⟩⟩
  have hf := flat_at he l i x hx j u hu
  have hc' : w.cell? ⟨g, i * sz + j, none⟩ = cs[i * sz + j]? := cell_of_row _ _ _ _ _ _ hh
  rw [Nat.zero_add, hc', ← Array.getElem?_toList, hc, hf]
end Go.Proofs.Ytdeomnbmbhkecaa.H
