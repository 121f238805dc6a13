/- merge.Of's iterator: it gives what is merged. Conditions: sizes. -/
import Derived.Test.YtdpijhpjicbecaaGCol
import Derived.Test.YtdpijhpjicbecaaGHp
namespace Go.Proofs.Ytdpijhpjicbecaa.H
open Go Go.RowKit Go.Deep Go.Shelf Go.Proofs Go.Proofs.YtdpijhpjicbecaaW.PrintWords
set_option linter.unusedVariables false
set_option linter.unusedSimpArgs false
attribute [local go_sem] Oper.semAt_some
def encV (v : Value) : List Value := [v]
/-- What merge.Of's iterator holds: the sources' row. -/
structure Held (n₀ : Nat) (U : Nat → Prop) (bl : Nat) (A : Option Addr) (c : Nat) (fs : List Value) (W : World) : Prop where
  sz : n₀ ≤ W.heap.size
  lt : bl < n₀
  un : ¬ U bl
  box : W.heap[bl]? = some (.cells #[.slice A fs.length c] 33 (0, 0))
  row : Sl encV 1 W A fs
  ru : ∀ b o, A = some ⟨b, o, none⟩ → b < n₀ ∧ ¬ U b
theorem Held.upd {n₀ : Nat} {U X : Nat → Prop} {bl c : Nat} {A : Option Addr} {fs : List Value} {W W' : World} (h : Held n₀ U bl A c fs W) (u : Upd X W W') (hX : ∀ k, X k → U k ∨ n₀ ≤ k) : Held n₀ U bl A c fs W' := by
  have hn : ∀ k, k < n₀ → ¬ U k → ¬ X k := fun k h1 h2 h3 => by
    rcases hX k h3 with h | h
    · exact h2 h
    · omega
  exact ⟨Nat.le_trans h.sz u.size, h.lt, h.un, u.heap h.box (hn _ h.lt h.un), h.row.upd u (fun b o e => hn _ (h.ru b o e).1 (h.ru b o e).2), h.ru⟩
theorem held_firm (n₀ : Nat) (U : Nat → Prop) (bl c : Nat) (A : Option Addr) (fs : List Value) : Firm n₀ (Held n₀ U bl A c fs) := fun W W' h u => h.upd u (fun k hk => .inr hk)
/-- The cursors and the heap, all laid since n₁. -/
structure OfSt (n₁ : Nat) (w : World) (C : List CS) (S : Nat → Prop) : Prop where
  cur : CursAt w C
  lowS : ∀ k, S k → n₁ ≤ k ∧ k < w.heap.size
  lowC : ∀ (k : Nat) (s : CS), C[k]? = some s → n₁ ≤ s.b ∧ ¬ S s.b ∧ ∀ b o, s.A = some ⟨b, o, none⟩ → n₁ ≤ b ∧ b < w.heap.size ∧ ¬ S b ∧ ∀ (j : Nat) (s' : CS), C[j]? = some s' → s'.b ≠ b
theorem OfSt.blt {n₁ : Nat} {w : World} {C : List CS} {S : Nat → Prop} (h : OfSt n₁ w C S) {k : Nat} {s : CS} (hk : C[k]? = some s) : s.b < w.heap.size := blk_lt (h.cur k s hk).1
/-- What else is written turns nothing here. -/
theorem OfSt.upd {n₁ : Nat} {w w' : World} {C : List CS} {S X : Nat → Prop} (h : OfSt n₁ w C S) (u : Upd X w w') (hX : ∀ (k : Nat) (s : CS), C[k]? = some s → ¬ X s.b ∧ ∀ b o, s.A = some ⟨b, o, none⟩ → ¬ X b) : OfSt n₁ w' C S :=
  ⟨fun k s hk => (h.cur k s hk).upd u (hX k s hk).1 (hX k s hk).2, fun k hk => ⟨(h.lowS k hk).1, Nat.lt_of_lt_of_le (h.lowS k hk).2 u.size⟩, fun k s hk => ⟨(h.lowC k s hk).1, (h.lowC k s hk).2.1, fun b o e => ⟨((h.lowC k s hk).2.2 b o e).1, Nat.lt_of_lt_of_le ((h.lowC k s hk).2.2 b o e).2.1 u.size, ((h.lowC k s hk).2.2 b o e).2.2⟩⟩⟩
theorem OfSt.updS {n₁ : Nat} {w w' : World} {C : List CS} {S : Nat → Prop} (h : OfSt n₁ w C S) (u : Upd S w w') : OfSt n₁ w' C S := h.upd u (fun k s hk => ⟨(h.lowC k s hk).2.1, fun b o e => ((h.lowC k s hk).2.2 b o e).2.2.1⟩)
theorem OfSt.later {n₁ : Nat} {w w' : World} {C : List CS} {S : Nat → Prop} (h : OfSt n₁ w C S) (hb : Below w.heap.size w w') : OfSt n₁ w' C S := h.upd (Upd.of_below (S := fun _ => False) hb) (fun k s hk => ⟨fun h => h, fun _ _ _ h => h⟩)
/-- The heap's blocks are others now: S', all of them S's or new. -/
theorem OfSt.grow {n₁ : Nat} {w w' : World} {C : List CS} {S S' : Nat → Prop} (h : OfSt n₁ w C S) (u : Upd S w w') (hn : n₁ ≤ w.heap.size) (hS : ∀ k, S' k → (S k ∨ w.heap.size ≤ k) ∧ k < w'.heap.size) : OfSt n₁ w' C S' := by
  have h' := h.updS u
  refine ⟨h'.cur, fun k hk => ⟨?_, (hS k hk).2⟩, fun k s hk => ⟨(h'.lowC k s hk).1, fun hb => ?_, fun b o e => ⟨((h'.lowC k s hk).2.2 b o e).1, ((h'.lowC k s hk).2.2 b o e).2.1, fun hb => ?_, ((h'.lowC k s hk).2.2 b o e).2.2.2⟩⟩⟩
  · rcases (hS k hk).1 with h1 | h1
    · exact (h.lowS k h1).1
    · omega
  · rcases (hS _ hb).1 with h1 | h1
    · exact (h.lowC k s hk).2.1 h1
    · have := h.blt hk; omega
  · rcases (hS _ hb).1 with h1 | h1
    · exact ((h.lowC k s hk).2.2 b o e).2.2.1 h1
    · have := ((h.lowC k s hk).2.2 b o e).2.1; omega
theorem OfSt.stays {n₁ : Nat} {w : World} {C : List CS} {S : Nat → Prop} (h : OfSt n₁ w C S) : Stays S (fun W => CursAt W C) := fun a b ha u k s hk => (ha k s hk).upd u (h.lowC k s hk).2.1 (fun b o e => ((h.lowC k s hk).2.2 b o e).2.2.1)
/-- A cursor more. -/
theorem OfSt.more {n₁ : Nat} {w : World} {C : List CS} {S : Nat → Prop} (h : OfSt n₁ w C S) {s : CS} (hc : CurAt w s.b s.A s.c s.L s.i C.length) (hb : n₁ ≤ s.b) (hS : ¬ S s.b) (hC : ∀ (k : Nat) (s' : CS), C[k]? = some s' → s'.b ≠ s.b ∧ ∀ b o, s'.A = some ⟨b, o, none⟩ → b ≠ s.b)
    (hA : ∀ b o, s.A = some ⟨b, o, none⟩ → n₁ ≤ b ∧ b < w.heap.size ∧ ¬ S b ∧ b ≠ s.b ∧ ∀ (j : Nat) (s' : CS), C[j]? = some s' → s'.b ≠ b) : OfSt n₁ w (C ++ [s]) S := by
  have key : ∀ (k : Nat) (s' : CS), (C ++ [s])[k]? = some s' → C[k]? = some s' ∨ (k = C.length ∧ s' = s) := fun k s' h1 => by
    by_cases hk : k < C.length
    · rw [List.getElem?_append_left hk] at h1
      exact .inl h1
    · rw [List.getElem?_append_right (by omega)] at h1
      have hk2 : k - C.length = 0 := by
        cases hd : k - C.length with
        | zero => rfl
        | succ n => rw [hd] at h1; simp at h1
      rw [hk2] at h1
      simp at h1
      exact .inr ⟨by omega, h1.symm⟩
  refine ⟨fun k s' hk => ?_, h.lowS, fun k s' hk => ?_⟩
  · rcases key k s' hk with hk | ⟨rfl, rfl⟩
    · exact h.cur k s' hk
    · exact hc
  · rcases key k s' hk with hkk | ⟨hk1, hk2⟩
    · refine ⟨(h.lowC k s' hkk).1, (h.lowC k s' hkk).2.1, fun b o e => ⟨((h.lowC k s' hkk).2.2 b o e).1, ((h.lowC k s' hkk).2.2 b o e).2.1, ((h.lowC k s' hkk).2.2 b o e).2.2.1, fun j s2 hj => ?_⟩⟩
      rcases key j s2 hj with hj | ⟨_, hj2⟩
      · exact ((h.lowC k s' hkk).2.2 b o e).2.2.2 j s2 hj
      · exact fun e2 => (hC k s' hkk).2 b o e (by rw [← hj2]; exact e2.symm)
    · subst hk2
      refine ⟨hb, hS, fun b o e => ⟨(hA b o e).1, (hA b o e).2.1, (hA b o e).2.2.1, fun j s2 hj => ?_⟩⟩
      rcases key j s2 hj with hj | ⟨_, hj2⟩
      · exact (hA b o e).2.2.2.2 j s2 hj
      · exact fun e2 => (hA b o e).2.2.2.1 (by rw [← e2, hj2])
/-- One is taken. -/
theorem OfSt.took {n₁ : Nat} {w w' : World} {C : List CS} {S : Nat → Prop} (h : OfSt n₁ w C S) (hn : NoD C) {k : Nat} {s : CS} (hk : C[k]? = some s) {i : Nat} (hc : CurAt w' s.b s.A s.c s.L i k) (u : Upd (fun j => j = s.b) w w') : OfSt n₁ w' (C.set k { s with i := i }) S := by
  have key : ∀ (j : Nat) (a : CS), (C.set k { s with i := i })[j]? = some a → (j = k ∧ a = { s with i := i }) ∨ (j ≠ k ∧ C[j]? = some a) := fun j a ha => by
    by_cases e : k = j
    · subst e
      rw [List.getElem?_set_self (List.getElem?_eq_some_iff.1 hk).1] at ha
      injection ha with ha
      exact .inl ⟨rfl, ha.symm⟩
    · rw [List.getElem?_set_ne e] at ha
      exact .inr ⟨fun h => e h.symm, ha⟩
  have low : ∀ (j : Nat) (a : CS), (C.set k { s with i := i })[j]? = some a → ∃ a', C[j]? = some a' ∧ a'.b = a.b ∧ a'.A = a.A := fun j a ha => by
    rcases key j a ha with ⟨rfl, rfl⟩ | ⟨_, h1⟩
    · exact ⟨s, hk, rfl, rfl⟩
    · exact ⟨a, h1, rfl, rfl⟩
  refine ⟨fun j a ha => ?_, fun j hj => ⟨(h.lowS j hj).1, Nat.lt_of_lt_of_le (h.lowS j hj).2 u.size⟩, fun j a ha => ?_⟩
  · rcases key j a ha with ⟨rfl, rfl⟩ | ⟨hne, h1⟩
    · exact hc
    · exact (h.cur j a h1).upd u (fun e => hne (hn _ _ _ _ h1 hk e)) (fun b o e e2 => ((h.lowC j a h1).2.2 b o e).2.2.2 k s hk e2.symm)
  · obtain ⟨a', h1, e1, e2⟩ := low j a ha
    rw [← e1, ← e2]
    refine ⟨(h.lowC j a' h1).1, (h.lowC j a' h1).2.1, fun b o e => ⟨((h.lowC j a' h1).2.2 b o e).1, Nat.lt_of_lt_of_le ((h.lowC j a' h1).2.2 b o e).2.1 u.size, ((h.lowC j a' h1).2.2 b o e).2.2.1, fun j2 s2 hj2 => ?_⟩⟩
    obtain ⟨a2, h2, f1, f2⟩ := low j2 s2 hj2
    rw [← f1]
    exact ((h.lowC j a' h1).2.2 b o e).2.2.2 j2 a2 h2
theorem totL_le {ls : List (List Ent)} {k : Nat} {l : List Ent} (hl : ls[k]? = some l) : l.length ≤ totL ls := by
  induction ls generalizing k with
  | nil => simp at hl
  | cons a ls ih =>
    have e : totL (a :: ls) = a.length + totL ls := by simp [totL]
    rw [e]
    cases k with
    | zero => simp at hl; subst hl; omega
    | succ k => have := ih (k := k) (by simpa using hl); omega
theorem own_addr {α : Type} {enc : α → List Value} {e : TypeId} {sz : Nat} {w : World} {base : Nat} {A : Option Addr} {n c : Nat} {l : List α} (h : Own enc e sz w base (.slice A n c) l) : ∀ b o, A = some ⟨b, o, none⟩ → base ≤ b ∧ b < w.heap.size := by
  intro b o hA
  subst hA
  rcases h.2 with ⟨hv, _⟩ | ⟨g, cap, cur, hv, _⟩
  · injection hv with h1 _ _; cases h1
  · have hb : (Value.slice (some ⟨b, o, none⟩) n c).ownBlock = some b := by
      injection hv with h1 _ _
      injection h1 with h1
      injection h1 with h1 h2 _
      subst h1; subst h2
      rfl
    exact h.block_lt hb
theorem rests_app (C : List CS) (s : CS) : rests (C ++ [s]) = rests C ++ [s.L.drop s.i] := by simp [rests]
theorem take_app {ls : List (List Ent)} {k : Nat} {l : List Ent} (hl : ls[k]? = some l) : ls.take (k + 1) = ls.take k ++ [l] := take_succ_of hl
theorem own_sl {α : Type} {enc : α → List Value} {e : TypeId} {sz : Nat} {w : World} {base : Nat} {A : Option Addr} {n c : Nat} {l : List α} (h : Own enc e sz w base (.slice A n c) l) (he : ∀ x, (enc x).length = sz) : Sl enc sz w A l := by
  obtain ⟨A', c', e1, _, hs, _⟩ := h.slice he
  injection e1 with e1 _ _
  subst e1
  exact hs
end Go.Proofs.Ytdpijhpjicbecaa.H
