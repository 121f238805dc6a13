/- skip.List: one round of Put's loop, plain; rows of blocks. No conditions. -/
import Derived.Test.YtjbbobhjomhnmaaSk3
namespace Go.Proofs.Ytjbbobhjomhnmaa.H
open Go.RowKit Go.Deep Go.Shelf Go.Proofs Go.Proofs.YtjbbobhjomhnmaaW.PrintWords
set_option linter.unusedVariables false
set_option linter.unusedSimpArgs false
theorem set_other {w : World} {p q : Addr} {v : Value} (h : p ≠ q) : (w.setCell p v).cell? q = w.cell? q := World.cell?_setCell_other (h := h) ..
theorem set_same {w : World} {p : Addr} {v u : Value} (h : w.cell? p = some u) : (w.setCell p v).cell? p = some v := World.cell?_setCell_same (h := h) ..
theorem prv_skip {h : Nat} {c : List Nd} (hc : ∃ z ∈ c, h < z.high) : ∀ a : List Nd, prv h (a ++ c) = prv h c
  | [] => rfl
  | z :: a => by
    rw [List.cons_append, prv_cons (by obtain ⟨y, h1, h2⟩ := hc; exact ⟨y, List.mem_append_right _ h1, h2⟩)]
    exact prv_skip hc a
theorem prv_mem {h : Nat} {l : List Nd} {x : Nd} (hp : prv h l = some x) : x ∈ l := by
  obtain ⟨_, a, c, h2, _⟩ := prv_split hp
  rw [h2]; simp
/-- Blocks that lie apart. -/
structure Apart (g : Nat) (pre : List Nd) (x : Nd) (post : List Nd) : Prop where
  xg : x.b ≠ g
  pg : ∀ y ∈ pre, y.b ≠ g
  qg : ∀ y ∈ post, y.b ≠ g
  px : ∀ y ∈ pre, y.b ≠ x.b
  qx : ∀ y ∈ post, y.b ≠ x.b
  pq : ∀ y ∈ pre, ∀ z ∈ post, y.b ≠ z.b
  pp : (pre.map (·.b)).Nodup
theorem Apart.of {g : Nat} {pre post : List Nd} {x : Nd} (h : (g :: (pre ++ post).map (·.b)).Nodup) (hx : ∀ y ∈ pre ++ post, y.b ≠ x.b) (hg : x.b ≠ g) : Apart g pre x post := by
  rw [List.nodup_cons, List.map_append, List.nodup_append] at h
  obtain ⟨h1, h2, h3, h4⟩ := h
  have m1 : ∀ y ∈ pre, y.b ∈ pre.map (·.b) := fun y hy => List.mem_map_of_mem hy
  have m2 : ∀ y ∈ post, y.b ∈ post.map (·.b) := fun y hy => List.mem_map_of_mem hy
  exact ⟨hg, fun y hy e => h1 (by rw [← e]; exact List.mem_append_left _ (m1 y hy)), fun y hy e => h1 (by rw [← e]; exact List.mem_append_right _ (m2 y hy)),
    fun y hy => hx y (List.mem_append_left _ hy), fun y hy => hx y (List.mem_append_right _ hy), fun y hy z hz => h4 _ (m1 y hy) _ (m2 z hz), h2⟩
theorem Apart.at {g : Nat} {pre post : List Nd} {x : Nd} (hA : Apart g pre x post) (h : Nat) : atB g (prv h pre) ≠ x.b := by
  cases hp : prv h pre with
  | none => exact hA.xg.symm
  | some p => exact hA.px p (prv_mem hp)
/-- The two stores of a round. -/
def put2 (w : World) (g : Nat) (pre : List Nd) (x : Nd) (post : List Nd) (k : Nat) : World := (w.setCell ⟨x.b, 5 + k, none⟩ (ptrV (nxt k post))).setCell ⟨atB g (prv k pre), 5 + k, none⟩ (.pointer (some ⟨x.b, 0, none⟩))
theorem put2_far {w : World} {g : Nat} {pre post : List Nd} {x : Nd} {k : Nat} {b o : Nat} (h : o ≠ 5 + k ∨ (b ≠ x.b ∧ b ≠ atB g (prv k pre))) : (put2 w g pre x post k).cell? ⟨b, o, none⟩ = w.cell? ⟨b, o, none⟩ := by
  unfold put2
  rw [set_other (by rintro e; injection e with e1 e2; rcases h with h | h; exact h e2.symm; exact h.2 e1.symm), set_other (by rintro e; injection e with e1 e2; rcases h with h | h; exact h e2.symm; exact h.1 e1.symm)]
theorem MidAt.step {w : World} {g : Nat} {pre : List Nd} {x : Nd} {post : List Nd} {k : Nat} (hM : MidAt w g pre x post k) (hk : k < x.high) (hA : Apart g pre x post) {v : Value} (hc : w.cell? ⟨x.b, 5 + k, none⟩ = some v) : MidAt (put2 w g pre x post k) g pre x post (k + 1) := by
  have hk12 : k < 12 := Nat.lt_of_lt_of_le hk hM.new.2.1
  have hpc := hM.cell (Nat.le_refl k) hk12
  have hne := hA.at k
  have C2 : (put2 w g pre x post k).cell? ⟨x.b, 5 + k, none⟩ = some (ptrV (nxt k post)) := by
    unfold put2
    rw [set_other (by rintro e; injection e with e1 e2; exact hne e1), set_same hc]
  have C3 : (put2 w g pre x post k).cell? ⟨atB g (prv k pre), 5 + k, none⟩ = some (.pointer (some ⟨x.b, 0, none⟩)) := by
    unfold put2
    refine set_same (u := ptrV (nxt k post)) ?_
    rw [set_other (by rintro e; injection e with e1 e2; exact hne e1.symm)]
    exact hpc
  have E : ∀ {y : Nd}, entAt w y → entAt (put2 w g pre x post k) y := fun {y} h => by
    refine ⟨fun i u hu => ?_, ?_⟩
    · have hi : i < 4 := by have := (List.getElem?_eq_some_iff.1 hu).1; simpa [encE] using this
      rw [put2_far (.inl (by omega))]; exact h.1 i u hu
    · rw [put2_far (.inl (by omega))]; exact h.2
  have I : ∀ {h : Nat} {a b : Option Nd}, h ≠ k → (if h < k then a else b) = (if h < k + 1 then a else b) := fun {h a b} e => by
    by_cases h1 : h < k
    · rw [if_pos h1, if_pos (by omega)]
    · rw [if_neg h1, if_neg (by omega)]
  refine ⟨fun h hh => ?_, fun a y c hl => ?_, ⟨E hM.new.1, hM.new.2.1, hM.new.2.2.1, fun h hh => ?_⟩, fun a y c hl => ?_⟩
  · by_cases e : h = k
    · subst e
      rw [if_pos (by omega)]
      cases hp : prv h pre with
      | none =>
        have hlow : ∀ y ∈ pre, ¬ h < y.high := by
          intro y hy hh
          unfold prv at hp
          rw [List.getLast?_eq_none_iff, List.filter_eq_nil_iff] at hp
          exact hp y hy (by simpa using hh)
        rw [nxt_hit hlow hk]
        rw [hp] at C3
        exact C3
      | some p =>
        rw [put2_far (.inr ⟨hA.xg.symm, by rw [hp]; exact (hA.pg p (prv_mem hp)).symm⟩), hM.head h hh, if_neg (by omega), nxt_same ⟨p, prv_mem hp, (prv_split hp).1⟩]
    · rw [put2_far (.inl (by omega)), hM.head h hh, I e]
  · obtain ⟨q1, q2, q3, q4⟩ := hM.pres a y c hl
    refine ⟨E q1, q2, q3, fun h hh => ?_⟩
    by_cases e : h = k
    · subst e
      rw [if_pos (by omega)]
      by_cases hc2 : ∃ z ∈ c, h < z.high
      · have hp : prv h pre = prv h c := by
          rw [hl, show a ++ y :: c = (a ++ [y]) ++ c by simp]
          exact prv_skip hc2 _
        have hyp : y.b ≠ atB g (prv h pre) := by
          rw [hp]
          cases hpc2 : prv h c with
          | none => exact hA.pg y (by rw [hl]; simp)
          | some p =>
            have hm := prv_mem hpc2
            have := hA.pp
            rw [hl, List.map_append, List.nodup_append] at this
            obtain ⟨_, h5, _⟩ := this
            rw [List.map_cons, List.nodup_cons] at h5
            intro e2
            exact h5.1 (by rw [e2]; exact List.mem_map_of_mem (f := (·.b)) hm)
        rw [put2_far (.inr ⟨hA.px y (by rw [hl]; simp), hyp⟩), q4 h hh, if_neg (by omega), nxt_same hc2]
      · have hlow : ∀ z ∈ c, ¬ h < z.high := fun z hz hh2 => hc2 ⟨z, hz, hh2⟩
        have hp : prv h pre = some y := by rw [hl]; exact prv_last hh hlow
        rw [hp] at C3
        rw [nxt_hit hlow hk]
        exact C3
    · rw [put2_far (.inl (by omega)), q4 h hh, I e]
  · by_cases e : h = k
    · subst e; exact C2
    · rw [put2_far (.inl (by omega))]; exact hM.new.2.2.2 h (by omega)
  · obtain ⟨q1, q2, q3, q4⟩ := hM.posts a y c hl
    have hy : y ∈ post := by rw [hl]; simp
    refine ⟨E q1, q2, q3, fun h hh => ?_⟩
    rw [put2_far (.inr ⟨hA.qx y hy, ?_⟩)]
    · exact q4 h hh
    · cases hp : prv k pre with
      | none => exact hA.qg y hy
      | some p => exact (hA.pq p (prv_mem hp) y hy).symm
/-- A block's row. -/
def NRow (w : World) (b : Nat) : Prop := ∃ cs, w.heap[b]? = some (.cells cs 119 (0, 0))
theorem NRow.set {w : World} {b : Nat} (h : NRow w b) (p : Addr) (v : Value) (hp : p.spot = none) : NRow (w.setCell p v) b := by
  obtain ⟨cs, hc⟩ := h
  obtain ⟨pb, po, ps⟩ := p
  subst hp
  by_cases e : b = pb
  · subst e
    exact ⟨_, blk_set hc po v⟩
  · exact ⟨cs, blk_far hc e v⟩
/-- The list's struct: its draws and its length. -/
def LRow (w : World) (g : Nat) (d n : Value) : Prop := ∃ cs, w.heap[g]? = some (.cells cs 121 (0, 0)) ∧ cs[17]? = some d ∧ cs[18]? = some n
theorem LRow.set {w : World} {g : Nat} {d n : Value} (h : LRow w g d n) (b o : Nat) (v : Value) (ho : o < 17) : LRow (w.setCell ⟨b, o, none⟩ v) g d n := by
  obtain ⟨cs, hc, h1, h2⟩ := h
  by_cases e : g = b
  · subst e
    refine ⟨_, blk_set hc o v, ?_, ?_⟩ <;> rw [Array.getElem?_setIfInBounds_ne (by omega)] <;> assumption
  · exact ⟨cs, blk_far hc e v, h1, h2⟩
theorem put2_NRow {w : World} {g : Nat} {pre post : List Nd} {x : Nd} {k b : Nat} (h : NRow w b) : NRow (put2 w g pre x post k) b := (h.set _ _ rfl).set _ _ rfl
theorem put2_LRow {w : World} {g : Nat} {pre post : List Nd} {x : Nd} {k : Nat} {d n : Value} (h : LRow w g d n) (hk : k < 12) : LRow (put2 w g pre x post k) g d n := (h.set _ _ _ (by omega)).set _ _ _ (by omega)
theorem put2_upd {w : World} {g : Nat} {pre post : List Nd} {x : Nd} {k : Nat} {S : Nat → Prop} (hx : S x.b) (hg : S g) (hp : ∀ y ∈ pre, S y.b) : Upd S w (put2 w g pre x post k) := by
  unfold put2
  refine (Upd.setCell w _ _ hx).trans (Upd.setCell _ _ _ ?_)
  cases h : prv k pre with
  | none => exact hg
  | some p => exact hp p (prv_mem h)
theorem put2_cell {w : World} {g : Nat} {pre post : List Nd} {x : Nd} {k : Nat} {p : Addr} {v : Value} (h : w.cell? p = some v) : ∃ v', (put2 w g pre x post k).cell? p = some v' := by
  obtain ⟨v1, h1⟩ := cell?_setCell_some (p := ⟨x.b, 5 + k, none⟩) (x := ptrV (nxt k post)) h
  exact cell?_setCell_some h1
end Go.Proofs.Ytjbbobhjomhnmaa.H
