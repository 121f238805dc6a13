/- Entries' order, plain. No conditions. -/
import Derived.Test.YtdpijhpjicbecaaSkP
namespace Go.Proofs.Ytdpijhpjicbecaa.H
open Go.RowKit Go.Deep Go.Proofs.YtdpijhpjicbecaaW.PrintWords
set_option linter.unusedVariables false
set_option linter.unusedSimpArgs false
theorem cmpE_lt {a b : List UInt8} (m n : Int) (h : Op.bytesLess a b = true) : cmpE a b m n = -1 := by simp [cmpE, cmpS, or2, h]
theorem cmpE_gt {a b : List UInt8} (m n : Int) (h : Op.bytesLess a b = false) (h2 : Op.bytesLess b a = true) : cmpE a b m n = 1 := by simp [cmpE, cmpS, or2, h, h2]
theorem cmpE_eq {a b : List UInt8} (m n : Int) (h : Op.bytesLess a b = false) (h2 : Op.bytesLess b a = false) : cmpE a b m n = cmpN n m := by simp [cmpE, cmpS, or2, h, h2]
theorem cmpE_self (a : List UInt8) (m : Int) : cmpE a a m m = 0 := by rw [cmpE_eq m m (less_irrefl a) (less_irrefl a)]; simp [cmpN]
theorem cmpN_cases (a b : Int) : (a < b ∧ cmpN a b = -1) ∨ (a = b ∧ cmpN a b = 0) ∨ (b < a ∧ cmpN a b = 1) := by
  unfold cmpN
  by_cases h1 : a < b
  · exact .inl ⟨h1, by rw [if_pos h1]⟩
  · by_cases h2 : b < a
    · exact .inr (.inr ⟨h2, by rw [if_neg h1, if_pos h2]⟩)
    · exact .inr (.inl ⟨by omega, by rw [if_neg h1, if_neg h2]⟩)
theorem less_trans : ∀ a b c : List UInt8, Op.bytesLess a b = true → Op.bytesLess b c = true → Op.bytesLess a c = true
  | [], [], _, h, _ => by simp [Op.bytesLess] at h
  | [], _ :: _, [], _, k => by simp [Op.bytesLess] at k
  | [], _ :: _, _ :: _, _, _ => by simp [Op.bytesLess]
  | _ :: _, [], _, h, _ => by simp [Op.bytesLess] at h
  | _ :: _, _ :: _, [], _, k => by simp [Op.bytesLess] at k
  | a :: x, b :: y, c :: z, h, k => by
    simp only [Op.bytesLess, Bool.or_eq_true, Bool.and_eq_true, decide_eq_true_eq, beq_iff_eq] at h k ⊢
    rcases h with h | ⟨rfl, h⟩
    · rcases k with k | ⟨rfl, k⟩
      · exact .inl (by rw [UInt8.lt_iff_toNat_lt] at *; omega)
      · exact .inl h
    · rcases k with k | ⟨rfl, k⟩
      · exact .inl k
      · exact .inr ⟨rfl, less_trans x y z h k⟩
/-- a is ahead of b. -/
def ahd (a b : List UInt8) (m n : Int) : Prop := Op.bytesLess a b = true ∨ (a = b ∧ n < m)
theorem cmpE_cases (a b : List UInt8) (m n : Int) : (ahd a b m n ∧ cmpE a b m n = -1) ∨ ((a = b ∧ m = n) ∧ cmpE a b m n = 0) ∨ (ahd b a n m ∧ cmpE a b m n = 1) := by
  cases h1 : Op.bytesLess a b with
  | true => exact .inl ⟨.inl h1, cmpE_lt m n h1⟩
  | false =>
    cases h2 : Op.bytesLess b a with
    | true => exact .inr (.inr ⟨.inl h2, cmpE_gt m n h1 h2⟩)
    | false =>
      have e := less_total a b h1 h2
      rw [cmpE_eq m n h1 h2]
      rcases cmpN_cases n m with ⟨h, k⟩ | ⟨h, k⟩ | ⟨h, k⟩
      · exact .inl ⟨.inr ⟨e, h⟩, k⟩
      · exact .inr (.inl ⟨⟨e, h.symm⟩, k⟩)
      · exact .inr (.inr ⟨.inr ⟨e.symm, h⟩, k⟩)
theorem ahd_trans {a b c : List UInt8} {m n p : Int} (h : ahd a b m n) (k : ahd b c n p) : ahd a c m p := by
  rcases h with h | ⟨rfl, h⟩
  · rcases k with k | ⟨rfl, k⟩
    · exact .inl (less_trans a b c h k)
    · exact .inl h
  · rcases k with k | ⟨rfl, k⟩
    · exact .inl k
    · exact .inr ⟨rfl, by omega⟩
theorem ahd_irrefl {a : List UInt8} {m : Int} (h : ahd a a m m) : False := by
  rcases h with h | ⟨_, h⟩
  · rw [less_irrefl] at h; cases h
  · omega
theorem cmpE_flip (a b : List UInt8) (m n : Int) : cmpE b a n m = -cmpE a b m n := by
  rcases cmpE_cases a b m n with ⟨h, k⟩ | ⟨h, k⟩ | ⟨h, k⟩ <;> rcases cmpE_cases b a n m with ⟨h', k'⟩ | ⟨h', k'⟩ | ⟨h', k'⟩ <;> rw [k, k'] <;> first | rfl | exact absurd (ahd_trans h h') ahd_irrefl | exact absurd (ahd_trans h' h) ahd_irrefl | skip
  · obtain ⟨rfl, rfl⟩ := h'; exact absurd h ahd_irrefl
  · obtain ⟨rfl, rfl⟩ := h; exact absurd h' ahd_irrefl
  · obtain ⟨rfl, rfl⟩ := h; exact absurd h' ahd_irrefl
  · obtain ⟨rfl, rfl⟩ := h'; exact absurd h ahd_irrefl
def ahdE (x y : Ent) : Prop := ahd x.1.toList y.1.toList x.2.1 y.2.1
/-- At one place: key and number are alike. -/
def samE (x y : Ent) : Prop := x.1.toList = y.1.toList ∧ x.2.1 = y.2.1
theorem ltE_iff (x y : Ent) : ltE x y ↔ ahdE x y := by
  unfold ltE cmpEE ahdE
  rcases cmpE_cases x.1.toList y.1.toList x.2.1 y.2.1 with ⟨h, k⟩ | ⟨⟨h1, h2⟩, k⟩ | ⟨h, k⟩
  · rw [k]; exact ⟨fun _ => h, fun _ => by omega⟩
  · rw [k]; exact ⟨fun h => by omega, fun h => by rw [h1, h2] at h; exact (ahd_irrefl h).elim⟩
  · rw [k]; exact ⟨fun h => by omega, fun h' => (ahd_irrefl (ahd_trans h h')).elim⟩
theorem eqE_iff (x y : Ent) : cmpEE x y = 0 ↔ samE x y := by
  unfold cmpEE samE
  rcases cmpE_cases x.1.toList y.1.toList x.2.1 y.2.1 with ⟨h, k⟩ | ⟨⟨h1, h2⟩, k⟩ | ⟨h, k⟩
  · rw [k]; exact ⟨fun h => by omega, fun ⟨h1, h2⟩ => by rw [h1, h2] at h; exact (ahd_irrefl h).elim⟩
  · rw [k]; exact ⟨fun _ => ⟨h1, h2⟩, fun _ => rfl⟩
  · rw [k]; exact ⟨fun h => by omega, fun ⟨h1, h2⟩ => by rw [h1, h2] at h; exact (ahd_irrefl h).elim⟩
theorem ltE_trans {x y z : Ent} (h : ltE x y) (k : ltE y z) : ltE x z := (ltE_iff _ _).2 (ahd_trans ((ltE_iff _ _).1 h) ((ltE_iff _ _).1 k))
theorem ltE_irrefl {x : Ent} (h : ltE x x) : False := ahd_irrefl ((ltE_iff _ _).1 h)
theorem ltE_asymm {x y : Ent} (h : ltE x y) (k : ltE y x) : False := ltE_irrefl (ltE_trans h k)
theorem E_tri (x y : Ent) : ltE x y ∨ samE x y ∨ ltE y x := by
  simp only [ltE_iff]
  unfold ahdE samE
  rcases cmpE_cases x.1.toList y.1.toList x.2.1 y.2.1 with ⟨h, k⟩ | ⟨h, k⟩ | ⟨h, k⟩
  · exact .inl h
  · exact .inr (.inl h)
  · exact .inr (.inr h)
theorem samE_lt_l {x y z : Ent} (h : samE x y) (k : ltE x z) : ltE y z := by rw [ltE_iff] at *; unfold ahdE at *; rwa [← h.1, ← h.2]
theorem samE_lt_r {x y z : Ent} (h : samE x y) (k : ltE z x) : ltE z y := by rw [ltE_iff] at *; unfold ahdE at *; rwa [← h.1, ← h.2]
theorem samE_symm {x y : Ent} (h : samE x y) : samE y x := ⟨h.1.symm, h.2.symm⟩
theorem samE_trans {x y z : Ent} (h : samE x y) (k : samE y z) : samE x z := ⟨h.1.trans k.1, h.2.trans k.2⟩
/-- A list in order. -/
def Sorted (l : List Nd) : Prop := l.Pairwise fun x y => ltE x.e y.e
/-- It parts at an entry's place. -/
theorem split_at (l : List Nd) (hl : Sorted l) (e : Ent) : ∃ pre post, l = pre ++ post ∧ (∀ x ∈ pre, ltE x.e e) ∧ ∀ x ∈ post, ¬ ltE x.e e := by
  induction l with
  | nil => exact ⟨[], [], rfl, by simp, by simp⟩
  | cons z l ih =>
    obtain ⟨h1, h2⟩ := List.pairwise_cons.1 hl
    by_cases hz : ltE z.e e
    · obtain ⟨pre, post, rfl, h3, h4⟩ := ih h2
      exact ⟨z :: pre, post, rfl, fun x hx => by rcases List.mem_cons.1 hx with rfl | hx; exact hz; exact h3 x hx, h4⟩
    · refine ⟨[], z :: l, rfl, by simp, fun x hx => ?_⟩
      rcases List.mem_cons.1 hx with rfl | hx
      · exact hz
      · exact fun h => hz (ltE_trans (h1 x hx) h)
theorem post_gt {pre post : List Nd} {e : Ent} (hl : Sorted (pre ++ post)) (h2 : ∀ x ∈ post, ¬ ltE x.e e) (h3 : ∀ y c, post = y :: c → cmpEE y.e e ≠ 0) : ∀ x ∈ post, ltE e x.e := by
  cases post with
  | nil => simp
  | cons y c =>
    have hy : ltE e y.e := by
      rcases E_tri y.e e with h | h | h
      · exact absurd h (h2 y (by simp))
      · exact absurd ((eqE_iff _ _).2 h) (h3 y c rfl)
      · exact h
    have hs := (List.pairwise_append.1 hl).2.1
    intro x hx
    rcases List.mem_cons.1 hx with rfl | hx
    · exact hy
    · exact ltE_trans hy ((List.pairwise_cons.1 hs).1 x hx)
theorem ins_sorted {pre post : List Nd} {x : Nd} (hl : Sorted (pre ++ post)) (h1 : ∀ y ∈ pre, ltE y.e x.e) (h2 : ∀ y ∈ post, ltE x.e y.e) : Sorted (pre ++ x :: post) := by
  obtain ⟨q1, q2, q3⟩ := List.pairwise_append.1 hl
  refine List.pairwise_append.2 ⟨q1, List.pairwise_cons.2 ⟨h2, q2⟩, fun a ha b hb => ?_⟩
  rcases List.mem_cons.1 hb with rfl | hb
  · exact h1 a ha
  · exact q3 a ha b hb
end Go.Proofs.Ytdpijhpjicbecaa.H
