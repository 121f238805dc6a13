/- The law KeyTotal: Compare is an order. No conditions but bounds. -/
import Derived.Test.YtdeomnbmbhkecaaHKey9
namespace Go.Proofs.Ytdeomnbmbhkecaa.H
open Go.RowKit Go.Deep Go.Proofs.YtdeomnbmbhkecaaW.PrintWords
set_option linter.unusedVariables false
set_option linter.unusedSimpArgs false
theorem cmpN_cases (a b : Int) : (a < b ∧ cmpN a b = -1) ∨ (a = b ∧ cmpN a b = 0) ∨ (b < a ∧ cmpN a b = 1) := by
  unfold cmpN
  by_cases h1 : a < b
  · exact .inl ⟨h1, by rw [if_pos h1]⟩
  · by_cases h2 : b < a
    · exact .inr (.inr ⟨h2, by rw [if_neg h1, if_pos h2]⟩)
    · exact .inr (.inl ⟨by omega, by rw [if_neg h1, if_neg h2]⟩)
theorem less_trans : ∀ a b c : List UInt8, Op.bytesLess a b = true → Op.bytesLess b c = true → Op.bytesLess a c = true
  | [], [], _, h, _ => by simp [Op.bytesLess] at h
  | [], _ :: _, [], _, k => by simp [Op.bytesLess] at k
  | [], _ :: _, _ :: _, _, _ => by simp [Op.bytesLess]
  | _ :: _, [], _, h, _ => by simp [Op.bytesLess] at h
  | _ :: _, _ :: _, [], _, k => by simp [Op.bytesLess] at k
  | a :: x, b :: y, c :: z, h, k => by
    simp only [Op.bytesLess, Bool.or_eq_true, Bool.and_eq_true, decide_eq_true_eq, beq_iff_eq] at h k ⊢
    rcases h with h | ⟨rfl, h⟩
    · rcases k with k | ⟨rfl, k⟩
      · exact .inl (by rw [UInt8.lt_iff_toNat_lt] at *; omega)
      · exact .inl h
    · rcases k with k | ⟨rfl, k⟩
      · exact .inl k
      · exact .inr ⟨rfl, less_trans x y z h k⟩
/-- a is ahead of b. -/
def ahd (a b : List UInt8) (m n : Int) : Prop := Op.bytesLess a b = true ∨ (a = b ∧ n < m)
theorem cmpE_cases (a b : List UInt8) (m n : Int) : (ahd a b m n ∧ cmpE a b m n = -1) ∨ ((a = b ∧ m = n) ∧ cmpE a b m n = 0) ∨ (ahd b a n m ∧ cmpE a b m n = 1) := by
  cases h1 : Op.bytesLess a b with
  | true => exact .inl ⟨.inl h1, cmpE_lt m n h1⟩
  | false =>
    cases h2 : Op.bytesLess b a with
    | true => exact .inr (.inr ⟨.inl h2, cmpE_gt m n h1 h2⟩)
    | false =>
      have e := less_total a b h1 h2
      rw [cmpE_eq m n h1 h2]
      rcases cmpN_cases n m with ⟨h, k⟩ | ⟨h, k⟩ | ⟨h, k⟩
      · exact .inl ⟨.inr ⟨e, h⟩, k⟩
      · exact .inr (.inl ⟨⟨e, h.symm⟩, k⟩)
      · exact .inr (.inr ⟨.inr ⟨e.symm, h⟩, k⟩)
theorem ahd_trans {a b c : List UInt8} {m n p : Int} (h : ahd a b m n) (k : ahd b c n p) : ahd a c m p := by
  rcases h with h | ⟨rfl, h⟩
  · rcases k with k | ⟨rfl, k⟩
    · exact .inl (less_trans a b c h k)
    · exact .inl h
  · rcases k with k | ⟨rfl, k⟩
    · exact .inl k
    · exact .inr ⟨rfl, by omega⟩
theorem ahd_irrefl {a : List UInt8} {m : Int} (h : ahd a a m m) : False := by
  rcases h with h | ⟨_, h⟩
  · rw [less_irrefl] at h; cases h
  · omega
theorem cmpE_flip (a b : List UInt8) (m n : Int) : cmpE b a n m = -cmpE a b m n := by
  rcases cmpE_cases a b m n with ⟨h, k⟩ | ⟨h, k⟩ | ⟨h, k⟩ <;> rcases cmpE_cases b a n m with ⟨h', k'⟩ | ⟨h', k'⟩ | ⟨h', k'⟩ <;> rw [k, k'] <;> first | rfl | exact absurd (ahd_trans h h') ahd_irrefl | exact absurd (ahd_trans h' h) ahd_irrefl | skip
  · obtain ⟨rfl, rfl⟩ := h'; exact absurd h ahd_irrefl
  · obtain ⟨rfl, rfl⟩ := h; exact absurd h' ahd_irrefl
  · obtain ⟨rfl, rfl⟩ := h; exact absurd h' ahd_irrefl
  · obtain ⟨rfl, rfl⟩ := h'; exact absurd h ahd_irrefl
/-- What the three answers can be. -/
theorem cmpE_three (a b c : List UInt8) (m n p : Int) : ∃ x y z, cmpE a b m n = x ∧ cmpE b c n p = y ∧ cmpE a c m p = z ∧
    ((x = -1 ∧ y = -1 ∧ z = -1) ∨ (x = -1 ∧ y = 0 ∧ z = -1) ∨ (x = -1 ∧ y = 1 ∧ (z = -1 ∨ z = 0 ∨ z = 1)) ∨ (x = 0 ∧ (y = -1 ∨ y = 0 ∨ y = 1) ∧ z = y) ∨ (x = 1 ∧ y = 1 ∧ z = 1) ∨ (x = 1 ∧ y = 0 ∧ z = 1) ∨ (x = 1 ∧ y = -1 ∧ (z = -1 ∨ z = 0 ∨ z = 1))) := by
  refine ⟨_, _, _, rfl, rfl, rfl, ?_⟩
  rcases cmpE_cases a b m n with ⟨h, k⟩ | ⟨⟨rfl, rfl⟩, k⟩ | ⟨h, k⟩
  · rcases cmpE_cases b c n p with ⟨h', k'⟩ | ⟨⟨rfl, rfl⟩, k'⟩ | ⟨h', k'⟩
    · rcases cmpE_cases a c m p with ⟨h2, k2⟩ | ⟨⟨rfl, rfl⟩, k2⟩ | ⟨h2, k2⟩
      · omega
      · exact absurd (ahd_trans h h') ahd_irrefl
      · exact absurd (ahd_trans (ahd_trans h h') h2) ahd_irrefl
    · omega
    · rcases cmpE_cases a c m p with ⟨h2, k2⟩ | ⟨h2, k2⟩ | ⟨h2, k2⟩ <;> omega
  · rcases cmpE_cases a c m p with ⟨h2, k2⟩ | ⟨h2, k2⟩ | ⟨h2, k2⟩ <;> omega
  · rcases cmpE_cases b c n p with ⟨h', k'⟩ | ⟨⟨rfl, rfl⟩, k'⟩ | ⟨h', k'⟩
    · rcases cmpE_cases a c m p with ⟨h2, k2⟩ | ⟨h2, k2⟩ | ⟨h2, k2⟩ <;> omega
    · omega
    · rcases cmpE_cases a c m p with ⟨h2, k2⟩ | ⟨⟨rfl, rfl⟩, k2⟩ | ⟨h2, k2⟩
      · exact absurd (ahd_trans h2 (ahd_trans h' h)) ahd_irrefl
      · exact absurd (ahd_trans h' h) ahd_irrefl
      · omega
end Go.Proofs.Ytdeomnbmbhkecaa.H
