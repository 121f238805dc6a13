/- Saturating sums and products, plain: what the tests of pace.num tell. No conditions but ranges. -/
import Derived.Laws.BitsAllLaws
import Derived.IntWalk
import Derived.WalkKit
namespace Go.Proofs.Ytjgpcbednhoplaa.H
set_option linter.unusedVariables false
def I64 (x : Int) : Prop := -9223372036854775808 ≤ x ∧ x ≤ 9223372036854775807
def hi : Int := 9223372036854775807
def lo : Int := -9223372036854775808
def sat (x : Int) : Int := if x > 9223372036854775807 then 9223372036854775807 else if x < -9223372036854775808 then -9223372036854775808 else x
def sadd (a b : Int) : Int := sat (a + b)
def smul (a b : Int) : Int := sat (a * b)
theorem sat_in {x : Int} (h : I64 x) : sat x = x := by unfold I64 at h; unfold sat; rw [if_neg (by omega), if_neg (by omega)]
theorem sat_I64 (x : Int) : I64 (sat x) := by unfold I64 sat; split <;> (try split) <;> omega
theorem sadd_I64 (a b : Int) : I64 (sadd a b) := sat_I64 _
theorem smul_I64 (a b : Int) : I64 (smul a b) := sat_I64 _
theorem wrap_sign (B : BitVec 64) : (IntKind.i64.wrap (B.toNat : Int) < 0) ↔ B.msb = true := by
  rw [IntKind.wrap_i64, BitVec.msb_eq_decide]
  have := B.isLt
  simp only [decide_eq_true_eq]
  omega
theorem wrap_I64 (n : Int) : I64 (IntKind.i64.wrap n) := by rw [IntKind.wrap_i64]; unfold I64; omega
theorem ofInt_msb {x : Int} (hx : I64 x) : (BitVec.ofInt 64 x).msb = decide (x < 0) := by
  unfold I64 at hx
  rw [BitVec.msb_eq_decide, BitVec.toNat_ofInt]
  have e : ((2 ^ 64 : Nat) : Int) = 18446744073709551616 := rfl
  have e2 : (2 : Nat) ^ (64 - 1) = 9223372036854775808 := rfl
  rw [e, e2]
  apply decide_eq_decide.2
  omega
theorem xor_sign {x y : Int} (hx : I64 x) (hy : I64 y) : (bits .xor .i64 x y < 0) ↔ ¬ ((x < 0) ↔ (y < 0)) := by
  show IntKind.i64.wrap ((BitVec.ofInt 64 x ^^^ BitVec.ofInt 64 y).toNat : Int) < 0 ↔ _
  rw [wrap_sign, BitVec.msb_xor, ofInt_msb hx, ofInt_msb hy]
  by_cases h1 : x < 0 <;> by_cases h2 : y < 0 <;> simp [h1, h2]
theorem and_sign {x y : Int} (hx : I64 x) (hy : I64 y) : (bits .and .i64 x y < 0) ↔ (x < 0 ∧ y < 0) := by
  show IntKind.i64.wrap ((BitVec.ofInt 64 x &&& BitVec.ofInt 64 y).toNat : Int) < 0 ↔ _
  rw [wrap_sign, BitVec.msb_and, ofInt_msb hx, ofInt_msb hy]
  by_cases h1 : x < 0 <;> by_cases h2 : y < 0 <;> simp [h1, h2]
theorem xor_I64 (x y : Int) : I64 (bits .xor .i64 x y) := wrap_I64 _
/-- The test of num.add. -/
theorem add_test {a b : Int} (ha : I64 a) (hb : I64 b) : (0 ≤ bits .and .i64 (bits .xor .i64 a (IntKind.i64.wrap (a + b))) (bits .xor .i64 b (IntKind.i64.wrap (a + b)))) ↔ I64 (a + b) := by
  have h := and_sign (xor_I64 a (IntKind.i64.wrap (a + b))) (xor_I64 b (IntKind.i64.wrap (a + b)))
  rw [xor_sign ha (wrap_I64 _), xor_sign hb (wrap_I64 _)] at h
  have hw := IntKind.wrap_i64 (a + b)
  generalize bits .and .i64 (bits .xor .i64 a (IntKind.i64.wrap (a + b))) (bits .xor .i64 b (IntKind.i64.wrap (a + b))) = z at h ⊢
  generalize IntKind.i64.wrap (a + b) = c at h hw
  unfold I64 at *
  constructor
  · intro hz
    have h' : ¬ (z < 0) := by omega
    rw [h] at h'
    omega
  · intro hz
    have : ¬ (z < 0) := by
      rw [h]
      omega
    omega
theorem sadd_over {a b : Int} (ha : I64 a) (hb : I64 b) (h : ¬ I64 (a + b)) : (0 < a → sadd a b = 9223372036854775807) ∧ (a ≤ 0 → sadd a b = -9223372036854775808) := by
  unfold I64 at *
  unfold sadd sat
  constructor
  · intro h0; rw [if_pos (by omega)]
  · intro h0; rw [if_neg (by omega), if_pos (by omega)]
theorem tmod_bd (c b : Int) (hb : b ≠ 0) : (0 < b → -b < c.tmod b ∧ c.tmod b < b) ∧ (b < 0 → b < c.tmod b ∧ c.tmod b < -b) := by
  constructor
  · intro h
    exact ⟨Int.lt_tmod_of_pos c h, Int.tmod_lt_of_pos c h⟩
  · intro h
    have h1 := Int.lt_tmod_of_pos c (b := -b) (by omega)
    have h2 := Int.tmod_lt_of_pos c (b := -b) (by omega)
    rw [Int.tmod_neg] at h1 h2
    omega
/-- The test of num.mul. -/
theorem mul_test {a b : Int} (ha : I64 a) (hb : I64 b) (b0 : b ≠ 0) :
    (IntKind.i64.wrap ((IntKind.i64.wrap (a * b)).tdiv b) = a ∧ ¬ (a = -1 ∧ b = -9223372036854775808) ∧ ¬ (b = -1 ∧ a = -9223372036854775808)) ↔ I64 (a * b) := by
  have hq := Int.mul_tdiv_add_tmod (IntKind.i64.wrap (a * b)) b
  have ht := tmod_bd (IntKind.i64.wrap (a * b)) b b0
  have hc := wrap_I64 (a * b)
  have hm : b * a = a * b := Int.mul_comm b a
  constructor
  · rintro ⟨h1, h2, h3⟩
    by_cases hb1 : b = -1
    · subst hb1
      unfold I64 at *
      omega
    · have hsmall : I64 ((IntKind.i64.wrap (a * b)).tdiv b) := by
        have hn := Int.natAbs_tdiv (IntKind.i64.wrap (a * b)) b
        generalize IntKind.i64.wrap (a * b) = c at *
        by_cases hb2 : b = 1
        · subst hb2; rw [Int.tdiv_one]; exact hc
        · have h2 : 2 ≤ b.natAbs := by omega
          have h3 := Nat.div_le_div_left h2 (by omega) (a := c.natAbs)
          have hn' : (c.tdiv b).natAbs = c.natAbs / b.natAbs := hn
          rw [← hn'] at h3
          unfold I64 at *
          omega
      have e : IntKind.i64.wrap ((IntKind.i64.wrap (a * b)).tdiv b) = (IntKind.i64.wrap (a * b)).tdiv b := IntWalk.i64_in _ hsmall
      rw [e] at h1
      rw [h1, hm] at hq
      have hw := IntKind.wrap_i64 (a * b)
      generalize IntKind.i64.wrap (a * b) = c at *
      generalize a * b = P at *
      unfold I64 at *
      rcases Int.lt_or_lt_of_ne b0 with h | h
      · have := ht.2 h; omega
      · have := ht.1 h; omega
  · intro h
    have e : IntKind.i64.wrap (a * b) = a * b := IntWalk.i64_in _ h
    rw [e, Int.mul_tdiv_cancel a b0]
    refine ⟨IntWalk.i64_in _ ha, ?_, ?_⟩
    · rintro ⟨rfl, rfl⟩; unfold I64 at h; omega
    · rintro ⟨rfl, rfl⟩; unfold I64 at h; omega
theorem smul_over {a b : Int} (h : ¬ I64 (a * b)) : (0 < a * b → smul a b = 9223372036854775807) ∧ (a * b ≤ 0 → smul a b = -9223372036854775808) := by
  unfold I64 at h
  unfold smul sat
  generalize a * b = P at *
  constructor
  · intro h0; rw [if_pos (by omega)]
  · intro h0; rw [if_neg (by omega), if_pos (by omega)]
open Go.RowKit in
/-- The ways of num.add. -/
theorem add_ways {a b : Int} (ha : I64 a) (hb : I64 b) : (0 ≤ bits .and .i64 (bits .xor .i64 a (wrap64 (a + b))) (bits .xor .i64 b (wrap64 (a + b))) → wrap64 (a + b) = sadd a b) ∧
    (bits .and .i64 (bits .xor .i64 a (wrap64 (a + b))) (bits .xor .i64 b (wrap64 (a + b))) < 0 → (0 < a → 9223372036854775807 = sadd a b) ∧ (a ≤ 0 → -9223372036854775808 = sadd a b)) := by
  have h := add_test ha hb
  have hw := IntWalk.i64_left (a + b)
  rw [hw] at h
  constructor
  · intro h0
    have hin := h.1 h0
    rw [← hw]
    unfold sadd
    rw [sat_in hin]
    exact IntWalk.i64_in _ hin
  · intro h0
    have hout : ¬ I64 (a + b) := fun hin => by have := h.2 hin; omega
    have := sadd_over ha hb hout
    exact ⟨fun h => (this.1 h).symm, fun h => (this.2 h).symm⟩
open Go.RowKit in
theorem mul_ways {a b : Int} (ha : I64 a) (hb : I64 b) (b0 : b ≠ 0) :
    (wrap64 ((wrap64 (a * b)).tdiv b) = a ∧ ¬ (a = -1 ∧ b = -9223372036854775808) ∧ ¬ (b = -1 ∧ a = -9223372036854775808)) ↔ I64 (a * b) := by
  have h := mul_test ha hb b0
  rw [IntWalk.i64_left, IntWalk.i64_left] at h
  exact h
open Go.RowKit in
theorem mul_in {a b : Int} (h : I64 (a * b)) : wrap64 (a * b) = smul a b := by
  unfold smul
  rw [sat_in h, ← IntWalk.i64_left]
  exact IntWalk.i64_in _ h
theorem mul_pos {a b : Int} (a0 : a ≠ 0) (b0 : b ≠ 0) : ((a < 0) ↔ (b < 0)) ↔ 0 < a * b := by
  rcases Int.lt_or_lt_of_ne a0 with h | h <;> rcases Int.lt_or_lt_of_ne b0 with k | k
  · have := Int.mul_pos_of_neg_of_neg h k; constructor <;> intro <;> omega
  · have := Int.mul_neg_of_neg_of_pos h k; constructor <;> intro <;> omega
  · have := Int.mul_neg_of_pos_of_neg h k; constructor <;> intro <;> omega
  · have := Int.mul_pos h k; constructor <;> intro <;> omega
theorem mul_same {a b : Int} (a0 : a ≠ 0) (b0 : b ≠ 0) (h : ¬ I64 (a * b)) (hs : (a < 0) ↔ (b < 0)) : 9223372036854775807 = smul a b := ((smul_over h).1 ((mul_pos a0 b0).1 hs)).symm
theorem mul_diff {a b : Int} (a0 : a ≠ 0) (b0 : b ≠ 0) (h : ¬ I64 (a * b)) (hs : ¬ ((a < 0) ↔ (b < 0))) : -9223372036854775808 = smul a b :=
  ((smul_over h).2 (by have := (mul_pos a0 b0).2; exact Int.not_lt.1 (fun e => hs (this e)))).symm
end Go.Proofs.Ytjgpcbednhoplaa.H
