/- math/bits.Mul64 at this program, by the library's contract; the document's product. Conditions: the numbers are ints. -/
import Derived.Test.YtjgpcbednhoplaaPNum
import Derived.Shelf.Bits.Mul64
namespace Go.Proofs.Ytjgpcbednhoplaa.H
open Go.RowKit Go.Deep Go.Shelf Go.Proofs Go.Proofs.YtjgpcbednhoplaaW.PrintWords
set_option linter.unusedVariables false
set_option linter.unusedSimpArgs false
def renMul : Go.Shelf.Ren := ⟨fun _ => 67, fun n => if n = 53 then 76 else 87, fun _ => 0⟩
theorem laysMul : Lays.n264 Try.prog renMul := {
  mixed := by kernel_rfl
  f264 := by kernel_rfl
  t46 := by kernel_rfl
  a46 := fun w => by kernel_rfl
  z46 := fun w => by kernel_rfl
  v46 := fun w => by kernel_rfl
  t53 := by kernel_rfl
  a53 := fun w => by kernel_rfl
  z53 := fun w => by kernel_rfl
  v53 := fun w => by kernel_rfl }
theorem mul64_c (x y : Nat) (hx : x < 18446744073709551616) (hy : y < 18446744073709551616) (w : World) :
    Calls Try.prog 67 #[.int .u64 x, .int .u64 y] w fun e w' => e = .returned (.tuple #[.int .u64 ((x * y / 18446744073709551616 : Nat) : Int), .int .u64 ((x * y % 18446744073709551616 : Nat) : Int)]) ∧ w = w' :=
  (Go.Proofs.Any.bits_Mul64 laysMul x y hx hy w).mono fun _ _ h => ⟨h.1, h.2.symm⟩
theorem ret_u64 {a b : Int} (h : a = b) : Ending.returned (.int .u64 a) = .returned (.int .u64 b) := by rw [h]
theorem size_c (a : Int) (ha : I64 a) (w : World) : Calls Try.prog 68 #[.int .i64 a] w fun e w' => e = .returned (.int .u64 (a.natAbs : Nat)) ∧ w = w' := by
  unfold I64 at ha
  obtain ⟨a1, a2⟩ := ha
  go_enter Try.func68, Try.ntmps68
  go_wp2
  all_goals
    go_ret
    exact ⟨ret_u64 (by omega), rfl⟩
theorem mul_nat (a b : Int) : (((a < 0) ↔ (b < 0)) → a * b = ((a.natAbs * b.natAbs : Nat) : Int)) ∧ (¬ ((a < 0) ↔ (b < 0)) → a * b = -((a.natAbs * b.natAbs : Nat) : Int)) := by
  have hn := Int.natAbs_mul a b
  rw [← hn]
  rcases Int.lt_or_le a 0 with h | h <;> rcases Int.lt_or_le b 0 with k | k
  · have := Int.mul_pos_of_neg_of_neg h k; constructor <;> intro <;> omega
  · have : a * b ≤ 0 := Int.mul_nonpos_of_nonpos_of_nonneg (by omega) k
    constructor <;> intro <;> omega
  · have : a * b ≤ 0 := Int.mul_nonpos_of_nonneg_of_nonpos h (by omega)
    constructor <;> intro <;> omega
  · have := Int.mul_nonneg h k; constructor <;> intro <;> omega
set_option maxHeartbeats 1600000 in
set_option maxRecDepth 100000 in
theorem mulR_c (a b : Int) (ha : I64 a) (hb : I64 b) (w : World) : Calls Try.prog 37 #[.int .i64 a, .int .i64 b] w fun e w' => e = .returned (.int .i64 (smul a b)) ∧ w = w' := by
  have HA := Lib.hid (size_c a ha w)
  have HB := Lib.hid (size_c b hb w)
  have HM := Lib.hid (mul64_c a.natAbs b.natAbs (by unfold I64 at ha; omega) (by unfold I64 at hb; omega) w)
  have hn := mul_nat a b
  generalize hX : a.natAbs * b.natAbs = X at HM hn
  have hsg : (decide (a < 0) = true ∧ decide (b < 0) = true ∨ decide (a < 0) = false ∧ decide (b < 0) = false) ∨ (decide (a < 0) = true ∧ decide (b < 0) = false ∨ decide (a < 0) = false ∧ decide (b < 0) = true) := by
    by_cases h1 : a < 0 <;> by_cases h2 : b < 0 <;> simp [h1, h2] <;> omega
  have hXY : ∃ H L : Int, ((X / 18446744073709551616 : Nat) : Int) = H ∧ ((X % 18446744073709551616 : Nat) : Int) = L ∧ (X : Int) = H * 18446744073709551616 + L ∧ 0 ≤ H ∧ 0 ≤ L ∧ L < 18446744073709551616 := ⟨_, _, rfl, rfl, by omega, by omega, by omega, by omega⟩
  obtain ⟨H, L, e1, e2, e3, i0, i1, e4⟩ := hXY
  rw [e1, e2] at HM
  have hs : smul a b = sat (a * b) := rfl
  clear e1 e2 hX ha hb
  rcases hsg with hsg | hsg
  · have hp : a * b = (X : Int) := hn.1 (by rcases hsg with ⟨h1, h2⟩ | ⟨h1, h2⟩ <;> simp at h1 h2 <;> constructor <;> intro <;> omega)
    rw [hp] at hs
    clear hn hp
    by_cases c1 : 0 < H
    · have g1 : decide (0 < H) = true := by simpa using c1
      have HS := Lib.hid (show smul a b = 9223372036854775807 by rw [hs]; unfold sat; split <;> (try split) <;> omega)
      clear hs e3 e4 c1
      rcases hsg with ⟨s1, s2⟩ | ⟨s1, s2⟩
      all_goals
        go_enter Try.func37, Try.ntmps37
        go_wp2_with fail
        refine HA.out.mono ?_
        rintro e w' ⟨rfl, rfl⟩
        go_wp2_with fail
        refine HB.out.mono ?_
        rintro e w' ⟨rfl, rfl⟩
        go_wp2_with fail
        refine HM.out.mono ?_
        rintro e w' ⟨rfl, rfl⟩
        go_wp2
        go_ret
        exact ⟨by rw [HS.out]; rfl, rfl⟩
    by_cases c2 : L < 9223372036854775808
    · have g1 : decide (0 < H) = false := by simpa using c1
      have g2 : decide (9223372036854775808 ≤ L) = false := by simpa using c2
      have g5 : L ≤ 9223372036854775807 := by omega
      have HS := Lib.hid (show smul a b = L by rw [hs]; unfold sat; split <;> (try split) <;> omega)
      clear hs e3 e4 c1 c2
      rcases hsg with ⟨s1, s2⟩ | ⟨s1, s2⟩
      all_goals
        go_enter Try.func37, Try.ntmps37
        go_wp2_with fail
        refine HA.out.mono ?_
        rintro e w' ⟨rfl, rfl⟩
        go_wp2_with fail
        refine HB.out.mono ?_
        rintro e w' ⟨rfl, rfl⟩
        go_wp2_with fail
        refine HM.out.mono ?_
        rintro e w' ⟨rfl, rfl⟩
        go_wp2
        go_ret
        exact ⟨by rw [HS.out]; rfl, rfl⟩
    · have g1 : decide (0 < H) = false := by simpa using c1
      have g2 : decide (9223372036854775808 ≤ L) = true := by simpa using c2
      have HS := Lib.hid (show smul a b = 9223372036854775807 by rw [hs]; unfold sat; split <;> (try split) <;> omega)
      clear hs e3 e4 c1 c2
      rcases hsg with ⟨s1, s2⟩ | ⟨s1, s2⟩
      all_goals
        go_enter Try.func37, Try.ntmps37
        go_wp2_with fail
        refine HA.out.mono ?_
        rintro e w' ⟨rfl, rfl⟩
        go_wp2_with fail
        refine HB.out.mono ?_
        rintro e w' ⟨rfl, rfl⟩
        go_wp2_with fail
        refine HM.out.mono ?_
        rintro e w' ⟨rfl, rfl⟩
        go_wp2
        go_ret
        exact ⟨by rw [HS.out]; rfl, rfl⟩
  · have hp : a * b = -(X : Int) := hn.2 (by rcases hsg with ⟨h1, h2⟩ | ⟨h1, h2⟩ <;> simp at h1 h2 <;> omega)
    rw [hp] at hs
    clear hn hp
    by_cases c1 : 0 < H
    · have g1 : decide (0 < H) = true := by simpa using c1
      have HS := Lib.hid (show smul a b = -9223372036854775808 by rw [hs]; unfold sat; split <;> (try split) <;> omega)
      clear hs e3 e4 c1
      rcases hsg with ⟨s1, s2⟩ | ⟨s1, s2⟩
      all_goals
        go_enter Try.func37, Try.ntmps37
        go_wp2_with fail
        refine HA.out.mono ?_
        rintro e w' ⟨rfl, rfl⟩
        go_wp2_with fail
        refine HB.out.mono ?_
        rintro e w' ⟨rfl, rfl⟩
        go_wp2_with fail
        refine HM.out.mono ?_
        rintro e w' ⟨rfl, rfl⟩
        go_wp2
        go_ret
        exact ⟨by rw [HS.out]; rfl, rfl⟩
    by_cases c2 : 9223372036854775808 < L
    · have g1 : decide (0 < H) = false := by simpa using c1
      have g2 : decide (9223372036854775808 < L) = true := by simpa using c2
      have HS := Lib.hid (show smul a b = -9223372036854775808 by rw [hs]; unfold sat; split <;> (try split) <;> omega)
      clear hs e3 e4 c1 c2
      rcases hsg with ⟨s1, s2⟩ | ⟨s1, s2⟩
      all_goals
        go_enter Try.func37, Try.ntmps37
        go_wp2_with fail
        refine HA.out.mono ?_
        rintro e w' ⟨rfl, rfl⟩
        go_wp2_with fail
        refine HB.out.mono ?_
        rintro e w' ⟨rfl, rfl⟩
        go_wp2_with fail
        refine HM.out.mono ?_
        rintro e w' ⟨rfl, rfl⟩
        go_wp2
        go_ret
        exact ⟨by rw [HS.out]; rfl, rfl⟩
    by_cases c3 : L = 9223372036854775808
    · have g1 : decide (0 < H) = false := by simpa using c1
      have g2 : decide (9223372036854775808 < L) = false := by simpa using c2
      have g3 : (L == 9223372036854775808) = true := by simpa using c3
      have HS := Lib.hid (show smul a b = -9223372036854775808 by rw [hs]; unfold sat; split <;> (try split) <;> omega)
      clear hs e3 e4 c1 c2 c3
      rcases hsg with ⟨s1, s2⟩ | ⟨s1, s2⟩
      all_goals
        go_enter Try.func37, Try.ntmps37
        go_wp2_with fail
        refine HA.out.mono ?_
        rintro e w' ⟨rfl, rfl⟩
        go_wp2_with fail
        refine HB.out.mono ?_
        rintro e w' ⟨rfl, rfl⟩
        go_wp2_with fail
        refine HM.out.mono ?_
        rintro e w' ⟨rfl, rfl⟩
        go_wp2
        go_ret
        exact ⟨by rw [HS.out]; rfl, rfl⟩
    · have g1 : decide (0 < H) = false := by simpa using c1
      have g2 : decide (9223372036854775808 < L) = false := by simpa using c2
      have g3 : (L == 9223372036854775808) = false := by simpa using c3
      have g5 : L ≤ 9223372036854775807 := by omega
      have HS := Lib.hid (show smul a b = -L by rw [hs]; unfold sat; split <;> (try split) <;> omega)
      clear hs e3 e4 c1 c2 c3
      rcases hsg with ⟨s1, s2⟩ | ⟨s1, s2⟩
      all_goals
        go_enter Try.func37, Try.ntmps37
        go_wp2_with fail
        refine HA.out.mono ?_
        rintro e w' ⟨rfl, rfl⟩
        go_wp2_with fail
        refine HB.out.mono ?_
        rintro e w' ⟨rfl, rfl⟩
        go_wp2_with fail
        refine HM.out.mono ?_
        rintro e w' ⟨rfl, rfl⟩
        go_wp2
        go_ret
        exact ⟨by rw [HS.out]; rfl, rfl⟩
end Go.Proofs.Ytjgpcbednhoplaa.H
