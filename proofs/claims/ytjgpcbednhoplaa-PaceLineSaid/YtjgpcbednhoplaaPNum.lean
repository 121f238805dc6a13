/- pace: sums and products that saturate, the program's and the document's. Conditions: the numbers are ints. -/
import Derived.Test.YtjgpcbednhoplaaPArith
import Derived.Test.YtjgpcbednhoplaaHLine2
namespace Go.Proofs.Ytjgpcbednhoplaa.H
open Go.RowKit Go.Deep Go.Proofs.YtjgpcbednhoplaaW.PrintWords
set_option linter.unusedVariables false
set_option linter.unusedSimpArgs false
theorem ret_int {a b : Int} (h : a = b) : Ending.returned (.int .i64 a) = .returned (.int .i64 b) := by rw [h]
theorem addP_c (a b : Int) (ha : I64 a) (hb : I64 b) (w : World) : Calls Try.prog 66 #[.int .i64 a, .int .i64 b] w fun e w' => e = .returned (.int .i64 (sadd a b)) ∧ w = w' := by
  have HT := Lib.hid (add_ways ha hb)
  clear ha hb
  go_enter Try.func66, Try.ntmps66
  go_wp2
  · have h : 0 ≤ bits .and .i64 (bits .xor .i64 a (wrap64 (a + b))) (bits .xor .i64 b (wrap64 (a + b))) := by assumption
    go_ret
    exact ⟨by rw [← HT.out.1 h]; rfl, rfl⟩
  · have h : bits .and .i64 (bits .xor .i64 a (wrap64 (a + b))) (bits .xor .i64 b (wrap64 (a + b))) < 0 := by assumption
    have h0 : 0 < a := by assumption
    go_ret
    exact ⟨by rw [← (HT.out.2 h).1 h0]; rfl, rfl⟩
  · have h : bits .and .i64 (bits .xor .i64 a (wrap64 (a + b))) (bits .xor .i64 b (wrap64 (a + b))) < 0 := by assumption
    have h0 : a ≤ 0 := by assumption
    go_ret
    exact ⟨by rw [← (HT.out.2 h).2 h0]; rfl, rfl⟩
theorem addR_c (a b : Int) (ha : I64 a) (hb : I64 b) (w : World) : Calls Try.prog 35 #[.int .i64 a, .int .i64 b] w fun e w' => e = .returned (.int .i64 (sadd a b)) ∧ w = w' := by
  have HA := Lib.hid ha
  have HB := Lib.hid hb
  unfold I64 at ha hb
  obtain ⟨a1, a2⟩ := ha
  obtain ⟨b1, b2⟩ := hb
  go_enter Try.func35, Try.ntmps35
  go_wp2
  all_goals
    go_ret
    exact ⟨ret_int (by simp only [sadd, sat]; split <;> (try split) <;> omega), rfl⟩
set_option maxHeartbeats 1600000 in
theorem mulP_c (a b : Int) (ha : I64 a) (hb : I64 b) (w : World) : Calls Try.prog 62 #[.int .i64 a, .int .i64 b] w fun e w' => e = .returned (.int .i64 (smul a b)) ∧ w = w' := by
  by_cases a0 : a = 0
  · have e0 : (a == 0) = true := by simpa using a0
    have es : smul a b = 0 := by subst a0; unfold smul; rw [Int.zero_mul]; rfl
    have ES := Lib.hid es
    clear ha hb a0 es
    go_enter Try.func62, Try.ntmps62
    go_wp2
    go_ret
    exact ⟨by rw [ES.out]; rfl, rfl⟩
  by_cases b0 : b = 0
  · have e0 : (a == 0) = false := by simpa using a0
    have e1 : (b == 0) = true := by simpa using b0
    have es : smul a b = 0 := by subst b0; unfold smul; rw [Int.mul_zero]; rfl
    have ES := Lib.hid es
    clear ha hb a0 b0 es
    go_enter Try.func62, Try.ntmps62
    go_wp2
    go_ret
    exact ⟨by rw [ES.out]; rfl, rfl⟩
  have e0 : (a == 0) = false := by simpa using a0
  have e1 : (b == 0) = false := by simpa using b0
  have hw := mul_ways ha hb b0
  by_cases hr : I64 (a * b)
  · obtain ⟨h1, h2, h3⟩ := hw.2 hr
    have e2 : (wrap64 ((wrap64 (a * b)).tdiv b) == a) = true := by simpa using h1
    have es := mul_in hr
    have ES := Lib.hid es.symm
    have B0 := Lib.hid b0
    by_cases a1 : a = -1
    · have e3 : (a == -1) = true := by simpa using a1
      have e4 : (b == -9223372036854775808) = false := by simpa using fun e => h2 ⟨a1, e⟩
      have e6 : (a == -9223372036854775808) = false := by subst a1; rfl
      by_cases b1 : b = -1
      · have e5 : (b == -1) = true := by simpa using b1
        clear ha hb hw hr h1 h2 h3 es a0 a1 b1
        go_enter Try.func62, Try.ntmps62
        go_wp2
        go_ret
        exact ⟨by rw [ES.out]; rfl, rfl⟩
      · have e5 : (b == -1) = false := by simpa using b1
        clear ha hb hw hr h1 h2 h3 es a0 a1 b1
        go_enter Try.func62, Try.ntmps62
        go_wp2
        go_ret
        exact ⟨by rw [ES.out]; rfl, rfl⟩
    · have e3 : (a == -1) = false := by simpa using a1
      by_cases b1 : b = -1
      · have e5 : (b == -1) = true := by simpa using b1
        have e6 : (a == -9223372036854775808) = false := by simpa using fun e => h3 ⟨b1, e⟩
        clear ha hb hw hr h1 h2 h3 es a0 a1 b1
        go_enter Try.func62, Try.ntmps62
        go_wp2
        go_ret
        exact ⟨by rw [ES.out]; rfl, rfl⟩
      · have e5 : (b == -1) = false := by simpa using b1
        clear ha hb hw hr h1 h2 h3 es a0 a1 b1
        go_enter Try.func62, Try.ntmps62
        go_wp2
        go_ret
        exact ⟨by rw [ES.out]; rfl, rfl⟩
  · have HM1 := Lib.hid (fun hs => mul_same a0 b0 hr hs)
    have HM2 := Lib.hid (fun hs => mul_diff a0 b0 hr hs)
    have hcase : (wrap64 ((wrap64 (a * b)).tdiv b) == a) = false ∨ ((wrap64 ((wrap64 (a * b)).tdiv b) == a) = true ∧ (a == -1) = true ∧ (b == -9223372036854775808) = true) ∨
        ((wrap64 ((wrap64 (a * b)).tdiv b) == a) = true ∧ (a == -1) = false ∧ (b == -1) = true ∧ (a == -9223372036854775808) = true) := by
      by_cases h1 : wrap64 ((wrap64 (a * b)).tdiv b) = a
      · have h1' : (wrap64 ((wrap64 (a * b)).tdiv b) == a) = true := by simpa using h1
        by_cases h2 : a = -1 ∧ b = -9223372036854775808
        · exact .inr (.inl ⟨h1', by simpa using h2.1, by simpa using h2.2⟩)
        · by_cases h3 : b = -1 ∧ a = -9223372036854775808
          · exact .inr (.inr ⟨h1', by rw [h3.2]; rfl, by simpa using h3.1, by simpa using h3.2⟩)
          · exact absurd (hw.1 ⟨h1, h2, h3⟩) hr
      · exact .inl (by simpa using h1)
    have hsg : (decide (a < 0) = true ∧ decide (b < 0) = true ∨ decide (a < 0) = false ∧ decide (b < 0) = false) ∨ (decide (a < 0) = true ∧ decide (b < 0) = false ∨ decide (a < 0) = false ∧ decide (b < 0) = true) := by
      by_cases h1 : a < 0 <;> by_cases h2 : b < 0 <;> simp [h1, h2] <;> omega
    have B0 := Lib.hid b0
    clear ha hb hw hr a0
    rcases hsg with hsg | hsg
    · have hv := HM1.out (by rcases hsg with ⟨h1, h2⟩ | ⟨h1, h2⟩ <;> simp at h1 h2 <;> constructor <;> intro <;> omega)
      have HV := Lib.hid hv.symm
      clear hv HM1 HM2
      rcases hcase with h1 | ⟨h1, h2, h3⟩ | ⟨h1, h2, h3, h4⟩ <;> rcases hsg with ⟨s1, s2⟩ | ⟨s1, s2⟩
      all_goals
        go_enter Try.func62, Try.ntmps62
        go_wp2
        go_ret
        exact ⟨by rw [HV.out]; rfl, rfl⟩
    · have hv := HM2.out (by rcases hsg with ⟨h1, h2⟩ | ⟨h1, h2⟩ <;> simp at h1 h2 <;> omega)
      have HV := Lib.hid hv.symm
      clear hv HM1 HM2
      rcases hcase with h1 | ⟨h1, h2, h3⟩ | ⟨h1, h2, h3, h4⟩ <;> rcases hsg with ⟨s1, s2⟩ | ⟨s1, s2⟩
      all_goals
        go_enter Try.func62, Try.ntmps62
        go_wp2
        go_ret
        exact ⟨by rw [HV.out]; rfl, rfl⟩
end Go.Proofs.Ytjgpcbednhoplaa.H
