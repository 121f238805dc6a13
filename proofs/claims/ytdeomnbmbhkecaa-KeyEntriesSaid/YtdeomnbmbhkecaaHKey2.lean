/- Contracts of layer 1: weights, errors of keys; the document's own functions beside them. Conditions: a text takes at most 2^47 - 4096 bytes. -/
import Derived.Test.YtdeomnbmbhkecaaHKey1
namespace Go.Proofs.Ytdeomnbmbhkecaa.H
open Go.RowKit Go.Proofs.YtdeomnbmbhkecaaW.PrintWords
set_option linter.unusedVariables false
set_option linter.unusedSimpArgs false
abbrev Ent := ByteArray × Int × Bool × ByteArray
abbrev Wri := ByteArray × Bool × ByteArray
/-- What an entry, a write weighs. -/
def wt (k : ByteArray) (d : Bool) (v : ByteArray) : Int := 2 * (k.size : Int) + 448 + (if d then 0 else (v.size : Int))
theorem charge_c (k : ByteArray) (d : Bool) (v : ByteArray) (hk : k.size ≤ 140737488351232) (hv : v.size ≤ 140737488351232) (w : World) :
    Calls Try.prog 49 #[.string k, .bool d, .string v] w fun e w' => e = .returned (.int .i64 (wt k d v)) ∧ w = w' := by
  cases d
  · go_enter Try.func49, Try.ntmps49
    go_wp2
    go_ret
    exact ⟨by simp [wt], rfl⟩
  · go_enter Try.func49, Try.ntmps49
    go_wp2
    go_ret
    exact ⟨by simp [wt], rfl⟩
theorem weight_c (k : ByteArray) (m : Int) (d : Bool) (v : ByteArray) (hk : k.size ≤ 140737488351232) (hv : v.size ≤ 140737488351232) (w : World) :
    Calls Try.prog 25 #[.agg #[.string k, .int .u64 m, .bool d, .string v]] w fun e w' => e = .returned (.int .i64 (wt k d v)) ∧ Below w.heap.size w w' := by
  go_enter Try.func25, Try.ntmps25
  go_wp2_with (go_at_call 49; refine (charge_c _ _ _ hk hv _).mono ?_; rintro e w' ⟨rfl, rfl⟩)
  go_ret
  exact ⟨rfl, (Below.refl _ _).alloc (Nat.le_refl _) _⟩
theorem refweight_c (k : ByteArray) (m : Int) (d : Bool) (v : ByteArray) (hk : k.size ≤ 140737488351232) (hv : v.size ≤ 140737488351232) (w : World) :
    Calls Try.prog 26 #[.agg #[.string k, .int .u64 m, .bool d, .string v]] w fun e w' => e = .returned (.int .i64 (wt k d v)) ∧ Below w.heap.size w w' := by
  cases d
  · go_enter Try.func26, Try.ntmps26
    go_wp2
    go_ret
    exact ⟨by simp [wt]; omega, (Below.refl _ _).alloc (Nat.le_refl _) _⟩
  · go_enter Try.func26, Try.ntmps26
    go_wp2
    go_ret
    exact ⟨by simp [wt], (Below.refl _ _).alloc (Nat.le_refl _) _⟩
/-- The error of a key. -/
def chk (k : ByteArray) : Int := if k.size = 0 then 10 else if 64 < k.size then 11 else 0
theorem toList_len (s : ByteArray) : s.toList.length = s.size := by rw [ByteArray.toList_eq, Array.length_toList]; rfl
theorem check_c (k : ByteArray) (w : World) : Calls Try.prog 17 #[.string k] w fun e w' => e = .returned (.int .i64 (chk k)) ∧ w = w' := by
  have hl := toList_len k
  have HL := Lib.hid hl
  clear hl
  by_cases h : k.size = 0
  · have h1 : k.toList.isEmpty = true := by rw [List.isEmpty_iff]; exact List.eq_nil_of_length_eq_zero (by rw [HL.out]; exact h)
    have h2 : k.toList = [] := by simpa using h1
    have H := Lib.hid h
    clear h
    go_enter Try.func17, Try.ntmps17
    go_wp2
    go_ret
    exact ⟨by simp [chk, H.out], rfl⟩
  · have h2 : ¬ k.toList = [] := by intro e; rw [e] at HL; exact h HL.out.symm
    have h1 : k.toList.isEmpty = false := by simpa using h2
    by_cases h3 : 64 < k.size
    · go_enter Try.func17, Try.ntmps17
      go_wp2
      go_ret
      exact ⟨by simp [chk, h, h3], rfl⟩
    · go_enter Try.func17, Try.ntmps17
      go_wp2
      go_ret
      exact ⟨by simp [chk, h, h3], rfl⟩
theorem refcheck_c (k : ByteArray) (w : World) : Calls Try.prog 18 #[.string k] w fun e w' => e = .returned (.int .i64 (chk k)) ∧ w = w' := by
  by_cases h : k.size = 0
  · have h0 : ((k.size : Int) == 0) = true := by simp [h]
    have H := Lib.hid h
    clear h
    go_enter Try.func18, Try.ntmps18
    go_wp2
    go_ret
    exact ⟨by simp [chk, H.out], rfl⟩
  · have h0 : ((k.size : Int) == 0) = false := beq_eq_false_iff_ne.2 (by omega)
    by_cases h3 : 64 < k.size
    · go_enter Try.func18, Try.ntmps18
      go_wp2
      go_ret
      exact ⟨by simp [chk, h, h3], rfl⟩
    · go_enter Try.func18, Try.ntmps18
      go_wp2
      go_ret
      exact ⟨by simp [chk, h, h3], rfl⟩
end Go.Proofs.Ytdeomnbmbhkecaa.H
