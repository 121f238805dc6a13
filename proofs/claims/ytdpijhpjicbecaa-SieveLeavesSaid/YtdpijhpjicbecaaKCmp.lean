/- cmp.Compare, cmp.Or, ikey.Compare: contracts (turned from the key chapter's text). No conditions. -/
import Derived.Test.YtdpijhpjicbecaaHSl
import Derived.WalkLawsBesides
import Derived.Deep.RegionHeld3
import Derived.Deep.LoopGhost
import Derived.BigQuiet
import Derived.StillTailTactics
import Derived.Lib.Hide
import Derived.LoopN
namespace Go.Proofs.Ytdpijhpjicbecaa.H
open Go.RowKit Go.Deep Go.Proofs.YtdpijhpjicbecaaW.PrintWords
set_option linter.unusedVariables false
set_option linter.unusedSimpArgs false
theorem nanS_c (s : ByteArray) (w : World) : Calls Try.prog 85 #[.string s] w fun e w' => e = .returned (.bool false) ∧ w = w' := by
  have h : (s.toList != s.toList) = false := by simp
  go_enter Try.func85, Try.ntmps85
  go_wp2
  go_ret
  exact ⟨by simp, rfl⟩
theorem nanN_c (n : Int) (w : World) : Calls Try.prog 86 #[.int .u64 n] w fun e w' => e = .returned (.bool false) ∧ w = w' := by
  go_enter Try.func86, Try.ntmps86
  go_wp2
  go_ret
  exact ⟨by simp, rfl⟩
/-- What cmp.Compare tells of two texts; of two numbers. -/
def cmpS (a b : List UInt8) : Int := if Op.bytesLess a b = true then -1 else if Op.bytesLess b a = true then 1 else 0
def cmpN (a b : Int) : Int := if a < b then -1 else if b < a then 1 else 0
theorem less_asymm : ∀ a b : List UInt8, Op.bytesLess a b = true → Op.bytesLess b a = false
  | [], [], h => by simp [Op.bytesLess] at h
  | [], _ :: _, _ => by simp [Op.bytesLess]
  | _ :: _, [], h => by simp [Op.bytesLess] at h
  | a :: x, b :: y, h => by
    simp only [Op.bytesLess, Bool.or_eq_true, Bool.and_eq_true, decide_eq_true_eq, beq_iff_eq] at h
    rcases h with h | ⟨rfl, h⟩
    · have h1 : ¬ b < a := by rw [UInt8.lt_iff_toNat_lt] at *; omega
      have h2 : ¬ b = a := by rintro rfl; exact absurd h (by rw [UInt8.lt_iff_toNat_lt]; omega)
      simp [Op.bytesLess, h1, h2]
    · have := less_asymm x y h
      simp [Op.bytesLess, this]
theorem less_total : ∀ a b : List UInt8, Op.bytesLess a b = false → Op.bytesLess b a = false → a = b
  | [], [], _, _ => rfl
  | [], _ :: _, h, _ => by simp [Op.bytesLess] at h
  | _ :: _, [], _, h => by simp [Op.bytesLess] at h
  | a :: x, b :: y, h, k => by
    simp only [Op.bytesLess, Bool.or_eq_false_iff, Bool.and_eq_false_iff, decide_eq_false_iff_not, beq_eq_false_iff_ne] at h k
    have e : a = b := UInt8.toNat_inj.1 (by have := h.1; have := k.1; rw [UInt8.lt_iff_toNat_lt] at *; omega)
    subst e
    have h1 := h.2.resolve_left (fun h => h rfl)
    have k1 := k.2.resolve_left (fun h => h rfl)
    rw [less_total x y h1 k1]
theorem less_irrefl (a : List UInt8) : Op.bytesLess a a = false := by
  cases h : Op.bytesLess a a with
  | false => rfl
  | true => exact absurd (less_asymm a a h) (by simp [h])
/-- '>' of texts, as the walk spells it. -/
theorem gtr_eq (a b : List UInt8) : (!(Op.bytesLess a b) && !(a == b)) = Op.bytesLess b a := by
  cases h : Op.bytesLess a b with
  | true => simp [less_asymm a b h]
  | false =>
    by_cases e : a = b
    · subst e; simp [less_irrefl]
    · have : Op.bytesLess b a = true := by
        cases k : Op.bytesLess b a with
        | true => rfl
        | false => exact absurd (less_total a b h k) e
      simp [this, e]
theorem cmpS_c (a b : ByteArray) (w : World) : Calls Try.prog 83 #[.string a, .string b] w fun e w' => e = .returned (.int .i64 (cmpS a.toList b.toList)) ∧ w = w' := by
  have hg := gtr_eq a.toList b.toList
  have HG := Lib.hid hg
  clear hg
  cases h1 : Op.bytesLess a.toList b.toList with
  | true =>
    go_enter Try.func83, Try.ntmps83
    go_wp2_with (first | (go_at_call 85; refine (nanS_c _ _).mono ?_; rintro e w' ⟨rfl, rfl⟩))
    go_ret
    exact ⟨by simp [cmpS, h1], rfl⟩
  | false =>
    cases h2 : Op.bytesLess b.toList a.toList with
    | true =>
      have h3 : (a.toList == b.toList) = false := by
        have := HG.out
        rw [h1, h2] at this
        simpa using this
      go_enter Try.func83, Try.ntmps83
      go_wp2_with (first | (go_at_call 85; refine (nanS_c _ _).mono ?_; rintro e w' ⟨rfl, rfl⟩))
      go_ret
      exact ⟨by simp [cmpS, h1, h2], rfl⟩
    | false =>
      have h3 : (a.toList == b.toList) = true := by
        have := HG.out
        rw [h1, h2] at this
        simpa using this
      go_enter Try.func83, Try.ntmps83
      go_wp2_with (first | (go_at_call 85; refine (nanS_c _ _).mono ?_; rintro e w' ⟨rfl, rfl⟩))
      go_ret
      exact ⟨by simp [cmpS, h1, h2], rfl⟩
theorem cmpN_c (a b : Int) (w : World) : Calls Try.prog 84 #[.int .u64 a, .int .u64 b] w fun e w' => e = .returned (.int .i64 (cmpN a b)) ∧ w = w' := by
  unfold cmpN
  by_cases h1 : a < b
  · go_enter Try.func84, Try.ntmps84
    go_wp2_with (first | (go_at_call 86; refine (nanN_c _ _).mono ?_; rintro e w' ⟨rfl, rfl⟩))
    go_ret
    exact ⟨by simp [h1], rfl⟩
  · by_cases h2 : b < a
    · go_enter Try.func84, Try.ntmps84
      go_wp2_with (first | (go_at_call 86; refine (nanN_c _ _).mono ?_; rintro e w' ⟨rfl, rfl⟩))
      go_ret
      exact ⟨by simp [h1, h2], rfl⟩
    · go_enter Try.func84, Try.ntmps84
      go_wp2_with (first | (go_at_call 86; refine (nanN_c _ _).mono ?_; rintro e w' ⟨rfl, rfl⟩))
      go_ret
      exact ⟨by simp [h1, h2], rfl⟩
/-- cmp.Or of two numbers. -/
def or2 (a b : Int) : Int := if a = 0 then b else a
/-- cmp.Or of two numbers in a new row. -/
theorem or_c (g : Nat) (a b : Int) (w : World) (ha : w.cell? ⟨g, 0, none⟩ = some (.int .i64 a)) (hb : w.cell? ⟨g, 1, none⟩ = some (.int .i64 b)) :
    Calls Try.prog 82 #[.slice (some ⟨g, 0, none⟩) 2 2] w fun e w' => e = .returned (.int .i64 (or2 a b)) ∧ w = w' := by
  unfold or2
  by_cases h1 : a = 0
  · by_cases h2 : b = 0
    · subst h1; subst h2
      go_enter Try.func82, Try.ntmps82
      go_wp2
      refine wp_loop_rounds 3 ?_
      rw [rounds_succ]
      go_wp2
      rw [rounds_succ]
      go_wp2
      rw [rounds_succ]
      go_wp2
      go_ret
      exact ⟨by simp, rfl⟩
    · subst h1
      have h2' : (b != 0) = true := by simpa using h2
      go_enter Try.func82, Try.ntmps82
      go_wp2
      refine wp_loop_rounds 3 ?_
      rw [rounds_succ]
      go_wp2
      rw [rounds_succ]
      go_wp2
      go_ret
      exact ⟨by simp, rfl⟩
  · have h1' : (a != 0) = true := by simpa using h1
    go_enter Try.func82, Try.ntmps82
    go_wp2
    refine wp_loop_rounds 1 ?_
    rw [rounds_succ]
    go_wp2
    go_ret
    exact ⟨by simp [h1], rfl⟩
/-- The order of two entries, by key and number. -/
def cmpE (a b : List UInt8) (m n : Int) : Int := or2 (cmpS a b) (cmpN n m)
set_option maxHeartbeats 1600000 in
theorem compare_c (s : ByteArray) (m : Int) (d : Bool) (v : ByteArray) (s' : ByteArray) (m' : Int) (d' : Bool) (v' : ByteArray) (w : World) :
    Calls Try.prog 77 #[.agg #[.string s, .int .u64 m, .bool d, .string v], .agg #[.string s', .int .u64 m', .bool d', .string v']] w fun e w' => e = .returned (.int .i64 (cmpE s.toList s'.toList m m')) ∧ Below w.heap.size w w' := by
  unfold cmpE
  go_enter Try.func77, Try.ntmps77
  go_wp2_with fail
  go_region_held3 (fun w' => w'.cell? ⟨w.heap.size, 0, none⟩ = some (.string s) ∧ w'.cell? ⟨w.heap.size, 1, none⟩ = some (.int .u64 m) ∧ w'.cell? ⟨w.heap.size + 1, 0, none⟩ = some (.string s') ∧ w'.cell? ⟨w.heap.size + 1, 1, none⟩ = some (.int .u64 m'))
    (go_keep)
    (first | (go_at_call 83; refine (cmpS_c _ _ _).mono ?_; rintro e w' ⟨rfl, rfl⟩) | (go_at_call 84; refine (cmpN_c _ _ _).mono ?_; rintro e w' ⟨rfl, rfl⟩) | (go_at_call 82; refine Calls.mono (or_c _ (cmpS s.toList s'.toList) (cmpN m' m) _ ?_ ?_) ?_; go_simp; go_simp; rintro e w' ⟨rfl, rfl⟩))
  go_wp2
  go_ret
  exact ⟨rfl, ((((Below.refl _ _).alloc (Nat.le_refl _) _).alloc (by simp) _).alloc (by simp; omega) _).drew⟩
end Go.Proofs.Ytdpijhpjicbecaa.H
