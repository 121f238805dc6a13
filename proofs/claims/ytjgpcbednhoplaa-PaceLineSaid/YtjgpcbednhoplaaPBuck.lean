/- pace.Bucket: contracts of its methods. Conditions: fewer than 2^40 wait; the numbers are ints. -/
import Derived.Test.YtjgpcbednhoplaaPRef3
import Derived.Test.YtjgpcbednhoplaaHLine2
namespace Go.Proofs.Ytjgpcbednhoplaa.H
open Go.RowKit Go.Deep Go.Shelf Go.Proofs Go.Proofs.YtjgpcbednhoplaaW.PrintWords
set_option linter.unusedVariables false
set_option linter.unusedSimpArgs false
/-- A bucket: its struct's block b, its line's blocks; all in S. -/
def BuckIs (w : World) (b : Nat) (S : Nat → Prop) (l : List Int) (t r u : Int) : Prop :=
  ∃ g S', w.heap[b]? = some (.cells #[.pointer (some ⟨g, 0, none⟩), .int .i64 t, .int .i64 r, .int .i64 u] 69 (0, 0)) ∧ LineIs w g S' l ∧ S b ∧ ∀ k, S' k → S k ∧ k ≠ b
theorem BuckIs.lt {w : World} {b : Nat} {S : Nat → Prop} {l : List Int} {t r u : Int} (h : BuckIs w b S l t r u) : b < w.heap.size := by
  obtain ⟨g, S', hb, _⟩ := h
  exact blk_lt hb
theorem BuckIs.upd {w w' : World} {b : Nat} {S T : Nat → Prop} {l : List Int} {t r u : Int} (h : BuckIs w b S l t r u) (hu : Upd T w w') (hd : ∀ k, S k → ¬ T k) : BuckIs w' b S l t r u := by
  obtain ⟨g, S', hb, hl, hs, hk⟩ := h
  exact ⟨g, S', hu.heap hb (hd b hs), hl.upd hu (fun k e => hd k (hk k e).1), hs, hk⟩
theorem BuckIs.mono {w : World} {b : Nat} {S T : Nat → Prop} {l : List Int} {t r u : Int} (h : BuckIs w b S l t r u) (hs : ∀ k, S k → T k) : BuckIs w b T l t r u := by
  obtain ⟨g, S', hb, hl, hS, hk⟩ := h
  exact ⟨g, S', hb, hl, hs _ hS, fun k e => ⟨hs _ (hk k e).1, (hk k e).2⟩⟩
def abv (x : Int) : Int := if x < 0 then 0 else x
set_option maxHeartbeats 1600000 in
theorem newBucket_c (r u : Int) (w : World) : Calls Try.prog 14 #[.int .i64 r, .int .i64 u] w fun e w' => ∃ b, e = .returned (.pointer (some ⟨b, 0, none⟩)) ∧ BuckIs w' b (New (fun _ => False) w) [] (abv u) (abv r) (abv u) ∧ Below w.heap.size w w' := by
  have main : ∀ (r' u' : Int), abv r = r' → abv u = u' → Calls Try.prog 14 #[.int .i64 r, .int .i64 u] w fun e w' => ∃ b, e = .returned (.pointer (some ⟨b, 0, none⟩)) ∧ BuckIs w' b (New (fun _ => False) w) [] u' r' u' ∧ Below w.heap.size w w' := by
    intro r' u' hr hu
    by_cases h1 : r < 0 <;> by_cases h2 : u < 0
    all_goals
      simp only [abv, h1, h2, if_true, if_false] at hr hu
      subst hr hu
      go_enter Try.func14, Try.ntmps14
      go_wp2_with fail
      refine (newLine_c _).mono ?_
      rintro e w1 ⟨rfl, hl, hb1⟩
      have HL := Lib.hid hl
      have HB1 := Lib.hid hb1
      clear hl hb1
      go_wp2
      go_ret
      refine ⟨w1.heap.size, by first | rfl | simp, ⟨w.heap.size, _, heap_alloc_new w1 _, HL.out.tight.upd (Upd.alloc (S := fun _ => False) w1 _) (fun _ _ h => h), .inr HB1.out.size, fun k hk => ⟨.inr (by have := hk.1; omega), by have := hk.2; omega⟩⟩, HB1.out.alloc HB1.out.size _⟩
  exact main _ _ rfl rfl
theorem tokens_c (b : Nat) (S : Nat → Prop) (l : List Int) (t r u : Int) (w : World) (h : BuckIs w b S l t r u) : Calls Try.prog 17 #[.pointer (some ⟨b, 0, none⟩)] w fun e w' => e = .returned (.int .i64 t) ∧ w = w' := by
  obtain ⟨g, S', hb, hl, hs, hk⟩ := h
  have c1 : w.cell? ⟨b, 1, none⟩ = some (.int .i64 t) := (blk_cell hb 1).trans rfl
  clear hb hl hk
  go_enter Try.func17, Try.ntmps17
  go_wp2
  go_ret
  exact ⟨rfl, rfl⟩
theorem bline_c (b : Nat) (S : Nat → Prop) (l : List Int) (t r u : Int) (w : World) (h : BuckIs w b S l t r u) (hn : l.length < 1099511627776) : Calls Try.prog 19 #[.pointer (some ⟨b, 0, none⟩)] w fun e w' => ∃ v, e = .returned v ∧ Own encI 3 1 w' w.heap.size v l ∧ Below w.heap.size w w' := by
  obtain ⟨g, S', hb, hl, hs, hk⟩ := h
  have c0 : w.cell? ⟨b, 0, none⟩ = some (.pointer (some ⟨g, 0, none⟩)) := (blk_cell hb 0).trans rfl
  have HL := Lib.hid (all_c g S' l w hl hn)
  clear hb hl hk
  go_enter Try.func19, Try.ntmps19
  go_wp2_with fail
  refine HL.out.mono ?_
  rintro e w1 ⟨v, rfl, ho, hb1⟩
  have HO := Lib.hid ho
  have HB := Lib.hid hb1
  clear ho hb1
  go_wp2
  go_ret
  exact ⟨v, by simp, HO.out, HB.out⟩
/-- The line may be another one now; the numbers are the same. -/
theorem BuckIs.line {w w' : World} {b g : Nat} {S S' T : Nat → Prop} {l' : List Int} {t r u : Int} (hb : w.heap[b]? = some (.cells #[.pointer (some ⟨g, 0, none⟩), .int .i64 t, .int .i64 r, .int .i64 u] 69 (0, 0))) (hs : S b) (hk : ∀ k, S' k → S k ∧ k ≠ b)
    (hl : LineIs w' g (New S' w) l') (hu : Upd S' w w') : BuckIs w' b (New S w) l' t r u ∧ Upd S w w' := by
  refine ⟨⟨g, New S' w, hu.heap hb (fun h => (hk b h).2 rfl), hl, .inl hs, fun k h => ?_⟩, hu.mono fun k h => (hk k h).1⟩
  rcases h with h | h
  · exact ⟨.inl (hk k h).1, (hk k h).2⟩
  · exact ⟨.inr h, by have := blk_lt hb; omega⟩
theorem bleave_c (b : Nat) (S : Nat → Prop) (l : List Int) (t r u x : Int) (w : World) (h : BuckIs w b S l t r u) : Calls Try.prog 23 #[.pointer (some ⟨b, 0, none⟩), .int .i64 x] w fun e w' => e = .returned (.tuple #[]) ∧ BuckIs w' b S (l.erase x) t r u ∧ Upd S w w' := by
  obtain ⟨g, S', hb, hl, hs, hk⟩ := h
  have c0 : w.cell? ⟨b, 0, none⟩ = some (.pointer (some ⟨g, 0, none⟩)) := (blk_cell hb 0).trans rfl
  have HL := Lib.hid (leave_c g S' l x w hl)
  have HB := Lib.hid hb
  have HK := Lib.hid hk
  clear hb hl hk
  go_enter Try.func23, Try.ntmps23
  go_wp2_with fail
  refine HL.out.mono ?_
  rintro e w1 ⟨rfl, hl1, hu1⟩
  have H1 := Lib.hid hl1
  have HU := Lib.hid hu1
  clear hl1 hu1
  go_wp2
  go_end0
  exact ⟨by first | rfl | simp, ⟨g, S', HU.out.heap HB.out (fun h => (HK.out b h).2 rfl), H1.out, hs, HK.out⟩, HU.out.mono fun k h => (HK.out k h).1⟩
def mayL (l : List Int) (t x : Int) : Bool := decide (t > 0) && (decide (l = []) || decide (l.headD 0 = x))
set_option maxHeartbeats 1600000 in
theorem may_c (b : Nat) (S : Nat → Prop) (l : List Int) (t r u x : Int) (w : World) (h : BuckIs w b S l t r u) (hn : l.length < 1099511627776) : Calls Try.prog 21 #[.pointer (some ⟨b, 0, none⟩), .int .i64 x] w fun e w' => e = .returned (.bool (mayL l t x)) ∧ BuckIs w' b (New S w) (if mayL l t x = true then l else joined l x) t r u ∧ Upd S w w' := by
  have H0 := Lib.hid h
  obtain ⟨g, S', hb, hl, hs, hk⟩ := h
  have c0 : w.cell? ⟨b, 0, none⟩ = some (.pointer (some ⟨g, 0, none⟩)) := (blk_cell hb 0).trans rfl
  have c1 : w.cell? ⟨b, 1, none⟩ = some (.int .i64 t) := (blk_cell hb 1).trans rfl
  have HF := Lib.hid (first_c g S' l w hl)
  have HJ := Lib.hid (join_c g S' l x w hl hn)
  have HB := Lib.hid hb
  have HK := Lib.hid hk
  clear hb hl hk
  go_enter Try.func21, Try.ntmps21
  go_wp2_with fail
  refine HF.out.mono ?_
  rintro e w1 ⟨rfl, rfl⟩
  by_cases hm : mayL l t x = true
  · have HM := Lib.hid hm
    simp only [mayL, Bool.and_eq_true, Bool.or_eq_true, decide_eq_true_eq] at hm
    obtain ⟨m1, m2⟩ := hm
    by_cases m3 : l = []
    · have d1 : decide (l ≠ []) = false := by simpa using m3
      rw [d1]
      clear m2 m3 d1
      go_wp2
      go_ret
      exact ⟨by rfl, H0.out.mono fun k hk => .inl hk, Upd.refl _ _⟩
    · have d1 : decide (l ≠ []) = true := by simpa using m3
      rw [d1]
      have m2 : l.headD 0 = x := by rcases m2 with h | h; exact absurd h m3; exact h
      rw [m2]
      clear m2 m3 d1
      go_wp2
      go_ret
      exact ⟨by rfl, H0.out.mono fun k hk => .inl hk, Upd.refl _ _⟩
  · have hm : mayL l t x = false := by simpa using hm
    have HM := Lib.hid hm
    by_cases m1 : t > 0
    · simp only [mayL, m1, decide_true, Bool.true_and, Bool.or_eq_false_iff, decide_eq_false_iff_not] at hm
      obtain ⟨m2, m3⟩ := hm
      have d1 : decide (l ≠ []) = true := by simpa using m2
      rw [d1]
      generalize l.headD 0 = y at *
      have d2 : decide (y = x) = false := by simpa using m3
      clear m2 d1
      go_wp2_with fail
      refine HJ.out.mono ?_
      rintro e w2 ⟨rfl, hl2, hu2⟩
      have HR := Lib.hid (BuckIs.line (T := S) HB.out hs HK.out hl2 hu2)
      clear hl2 hu2
      go_wp2
      go_ret
      exact ⟨by rfl, HR.out.1, HR.out.2⟩
    · have d2 : decide (t > 0) = false := by simpa using m1
      generalize decide (l ≠ []) = y at *
      generalize l.headD 0 = y at *
      clear hm
      go_wp2_with fail
      refine HJ.out.mono ?_
      rintro e w2 ⟨rfl, hl2, hu2⟩
      have HR := Lib.hid (BuckIs.line (T := S) HB.out hs HK.out hl2 hu2)
      clear hl2 hu2
      go_wp2
      go_ret
      exact ⟨by rfl, HR.out.1, HR.out.2⟩
end Go.Proofs.Ytjgpcbednhoplaa.H
