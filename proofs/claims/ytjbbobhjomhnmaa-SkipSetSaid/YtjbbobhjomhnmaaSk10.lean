/- taken: what an iterator gives, at most n entries. Conditions: sizes. -/
import Derived.Test.YtjbbobhjomhnmaaSk9
import Derived.BigRegion
namespace Go.Proofs.Ytjbbobhjomhnmaa.H
open Go Go.RowKit Go.Deep Go.Shelf Go.Proofs Go.Proofs.YtjbbobhjomhnmaaW.PrintWords
set_option linter.unusedVariables false
set_option linter.unusedSimpArgs false
/-- What an iterator gives under a limit. -/
def takeN {α : Type} (n : Int) (l : List α) : List α := if n < 0 then l else l.take n.toNat
theorem takeN_all {α : Type} {n : Int} {l : List α} (h : n < 0 ∨ (l.length : Int) < n) : takeN n l = l := by
  unfold takeN
  split
  · rfl
  · rw [List.take_of_length_le (by omega)]
theorem takeN_stop {α : Type} {n : Int} {l p : List α} (h : (p.length : Int) = n) (hp : p <+: l) : takeN n l = p := by
  unfold takeN
  rw [if_neg (by omega), ← h, Int.toNat_natCast]
  exact (List.prefix_iff_eq_take.1 hp).symm
/-- An iterator as a value, at w and wherever w has but grown. -/
def IterV {α : Type} (P : Program) (f : Value) (encs : α → Array Value) (n₀ : Nat) (l : List α) (w : World) : Prop :=
  ∃ gf lb, f = .func (.func gf) #[] lb ∧ (∀ args w, (callFunc gf args).run P w = .ok (.enter gf args) w) ∧ ∀ W, Below w.heap.size w W → IterT P gf lb encs n₀ l W
theorem IterV.later {α : Type} {P : Program} {f : Value} {encs : α → Array Value} {n₀ : Nat} {l : List α} {w w' : World} (h : IterV P f encs n₀ l w) (hb : Below w.heap.size w w') : IterV P f encs n₀ l w' := by
  obtain ⟨gf, lb, h1, h2, h3⟩ := h
  exact ⟨gf, lb, h1, h2, fun W hW => h3 W (hb.trans (hW.mono hb.size))⟩
abbrev encA (e : Ent) : Array Value := #[.agg (encE e).toArray]
theorem tak_start (w0 w : World) (n : Int) (b : Nat) (hb : w0.heap.size ≤ b)
    (h1 : w.heap[b]? = some (.cells #[.int .i64 n] 3 (0, 0))) (h2 : w.heap[b + 1]? = some (.cells #[.slice none 0 0] 64 (0, 0))) (h3 : w.heap[b + 1 + 1]? = some (.cells #[.bool true] 4 (0, 0))) (h4 : w.heap[b + 1 + 1 + 1]? = some (.cells #[.bool false] 4 (0, 0))) :
    TakAt w0.heap.size (b + 1 + 1 + 1) (b + 1 + 1) (b + 1) b n false [] (fun k => k = b + 1 + 1 + 1 ∨ k = b + 1 + 1 ∨ k = b + 1 ∨ k = b ∨ (Value.slice none 0 0).ownBlock = some k) w :=
  ⟨h4, h3, ⟨_, h2, Own.nil _ _ _ _ _, (fun k hk => by cases hk), fun _ => Iff.rfl⟩, h1, by omega, by omega⟩
set_option maxHeartbeats 1600000 in
set_option maxRecDepth 100000 in
theorem taken_c (f : Value) (n : Int) (n₀ : Nat) (l : List Ent) (w : World) (hf : IterV Try.prog f encA n₀ l w) (hn₀ : n₀ ≤ w.heap.size) (hl : l.length < 2932031007319) :
    Calls Try.prog 23 #[f, .int .i64 n] w fun e w' => ∃ v, e = .returned (.tuple #[v, .bool true]) ∧ Own encE 53 4 w' w.heap.size v (takeN n l) ∧ Below w.heap.size w w' := by
  obtain ⟨gf, lb, rfl, henter, hit⟩ := hf
  have HIT := Lib.hid hit
  clear hit
  have hnil : ∀ w : World, (binOp .eql 58 (.func (.func gf) #[] lb) .nilFunc).run Try.prog w = .ok (.bool false) w := fun _ => rfl
  by_cases hn : n = 0
  · subst hn
    go_enter Try.func23, Try.ntmps23
    go_wp2
    go_ret2
    exact ⟨_, rfl, by simpa [takeN] using Own.nil _ _ _ _ _, ((Below.refl _ _).alloc (Nat.le_refl _) _).alloc (by simp) _⟩
  · go_enter Try.func23, Try.ntmps23
    go_wp2_with fail
    go_at_fn gf
    obtain ⟨W4, hW4⟩ : ∃ W4, (((w.alloc (.cells #[.int .i64 n] 3)).alloc (.cells #[.slice none 0 0] 64)).alloc (.cells #[.bool true] 4)).alloc (.cells #[.bool false] 4) = W4 := ⟨_, rfl⟩
    have k1 : W4.heap[w.heap.size]? = some (.cells #[.int .i64 n] 3 (0, 0)) := by rw [← hW4]; exact blk_alloc (blk_alloc (blk_alloc (heap_alloc_new _ _) _) _) _
    have k2 : W4.heap[w.heap.size + 1]? = some (.cells #[.slice none 0 0] 64 (0, 0)) := by rw [← hW4]; exact blk_alloc (blk_alloc (by simpa using heap_alloc_new (w.alloc (.cells #[.int .i64 n] 3)) (.cells #[.slice none 0 0] 64)) _) _
    have k3 : W4.heap[w.heap.size + 1 + 1]? = some (.cells #[.bool true] 4 (0, 0)) := by rw [← hW4]; exact blk_alloc (by simpa using heap_alloc_new ((w.alloc (.cells #[.int .i64 n] 3)).alloc (.cells #[.slice none 0 0] 64)) (.cells #[.bool true] 4)) _
    have k4 : W4.heap[w.heap.size + 1 + 1 + 1]? = some (.cells #[.bool false] 4 (0, 0)) := by rw [← hW4]; simpa using heap_alloc_new (((w.alloc (.cells #[.int .i64 n] 3)).alloc (.cells #[.slice none 0 0] 64)).alloc (.cells #[.bool true] 4)) (.cells #[.bool false] 4)
    have hb4 : Below w.heap.size w W4 := by rw [← hW4]; exact ((((Below.refl _ _).alloc (Nat.le_refl _) _).alloc (by simp) _).alloc (by simp; omega) _).alloc (by simp; omega) _
    rw [hW4]
    have H0 := tak_start w W4 n w.heap.size (Nat.le_refl _) k1 k2 k3 k4
    have hcall := HIT.out W4 hb4 (.func 83) #[.pointer (some ⟨w.heap.size + 1 + 1 + 1, 0, none⟩), .pointer (some ⟨w.heap.size + 1 + 1, 0, none⟩), .pointer (some ⟨w.heap.size + 1, 0, none⟩), .pointer (some ⟨w.heap.size, 0, none⟩)]
      (fun p T W => TakAt w.heap.size (w.heap.size + 1 + 1 + 1) (w.heap.size + 1 + 1) (w.heap.size + 1) w.heap.size n false p T W ∧ (n < 0 ∨ (p.length : Int) < n))
      (fun p T W => TakAt w.heap.size (w.heap.size + 1 + 1 + 1) (w.heap.size + 1 + 1) (w.heap.size + 1) w.heap.size n true p T W ∧ (p.length : Int) = n) _
      (foot_and (tak_foot _ _ _ _ _ _ _) (fun p => n < 0 ∨ (p.length : Int) < n)) (foot_and (tak_foot _ _ _ _ _ _ _) (fun p => (p.length : Int) = n)) (fun k hk => Nat.le_trans hn₀ (H0.ge k hk)) ⟨H0, by simp; omega⟩
      (fun p x T1 W1 hj hg hu hp => by
        obtain ⟨hj, hlim⟩ := hj
        have hpl : p.length < 2932031007319 := by have := hp.length_le; simp at this; omega
        refine .inr ⟨_, rfl, enters_of Try.func83 (by kernel_rfl) rfl, (taken1_c _ _ _ _ _ n p x T1 W1 hj hpl).mono ?_⟩
        rintro e W2 ⟨rfl, T2, hg2, hu2, ht2⟩
        refine ⟨T2, hg2, hu2, ?_⟩
        by_cases hend : (p.length : Int) + 1 = n
        · rw [decide_eq_true hend] at ht2 ⊢
          exact .inr ⟨rfl, ht2, by simpa using hend⟩
        · rw [decide_eq_false hend] at ht2 ⊢
          exact .inl ⟨rfl, ht2, by simp; omega⟩)
    refine hcall.mono ?_
    clear hcall H0 k1 k2 k3 k4
    rintro e W5 ⟨⟨v5, rfl⟩, T5, hg5, hu5, hres⟩
    obtain ⟨p, ended, ht5, hp⟩ : ∃ p ended, TakAt w.heap.size (w.heap.size + 1 + 1 + 1) (w.heap.size + 1 + 1) (w.heap.size + 1) w.heap.size n ended p T5 W5 ∧ takeN n l = p := by
      rcases hres with ⟨h1, h2⟩ | ⟨p, hp, h1, h2⟩
      · exact ⟨l, false, h1, takeN_all h2⟩
      · exact ⟨p, true, h1, takeN_stop h2 hp⟩
    subst hp
    obtain ⟨v, ho, hown, hv, hf⟩ := ht5.o
    have hb5 : Below w.heap.size W4 W5 := hu5.bel (fun k hk => by rcases hk with h | h | h | h | h; omega; omega; omega; omega; cases h) hb4.size
    have q1 : W5.cell? ⟨w.heap.size + 1, 0, none⟩ = some v := (blk_cell ho 0).trans rfl
    have q2 : W5.cell? ⟨w.heap.size + 1 + 1, 0, none⟩ = some (.bool true) := (blk_cell ht5.w 0).trans rfl
    obtain ⟨A, c, rfl⟩ := own_slice hown
    have HB := Lib.hid (hb4.trans hb5)
    have HO := Lib.hid hown
    clear ht5 ho hown hv hf hres hb5 hu5 hg5 hb4 HIT
    obtain ⟨m, hm⟩ : ∃ m, (takeN n l).length = m := ⟨_, rfl⟩
    rw [hm] at q1 HO
    go_wp2_with fail
    go_region
    go_wp2
    go_ret2
    exact ⟨_, rfl, HO.out, HB.out.trans ((Upd.drew (S := fun _ => False) _).bel (fun _ h => h.elim) HB.out.size)⟩
end Go.Proofs.Ytjbbobhjomhnmaa.H
