/- screelaw11.runs, over an iterator of lists. Conditions: sizes. (genrun.py) -/
import Derived.Test.YtdpijhpjicbecaaGRun
namespace Go.Proofs.Ytdpijhpjicbecaa.H
open Go Go.RowKit Go.Deep Go.Shelf Go.Proofs Go.Proofs.YtdpijhpjicbecaaW.PrintWords
set_option linter.unusedVariables false
set_option linter.unusedSimpArgs false
attribute [local go_sem] Oper.semAt_some
/-- An iterator of lists as a value. -/
def KeyV (f : FV) (n₀ : Nat) (U : Nat → Prop) (I0 I1 : World → Prop) (l : List (List Ent)) : Prop :=
  ∃ gf fa lb, f = (gf, fa, lb) ∧ (∀ args w, (callFunc gf args).run Try.prog w = .ok (.enter gf args) w) ∧ ∀ W, n₀ ≤ W.heap.size → IterG Try.prog gf fa lb encR n₀ U I0 I1 I1 l W
theorem takR_start (w0 w : World) (n : Int) (b : Nat) (hb : w0.heap.size ≤ b)
    (h1 : w.heap[b]? = some (.cells #[.int .i64 n] 3 (0, 0))) (h2 : w.heap[b + 1]? = some (.cells #[.slice none 0 0] 22 (0, 0))) (h3 : w.heap[b + 1 + 1]? = some (.cells #[.bool true] 4 (0, 0))) (h4 : w.heap[b + 1 + 1 + 1]? = some (.cells #[.bool false] 4 (0, 0))) :
    TakR w0.heap.size (b + 1 + 1 + 1) (b + 1 + 1) (b + 1) b n false [] (fun k => k = b + 1 + 1 + 1 ∨ k = b + 1 + 1 ∨ k = b + 1 ∨ k = b ∨ (Value.slice none 0 0).ownBlock = some k ∨ ∃ h ∈ ([] : List HE), ∃ o, h.1 = some ⟨k, o, none⟩) w :=
  ⟨h4, h3, ⟨_, [], h2, rfl, MadeE.nil _ _, (fun k hk => by rcases hk with hk | ⟨_, h, _⟩; cases hk; cases h), fun k => Iff.rfl⟩, h1, by omega, by omega⟩
set_option maxHeartbeats 1600000 in
set_option maxRecDepth 100000 in
theorem runs11_c (f : FV) (n : Int) (n₀ : Nat) (U : Nat → Prop) (I0 I1 : World → Prop) (l : List (List Ent)) (w : World) (hf : KeyV f n₀ U I0 I1 l) (hI0 : Firm n₀ I0) (hI1 : Firm n₀ I1) (hi0 : I0 w) (hn₀ : n₀ ≤ w.heap.size) (hl : l.length < 1000000000) (hxl : ∀ x ∈ l, x.length < 1000000000) :
    Calls Try.prog 20 #[valF f, .int .i64 n] w fun e w' => ∃ v L, e = .returned (.tuple #[v, .bool true]) ∧ L.map (·.2.2) = takeN n l ∧ MadeE w' w.heap.size v L ∧ Upd U w w' ∧ (if n = 0 then I0 w' else I1 w') := by
  obtain ⟨gf, fa, lb, rfl, henter, hit⟩ := hf
  have HIT := Lib.hid hit
  clear hit
  have HXL := Lib.hid hxl
  clear hxl
  rw [show valF (gf, fa, lb) = .func (.func gf) fa lb from rfl]
  have hnil : ∀ w : World, (binOp .eql 36 (.func (.func gf) fa lb) .nilFunc).run Try.prog w = .ok (.bool false) w := fun _ => rfl
  by_cases hn : n = 0
  · subst hn
    go_enter Try.func20, Try.ntmps20
    go_wp2
    go_ret2
    exact ⟨_, rfl, [], by simp [takeN], MadeE.nil _ _, Upd.of_below (((Below.refl w.heap.size w).alloc (Nat.le_refl _) _).alloc (by simp) _), by simpa using hI0.later hi0 (((Below.refl _ _).alloc (Nat.le_refl _) _).alloc (by simp) _)⟩
  · go_enter Try.func20, Try.ntmps20
    go_wp2_with fail
    go_at_fn gf
    obtain ⟨W4, hW4⟩ : ∃ W4, (((w.alloc (.cells #[.int .i64 n] 3)).alloc (.cells #[.slice none 0 0] 22)).alloc (.cells #[.bool true] 4)).alloc (.cells #[.bool false] 4) = W4 := ⟨_, rfl⟩
    have k1 : W4.heap[w.heap.size]? = some (.cells #[.int .i64 n] 3 (0, 0)) := by rw [← hW4]; exact blk_alloc (blk_alloc (blk_alloc (heap_alloc_new _ _) _) _) _
    have k2 : W4.heap[w.heap.size + 1]? = some (.cells #[.slice none 0 0] 22 (0, 0)) := by rw [← hW4]; exact blk_alloc (blk_alloc (by simpa using heap_alloc_new (w.alloc (.cells #[.int .i64 n] 3)) (.cells #[.slice none 0 0] 22)) _) _
    have k3 : W4.heap[w.heap.size + 1 + 1]? = some (.cells #[.bool true] 4 (0, 0)) := by rw [← hW4]; exact blk_alloc (by simpa using heap_alloc_new ((w.alloc (.cells #[.int .i64 n] 3)).alloc (.cells #[.slice none 0 0] 22)) (.cells #[.bool true] 4)) _
    have k4 : W4.heap[w.heap.size + 1 + 1 + 1]? = some (.cells #[.bool false] 4 (0, 0)) := by rw [← hW4]; simpa using heap_alloc_new (((w.alloc (.cells #[.int .i64 n] 3)).alloc (.cells #[.slice none 0 0] 22)).alloc (.cells #[.bool true] 4)) (.cells #[.bool false] 4)
    have hb4 : Below w.heap.size w W4 := by rw [← hW4]; exact ((((Below.refl _ _).alloc (Nat.le_refl _) _).alloc (by simp) _).alloc (by simp; omega) _).alloc (by simp; omega) _
    rw [hW4]
    have H0 := takR_start w W4 n w.heap.size (Nat.le_refl _) k1 k2 k3 k4
    have hcall := HIT.out W4 (Nat.le_trans hn₀ hb4.size) (.func 67) #[.pointer (some ⟨w.heap.size + 1 + 1 + 1, 0, none⟩), .pointer (some ⟨w.heap.size + 1 + 1, 0, none⟩), .pointer (some ⟨w.heap.size + 1, 0, none⟩), .pointer (some ⟨w.heap.size, 0, none⟩)]
      (fun p T W => TakR w.heap.size (w.heap.size + 1 + 1 + 1) (w.heap.size + 1 + 1) (w.heap.size + 1) w.heap.size n false p T W ∧ (n < 0 ∨ (p.length : Int) < n))
      (fun p T W => TakR w.heap.size (w.heap.size + 1 + 1 + 1) (w.heap.size + 1 + 1) (w.heap.size + 1) w.heap.size n true p T W ∧ (p.length : Int) = n) _
      (foot_and (takR_foot _ _ _ _ _ _ _) (fun p => n < 0 ∨ (p.length : Int) < n)) (foot_and (takR_foot _ _ _ _ _ _ _) (fun p => (p.length : Int) = n)) (fun k hk => Nat.le_trans hn₀ (H0.ge k hk)) ⟨H0, by simp; omega⟩ (hI0.later hi0 hb4)
      (fun p x T1 W1 hj him hg hu hp args F hE hF => by
        obtain ⟨hj, hlim⟩ := hj
        obtain ⟨Ax, cx, rfl, hsx, _, _⟩ := hE
        have hmem : x ∈ l := hp.subset (by simp)
        have hpl : p.length < 1000000000 := by have := hp.length_le; simp at this; omega
        refine .inr ⟨_, rfl, enters_of Try.func67 (by kernel_rfl) rfl, (runs11a_c _ _ _ _ _ n p x Ax cx T1 W1 hj hsx hpl (HXL.out x hmem)).mono ?_⟩
        rintro e W2 ⟨rfl, T2, hg2, hu2, ht2⟩
        refine ⟨T2, hg2, hu2, ?_⟩
        by_cases hend : (p.length : Int) + 1 = n
        · rw [decide_eq_true hend] at ht2 ⊢
          exact .inr ⟨rfl, ht2, by simpa using hend⟩
        · rw [decide_eq_false hend] at ht2 ⊢
          exact .inl ⟨rfl, ht2, by simp; omega⟩)
    refine hcall.mono ?_
    clear hcall H0 k1 k2 k3 k4
    rintro e W5 ⟨⟨v5, rfl⟩, T5, hg5, hu5, hres⟩
    obtain ⟨p, ended, ht5, hp⟩ : ∃ p ended, TakR w.heap.size (w.heap.size + 1 + 1 + 1) (w.heap.size + 1 + 1) (w.heap.size + 1) w.heap.size n ended p T5 W5 ∧ takeN n l = p := by
      rcases hres with ⟨⟨h1, h2⟩, _⟩ | ⟨p, hp, ⟨h1, h2⟩, _⟩
      · exact ⟨l, false, h1, takeN_all h2⟩
      · exact ⟨p, true, h1, takeN_stop h2 hp⟩
    have hi5 : I1 W5 := by
      rcases hres with ⟨_, h⟩ | ⟨_, _, _, h⟩
      · exact h
      · exact h
    subst hp
    obtain ⟨v, L, ho, hLL, hmade, hv, hf⟩ := ht5.o
    have hown := hmade.own
    have hu6 : Upd U w W5 := (Upd.of_below hb4).step hu5 (fun k hk => by
      rcases hk with (h | h | h | h | h | ⟨_, h, _⟩) | h
      · exact .inr (by omega)
      · exact .inr (by omega)
      · exact .inr (by omega)
      · exact .inr (by omega)
      · cases h
      · cases h
      · exact .inl h)
    have q1 : W5.cell? ⟨w.heap.size + 1, 0, none⟩ = some v := (blk_cell ho 0).trans rfl
    have q2 : W5.cell? ⟨w.heap.size + 1 + 1, 0, none⟩ = some (.bool true) := (blk_cell ht5.w 0).trans rfl
    obtain ⟨A, c, rfl⟩ := own_slice hown
    have HB := Lib.hid hu6
    have HI5 := Lib.hid hi5
    have HO := Lib.hid hmade
    have HLL := Lib.hid hLL
    clear ht5 ho hown hmade hLL hv hf hres hu6 hi5 hu5 hg5 hb4 HIT
    go_wp2_with fail
    go_region
    go_wp2
    go_ret2
    exact ⟨_, rfl, L, HLL.out, HO.out.later ((Below.refl _ _).drew), HB.out.trans (Upd.drew _), by simpa [hn] using hI1 _ _ HI5.out (Upd.drew _)⟩
end Go.Proofs.Ytdpijhpjicbecaa.H
