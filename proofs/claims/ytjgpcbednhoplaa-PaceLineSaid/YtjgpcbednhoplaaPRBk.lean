/- The reference's bucket (printed by genrbk.py): above, NewBucket, Tick, May, Leave, Take. Conditions: fewer than 2^40 wait; the numbers are ints. -/
import Derived.Test.YtjgpcbednhoplaaPLaws1
namespace Go.Proofs.Ytjgpcbednhoplaa.H
open Go.RowKit Go.Deep Go.Shelf Go.Proofs Go.Proofs.YtjgpcbednhoplaaW.PrintWords
set_option linter.unusedVariables false
set_option linter.unusedSimpArgs false
/-- The reference's bucket: its struct's block b, its list's block; both in S. -/
def RBIs (w : World) (b : Nat) (S : Nat → Prop) (l : List Int) (t r u : Int) : Prop :=
  ∃ v, w.heap[b]? = some (.cells #[.int .i64 r, .int .i64 u, .int .i64 t, v] 42 (0, 0)) ∧ Own encI 3 1 w 0 v l ∧ S b ∧ ∀ k, v.ownBlock = some k → S k ∧ k ≠ b
theorem RBIs.lt {w : World} {b : Nat} {S : Nat → Prop} {l : List Int} {t r u : Int} (h : RBIs w b S l t r u) : b < w.heap.size := by
  obtain ⟨v, hb, _⟩ := h
  exact blk_lt hb
theorem RBIs.upd {w w' : World} {b : Nat} {S T : Nat → Prop} {l : List Int} {t r u : Int} (h : RBIs w b S l t r u) (hu : Upd T w w') (hd : ∀ k, S k → ¬ T k) : RBIs w' b S l t r u := by
  obtain ⟨v, hb, ho, hs, hk⟩ := h
  exact ⟨v, hu.heap hb (hd b hs), ho.upd hu (fun k e => hd k (hk k e).1), hs, hk⟩
theorem RBIs.mono {w : World} {b : Nat} {S T : Nat → Prop} {l : List Int} {t r u : Int} (h : RBIs w b S l t r u) (hs : ∀ k, S k → T k) : RBIs w b T l t r u := by
  obtain ⟨v, hb, ho, hS, hk⟩ := h
  exact ⟨v, hb, ho, hs _ hS, fun k e => ⟨hs _ (hk k e).1, (hk k e).2⟩⟩
theorem RBIs.tight {w : World} {b : Nat} {S : Nat → Prop} {l : List Int} {t r u : Int} (h : RBIs w b S l t r u) : RBIs w b (fun k => S k ∧ k < w.heap.size) l t r u := by
  obtain ⟨v, hb, ho, hS, hk⟩ := h
  exact ⟨v, hb, ho, ⟨hS, blk_lt hb⟩, fun k e => ⟨⟨(hk k e).1, (ho.block_lt e).2⟩, (hk k e).2⟩⟩
theorem BuckIs.tight' {w : World} {b : Nat} {S : Nat → Prop} {l : List Int} {t r u : Int} (h : BuckIs w b S l t r u) : BuckIs w b (fun k => S k ∧ k < w.heap.size) l t r u := by
  obtain ⟨g, S', hb, hl, hS, hk⟩ := h
  exact ⟨g, _, hb, hl.tight, ⟨hS, blk_lt hb⟩, fun k h => ⟨⟨(hk k h.1).1, h.2⟩, (hk k h.1).2⟩⟩
theorem above_c (x : Int) (w : World) : Calls Try.prog 52 #[.int .i64 x] w fun e w' => e = .returned (.int .i64 (abv x)) ∧ w = w' := by
  by_cases h : x < 0
  · have hE := Lib.hid (show abv x = 0 by unfold abv; rw [if_pos h])
    go_enter Try.func52, Try.ntmps52
    go_wp2
    go_ret
    exact ⟨by rw [hE.out]; rfl, rfl⟩
  · have hE := Lib.hid (show abv x = x by unfold abv; rw [if_neg h])
    go_enter Try.func52, Try.ntmps52
    go_wp2
    go_ret
    exact ⟨by rw [hE.out]; rfl, rfl⟩
theorem newR_c (r u : Int) (w : World) : Calls Try.prog 15 #[.int .i64 r, .int .i64 u] w fun e w' => ∃ b, e = .returned (.pointer (some ⟨b, 0, none⟩)) ∧ RBIs w' b (New (fun _ => False) w) [] (abv u) (abv r) (abv u) ∧ Below w.heap.size w w' := by
  go_enter Try.func15, Try.ntmps15
  go_wp2_with fail
  refine (above_c _ _).mono ?_
  rintro e w' ⟨rfl, rfl⟩
  go_wp2_with fail
  refine (above_c _ _).mono ?_
  rintro e w' ⟨rfl, rfl⟩
  go_wp2_with fail
  refine (above_c _ _).mono ?_
  rintro e w' ⟨rfl, rfl⟩
  go_wp2
  go_ret
  exact ⟨w.heap.size, by first | rfl | simp, ⟨.slice none 0 0, heap_alloc_new w _, Own.nil _ _ _ _ _, .inr (Nat.le_refl _), by simp [Value.ownBlock]⟩, (Below.refl _ _).alloc (Nat.le_refl _) _⟩
theorem RBIs.set {w : World} {b : Nat} {S : Nat → Prop} {l : List Int} {t r u : Int} (h : RBIs w b S l t r u) (t' : Int) : RBIs (w.setCell ⟨b, 2, none⟩ (.int .i64 t')) b S l t' r u ∧ Upd S w (w.setCell ⟨b, 2, none⟩ (.int .i64 t')) := by
  obtain ⟨v, hb, ho, hs, hk⟩ := h
  exact ⟨⟨v, (blk_set hb 2 _).trans rfl, ho.upd (Upd.setCell (S := fun k => k = b) w 2 _ rfl) (fun k h => (hk k h).2), hs, hk⟩, Upd.setCell w 2 _ hs⟩
set_option maxHeartbeats 1600000 in
set_option maxRecDepth 100000 in
theorem tickR_c (b : Nat) (S : Nat → Prop) (l : List Int) (t r u : Int) (w : World) (h : RBIs w b S l t r u) (ht : I64 t) (hr : I64 r) : Calls Try.prog 53 #[.pointer (some ⟨b, 0, none⟩)] w fun e w' => e = .returned (.tuple #[]) ∧ RBIs w' b S l (mni (sadd t r) u) r u ∧ Upd S w w' := by
  have H0 := Lib.hid h
  obtain ⟨g, hb, hl, hs, hk⟩ := h
  have c1 : w.cell? ⟨b, 2, none⟩ = some (.int .i64 t) := (blk_cell hb 2).trans rfl
  have c2 : w.cell? ⟨b, 0, none⟩ = some (.int .i64 r) := (blk_cell hb 0).trans rfl
  have c3 : w.cell? ⟨b, 1, none⟩ = some (.int .i64 u) := (blk_cell hb 1).trans rfl
  have HLT := Lib.hid (blk_lt hb)
  clear hb hl hk
  go_enter Try.func53, Try.ntmps53
  refine wp_region_calmB 17 (by kernel_rfl) (by kernel_rfl) ?_
  simp only [List.take_succ_cons, List.take_zero, List.drop_succ_cons, List.drop_zero]
  refine chain0 ?_
  refine @chain _ _ _ _ _ _ _ _ 2 (.pointer (some ⟨b, 0, none⟩)) (by rfl) (by rfl) (by exact fun W2 hW => run_mv (by rfl) (by exact eval_base (by kernel_rfl) (by rfl)) hW) ?_
  refine @chain _ _ _ _ _ _ _ _ 3 (.pointer (some ⟨b, 0, none⟩)) (by rfl) (by rfl) (by exact fun W2 hW => run_mv (by rfl) (by exact eval_base (by kernel_rfl) (by rfl)) hW) ?_
  refine @chain _ _ _ _ _ _ _ _ 4 (.pointer (some ⟨b, 0, none⟩)) (by rfl) (by rfl) (by exact fun W2 hW => run_nc (by rfl) (by exact eval_look (by kernel_rfl) (by kernel_rfl)) hW) ?_
  refine @chain _ _ _ _ _ _ _ _ 5 (.pointer (some ⟨b, 2, none⟩)) (by rfl) (by rfl) (by exact fun W2 hW => run_fa (p := .pointer (some ⟨b, 0, none⟩)) (by rfl) (by exact eval_look (by kernel_rfl) (by kernel_rfl)) (fun W => by first | kernel_rfl | go_simp) hW) ?_
  refine @chain _ _ _ _ _ _ _ _ 6 (.int .i64 t) (by rfl) (by rfl) (by exact fun W2 hW => run_ld (by rfl) (by exact eval_look (by kernel_rfl) (by kernel_rfl)) c1 (fun W h => ldInt _ _ _ W h) hW) ?_
  refine @chain _ _ _ _ _ _ _ _ 7 (.pointer (some ⟨b, 0, none⟩)) (by rfl) (by rfl) (by exact fun W2 hW => run_mv (by rfl) (by exact eval_base (by kernel_rfl) (by rfl)) hW) ?_
  refine @chain _ _ _ _ _ _ _ _ 8 (.pointer (some ⟨b, 0, none⟩)) (by rfl) (by rfl) (by exact fun W2 hW => run_nc (by rfl) (by exact eval_look (by kernel_rfl) (by kernel_rfl)) hW) ?_
  refine @chain _ _ _ _ _ _ _ _ 9 (.pointer (some ⟨b, 0, none⟩)) (by rfl) (by rfl) (by exact fun W2 hW => run_fa (p := .pointer (some ⟨b, 0, none⟩)) (by rfl) (by exact eval_look (by kernel_rfl) (by kernel_rfl)) (fun W => by first | kernel_rfl | go_simp) hW) ?_
  refine @chain _ _ _ _ _ _ _ _ 10 (.int .i64 r) (by rfl) (by rfl) (by exact fun W2 hW => run_ld (by rfl) (by exact eval_look (by kernel_rfl) (by kernel_rfl)) c2 (fun W h => ldInt _ _ _ W h) hW) ?_
  refine @chain _ _ _ _ _ _ _ _ 11 (.int .i64 (sadd t r)) (by rfl) (by rfl) (by exact fun W2 hW => run_call (vs := #[.int .i64 t, .int .i64 r]) (by rfl) (by kernel_rfl) (enters_of Try.func35 (by kernel_rfl) (by rfl)) (calm_q hW (addR_c _ _ ht hr W2))) ?_
  refine @chain _ _ _ _ _ _ _ _ 12 (.pointer (some ⟨b, 0, none⟩)) (by rfl) (by rfl) (by exact fun W2 hW => run_mv (by rfl) (by exact eval_base (by kernel_rfl) (by rfl)) hW) ?_
  refine @chain _ _ _ _ _ _ _ _ 13 (.pointer (some ⟨b, 0, none⟩)) (by rfl) (by rfl) (by exact fun W2 hW => run_nc (by rfl) (by exact eval_look (by kernel_rfl) (by kernel_rfl)) hW) ?_
  refine @chain _ _ _ _ _ _ _ _ 14 (.pointer (some ⟨b, 1, none⟩)) (by rfl) (by rfl) (by exact fun W2 hW => run_fa (p := .pointer (some ⟨b, 0, none⟩)) (by rfl) (by exact eval_look (by kernel_rfl) (by kernel_rfl)) (fun W => by first | kernel_rfl | go_simp) hW) ?_
  refine @chain _ _ _ _ _ _ _ _ 15 (.int .i64 u) (by rfl) (by rfl) (by exact fun W2 hW => run_ld (by rfl) (by exact eval_look (by kernel_rfl) (by kernel_rfl)) c3 (fun W h => ldInt _ _ _ W h) hW) ?_
  refine @chain _ _ _ _ _ _ _ _ 16 (.int .i64 (mni (sadd t r) u)) (by rfl) (by rfl) (by exact fun W2 hW => run_mn (u := .int .i64 (sadd t r)) (v := .int .i64 u) (by rfl) (by exact eval_look (by kernel_rfl) (by kernel_rfl)) (by exact eval_look (by kernel_rfl) (by kernel_rfl)) (fun W => minInt _ _ _ _ W) hW) ?_
  refine @chain _ _ _ _ _ _ _ _ 17 (.pointer (some ⟨b, 0, none⟩)) (by rfl) (by rfl) (by exact fun W2 hW => run_nc (by rfl) (by exact eval_look (by kernel_rfl) (by kernel_rfl)) hW) ?_
  refine @chain _ _ _ _ _ _ _ _ 18 (.pointer (some ⟨b, 2, none⟩)) (by rfl) (by rfl) (by exact fun W2 hW => run_fa (p := .pointer (some ⟨b, 0, none⟩)) (by rfl) (by exact eval_look (by kernel_rfl) (by kernel_rfl)) (fun W => by first | kernel_rfl | go_simp) hW) ?_
  refine calm_nil (fun W2 hW2 => ?_)
  refine Eq.mpr (congrArg (fun a => wpList _ _ _ _ a W2) (show _ = (⟨#[.pointer (some ⟨b, 0, none⟩), undef, .pointer (some ⟨b, 0, none⟩), .pointer (some ⟨b, 0, none⟩), .pointer (some ⟨b, 0, none⟩), .pointer (some ⟨b, 2, none⟩), .int .i64 t, .pointer (some ⟨b, 0, none⟩), .pointer (some ⟨b, 0, none⟩), .pointer (some ⟨b, 0, none⟩), .int .i64 r, .int .i64 (sadd t r), .pointer (some ⟨b, 0, none⟩), .pointer (some ⟨b, 0, none⟩), .pointer (some ⟨b, 1, none⟩), .int .i64 u, .int .i64 (mni (sadd t r) u), .pointer (some ⟨b, 0, none⟩), .pointer (some ⟨b, 2, none⟩)], []⟩ : Act) by kernel_rfl)) ?_
  have e1 : W2.cell? ⟨b, 2, none⟩ = some (.int .i64 t) := (hW2.cell (p := ⟨b, 2, none⟩) HLT.out).trans c1
  have H2 := H0.out.upd (Upd.of_below (S := fun _ => False) hW2) (fun k _ h => h)
  have f1 : W2.frozen? ⟨b, 2, none⟩ = false := by obtain ⟨g, hb, _⟩ := H2; exact blk_frozen hb 2
  have HB := Lib.hid (H2.set (mni (sadd t r) u))
  have HW := Lib.hid hW2
  clear c1 c2 c3 H2 hW2
  go_wp2
  go_end0
  exact ⟨by first | rfl | simp, HB.out.1, (Upd.of_below HW.out).trans HB.out.2⟩
set_option maxHeartbeats 1600000 in
theorem leaveR_c (b : Nat) (S : Nat → Prop) (l : List Int) (t r u x : Int) (w : World) (h : RBIs w b S l t r u) (hn : l.length < 1099511627776) (hd : l.Nodup) : Calls Try.prog 56 #[.pointer (some ⟨b, 0, none⟩), .int .i64 x] w fun e w' => e = .returned (.tuple #[]) ∧ RBIs w' b (New S w) (l.erase x) t r u ∧ Upd S w w' := by
  have H0 := Lib.hid h
  obtain ⟨v, hb, ho, hs, hk⟩ := h
  obtain ⟨A, c, rfl, hlc, hsl, hne⟩ := ho.slice (fun x => (okI x).1)
  have HB := Lib.hid hb
  have HS := Lib.hid hsl
  have HLT := Lib.hid (blk_lt hb)
  have HE := Lib.hid (show l.filter (fun y => y != x) = l.erase x from (hd.erase_eq_filter x).symm)
  clear hb ho hk hlc hsl hne hd
  obtain ⟨n, hnn⟩ : ∃ n, l.length = n := ⟨_, rfl⟩
  rw [hnn] at hn HB
  have HN := Lib.hid hnn
  clear hnn
  have i0 : (n : Int) ≤ 1099511627776 := by omega
  go_enter Try.func56, Try.ntmps56
  go_wp2
  go_loopw [4, 5] (fun s4 s5 wr => ∃ k : Nat, s5 = .int .i64 k ∧ k ≤ n ∧ Own encI 3 1 wr w.heap.size s4 ((l.take k).filter (fun y => y != x)) ∧ Below w.heap.size w wr) (fun _ s5 _ => n - (intOf s5).toNat)
  case atStart => exact ⟨0, rfl, by omega, by simpa using Own.nil _ _ _ _ _, Below.refl _ _⟩
  case round =>
    obtain ⟨k, rfl, hk, ho4, hbw⟩ := hrel
    have HO := Lib.hid ho4
    have HW := Lib.hid hbw
    have hbr : wr.heap[b]? = some (.cells #[.int .i64 r, .int .i64 u, .int .i64 t, .slice A n c] 42 (0, 0)) := (hbw.block b HLT.out).trans HB.out
    have a3 : wr.cell? ⟨b, 3, none⟩ = some (.slice A n c) := (blk_cell hbr 3).trans rfl
    have HBR := Lib.hid hbr
    clear ho4 hbw hbr
    have i1 : (0 : Int) ≤ k := by omega
    by_cases hlt : k < n
    · have i2 : (k : Int) < n := by omega
      obtain ⟨y, hy⟩ := getElem?_of_lt (l := l) (by have := HN.out; omega : k < l.length)
      obtain ⟨b2, o2, rfl, hb2, hc2⟩ := HS.out.at hy
      have a1 : wr.cell? ⟨b2, o2 + k, none⟩ = some (.int .i64 y) := (HW.out.cell (p := ⟨b2, o2 + k, none⟩) hb2).trans (by simpa using hc2 0 _ rfl)
      have ht : l.take (k + 1) = l.take k ++ [y] := by rw [List.take_add_one, hy]; rfl
      have HT := Lib.hid ht
      clear hc2 hb2 ht hy
      by_cases he : y = x
      · have e1 : (y == x) = true := by simpa using he
        subst he
        go_wp2
        go_roundw
        case rel => exact ⟨k + 1, by go_num, by omega, by rw [HT.out, List.filter_append]; simpa using HO.out, HW.out⟩
        case measure => simp [intOf]; omega
      · have e1 : (y == x) = false := by simpa using he
        have hfl : ((l.take k).filter (fun y => y != x)).length ≤ n := by
          refine Nat.le_trans (List.length_filter_le _ _) ?_
          rw [List.length_take]; omega
        obtain ⟨A4, c4, rfl, h4, hs4, hne4⟩ := HO.out.slice (fun x => (okI x).1)
        have HFL := Lib.hid hfl
        have HNE := Lib.hid he
        clear hs4 hne4 hfl he h4
        go_wp2_with (at_builtin; refine wpList_app rfl (.tmp 24) (.tmp 32) rfl uSlInt infoInt rfl (by decide) (by decide) okI (.slice A4 _ c4) ((l.take k).filter (fun y => y != x)) rfl (base := w.heap.size) ?c1 (some ⟨wr.heap.size, 0, none⟩) 1 [y] rfl ?c2 ?c3 ?c4 ?_)
        case c1 => exact HO.out.below ((Below.refl _ _).alloc (Nat.le_refl _) _)
        case c2 => exact Sl.one okI wr y _ rfl
        case c3 => have := HFL.out; simp; omega
        case c4 => have := HW.out.size; simp; omega
        intro v1 w1 ho1 hg1 hat1
        have hbb : Below w.heap.size w w1 := (HW.out.alloc HW.out.size _).grown hg1 (by have := HW.out.size; simp; omega) (fun k hk => (HO.out.block_lt hk).1)
        have HO1 := Lib.hid (show Own encI 3 1 w1 w.heap.size v1 ((l.take (k + 1)).filter (fun y => y != x)) by rw [HT.out, List.filter_append]; simpa [HNE.out] using ho1)
        have HW1 := Lib.hid hbb
        clear ho1 hg1 hat1 hbb
        go_wp2
        go_roundw
        case rel => exact ⟨k + 1, by go_num, by omega, HO1.out, HW1.out⟩
        case measure => simp [intOf]; omega
    · have hk' : n = k := by omega
      subst hk'
      have f3 : wr.frozen? ⟨b, 3, none⟩ = false := blk_frozen HBR.out 3
      rw [show l.take n = l by rw [← HN.out, List.take_length]] at HO
      rw [HE.out] at HO
      obtain ⟨A4, c4, rfl, _, _, _⟩ := HO.out.slice (fun x => (okI x).1)
      have hb3 := blk_set HBR.out 3 (.slice A4 (l.erase x).length c4)
      have HF := Lib.hid (show RBIs (wr.setCell ⟨b, 3, none⟩ (.slice A4 (l.erase x).length c4)) b (New S w) (l.erase x) t r u from ⟨_, hb3.trans rfl, HO.out.upd (Upd.setCell (S := fun k => k = b) wr 3 _ rfl) (fun k hk => by have := (HO.out.block_lt hk).1; have := HLT.out; omega) |>.weaken (Nat.zero_le _), .inl hs, fun k hk => ⟨.inr (HO.out.block_lt hk).1, by have := (HO.out.block_lt hk).1; have := HLT.out; omega⟩⟩)
      have HU := Lib.hid (show Upd S w (wr.setCell ⟨b, 3, none⟩ (.slice A4 (l.erase x).length c4)) from (Upd.of_below HW.out).trans (Upd.setCell wr 3 _ hs))
      clear hb3
      go_wp2
      go_end0
      exact ⟨by first | rfl | simp, HF.out, HU.out⟩
set_option maxHeartbeats 1600000 in
set_option maxRecDepth 100000 in
theorem takeR_c (b : Nat) (S : Nat → Prop) (l : List Int) (t r u x n : Int) (w : World) (h : RBIs w b S l t r u) (hl : l.length < 1099511627776) (hd : l.Nodup) (ht : I64 t) (hn : I64 n) : Calls Try.prog 55 #[.pointer (some ⟨b, 0, none⟩), .int .i64 x, .int .i64 n] w fun e w' => e = .returned (.tuple #[]) ∧ RBIs w' b (New S w) (l.erase x) (tookL t n) r u ∧ Upd S w w' := by
  have H0 := Lib.hid h
  have HT := Lib.hid (show sadd t (-(abv n)) = tookL t n by
    unfold tookL abv
    by_cases hp : n > 0
    · rw [if_pos hp, if_neg (by omega)]
    · rw [if_neg hp]
      by_cases hq : n < 0
      · rw [if_pos hq]; exact sadd_zero ht
      · rw [if_neg hq, show n = 0 by omega]; exact sadd_zero ht)
  have ha : 0 ≤ abv n ∧ abv n ≤ 9223372036854775807 := by have := hn.1; have := hn.2; unfold abv; split <;> omega
  obtain ⟨a1, a2⟩ := ha
  have hna : I64 (-(abv n)) := I64.lit (by omega) (by omega)
  obtain ⟨g, hb, hl', hs, hk⟩ := h
  have c1 : w.cell? ⟨b, 2, none⟩ = some (.int .i64 t) := (blk_cell hb 2).trans rfl
  have HLT := Lib.hid (blk_lt hb)
  clear hb hl' hk
  go_enter Try.func55, Try.ntmps55
  go_wp2_with fail
  refine wp_region_calmB 11 (by kernel_rfl) (by kernel_rfl) ?_
  simp only [List.take_succ_cons, List.take_zero, List.drop_succ_cons, List.drop_zero]
  refine chain0 ?_
  refine @chain _ _ _ _ _ _ _ _ 6 (.pointer (some ⟨b, 0, none⟩)) (by rfl) (by rfl) (by exact fun W2 hW => run_mv (by rfl) (by exact eval_base (by kernel_rfl) (by rfl)) hW) ?_
  refine @chain _ _ _ _ _ _ _ _ 7 (.pointer (some ⟨b, 0, none⟩)) (by rfl) (by rfl) (by exact fun W2 hW => run_mv (by rfl) (by exact eval_base (by kernel_rfl) (by rfl)) hW) ?_
  refine @chain _ _ _ _ _ _ _ _ 8 (.pointer (some ⟨b, 0, none⟩)) (by rfl) (by rfl) (by exact fun W2 hW => run_nc (by rfl) (by exact eval_look (by kernel_rfl) (by kernel_rfl)) hW) ?_
  refine @chain _ _ _ _ _ _ _ _ 9 (.pointer (some ⟨b, 2, none⟩)) (by rfl) (by rfl) (by exact fun W2 hW => run_fa (p := .pointer (some ⟨b, 0, none⟩)) (by rfl) (by exact eval_look (by kernel_rfl) (by kernel_rfl)) (fun W => by first | kernel_rfl | go_simp) hW) ?_
  refine @chain _ _ _ _ _ _ _ _ 10 (.int .i64 t) (by rfl) (by rfl) (by exact fun W2 hW => run_ld (by rfl) (by exact eval_look (by kernel_rfl) (by kernel_rfl)) c1 (fun W h => ldInt _ _ _ W h) hW) ?_
  refine @chain _ _ _ _ _ _ _ _ 11 (.int .i64 n) (by rfl) (by rfl) (by exact fun W2 hW => run_mv (by rfl) (by exact eval_base (by kernel_rfl) (by rfl)) hW) ?_
  refine @chain _ _ _ _ _ _ _ _ 12 (.int .i64 (abv n)) (by rfl) (by rfl) (by exact fun W2 hW => run_call (vs := #[.int .i64 n]) (by rfl) (by kernel_rfl) (enters_of Try.func52 (by kernel_rfl) (by rfl)) (calm_q hW (above_c _ W2))) ?_
  refine @chain _ _ _ _ _ _ _ _ 13 (.int .i64 (-(abv n))) (by rfl) (by rfl) (by exact fun W2 hW => run_uo (u := .int .i64 (abv n)) (by rfl) (by exact eval_look (by kernel_rfl) (by kernel_rfl)) (fun W => by go_simp; try (rw [IntKind.wrap_i64]; omega)) hW) ?_
  refine @chain _ _ _ _ _ _ _ _ 14 (.int .i64 (sadd t (-(abv n)))) (by rfl) (by rfl) (by exact fun W2 hW => run_call (vs := #[.int .i64 t, .int .i64 (-(abv n))]) (by rfl) (by kernel_rfl) (enters_of Try.func35 (by kernel_rfl) (by rfl)) (calm_q hW (addR_c _ _ ht hna W2))) ?_
  refine @chain _ _ _ _ _ _ _ _ 15 (.pointer (some ⟨b, 0, none⟩)) (by rfl) (by rfl) (by exact fun W2 hW => run_nc (by rfl) (by exact eval_look (by kernel_rfl) (by kernel_rfl)) hW) ?_
  refine @chain _ _ _ _ _ _ _ _ 16 (.pointer (some ⟨b, 2, none⟩)) (by rfl) (by rfl) (by exact fun W2 hW => run_fa (p := .pointer (some ⟨b, 0, none⟩)) (by rfl) (by exact eval_look (by kernel_rfl) (by kernel_rfl)) (fun W => by first | kernel_rfl | go_simp) hW) ?_
  refine calm_nil (fun W2 hW2 => ?_)
  refine Eq.mpr (congrArg (fun a => wpList _ _ _ _ a W2) (show _ = (⟨#[.pointer (some ⟨b, 0, none⟩), .int .i64 x, .int .i64 n, undef, undef, undef, .pointer (some ⟨b, 0, none⟩), .pointer (some ⟨b, 0, none⟩), .pointer (some ⟨b, 0, none⟩), .pointer (some ⟨b, 2, none⟩), .int .i64 t, .int .i64 n, .int .i64 (abv n), .int .i64 (-(abv n)), .int .i64 (sadd t (-(abv n))), .pointer (some ⟨b, 0, none⟩), .pointer (some ⟨b, 2, none⟩), undef, undef, undef], []⟩ : Act) by kernel_rfl)) ?_
  have e1 : W2.cell? ⟨b, 2, none⟩ = some (.int .i64 t) := (hW2.cell (p := ⟨b, 2, none⟩) HLT.out).trans c1
  have H2 := H0.out.upd (Upd.of_below (S := fun _ => False) hW2) (fun k _ h => h)
  have f1 : W2.frozen? ⟨b, 2, none⟩ = false := by obtain ⟨g, hb, _⟩ := H2; exact blk_frozen hb 2
  have HB := Lib.hid (H2.set (sadd t (-(abv n))))
  have HW := Lib.hid hW2
  clear c1 H2 hW2
  go_wp2_with fail
  refine (leaveR_c b S l (sadd t (-(abv n))) r u x _ HB.out.1 hl hd).mono ?_
  rintro e w3 ⟨rfl, hb3, hu3⟩
  have hb4 := hb3.mono (T := New S w) (fun k hk => by rcases hk with hk | hk; exact .inl hk; exact .inr (Nat.le_trans (Nat.le_trans HW.out.size HB.out.2.size) hk))
  rw [HT.out] at hb4
  have HB3 := Lib.hid hb4
  have HU3 := Lib.hid hu3
  clear hb3 hb4 hu3
  go_wp2
  go_end0
  exact ⟨by first | rfl | simp, HB3.out, ((Upd.of_below HW.out).trans HB.out.2).trans HU3.out⟩
set_option maxHeartbeats 1600000 in
set_option maxRecDepth 100000 in
theorem mayR_c (b : Nat) (S : Nat → Prop) (l : List Int) (t r u x : Int) (w : World) (h : RBIs w b S l t r u) (hn : l.length < 1099511627776) : Calls Try.prog 54 #[.pointer (some ⟨b, 0, none⟩), .int .i64 x] w fun e w' => e = .returned (.bool (mayL l t x)) ∧ RBIs w' b (New S w) (if mayL l t x = true then l else joined l x) t r u ∧ Upd S w w' := by
  have H0 := Lib.hid h
  obtain ⟨v, hb, ho, hs, hk⟩ := h
  obtain ⟨A, c, rfl, hlc, hsl, hne⟩ := ho.slice (fun x => (okI x).1)
  have c2 : w.cell? ⟨b, 2, none⟩ = some (.int .i64 t) := (blk_cell hb 2).trans rfl
  have c3 : w.cell? ⟨b, 3, none⟩ = some (.slice A l.length c) := (blk_cell hb 3).trans rfl
  have f3 : w.frozen? ⟨b, 3, none⟩ = false := blk_frozen hb 3
  have HB := Lib.hid hb
  have HO := Lib.hid ho
  have HK := Lib.hid hk
  have HS := Lib.hid hsl
  have hlt := blk_lt hb
  clear hb ho hk hlc hsl hne
  rcases hm : mayL l t x with _ | _
  · have HM := Lib.hid hm
    -- who may not: looks whether he stands there, and joins
    obtain ⟨n, hnn⟩ : ∃ n, l.length = n := ⟨_, rfl⟩
    have HN := Lib.hid hnn
    have HH : (t > 0 ∧ ∃ y, l.head? = some y ∧ y ≠ x) ∨ ¬ t > 0 := by
      by_cases ht : t > 0
      · refine .inl ⟨ht, ?_⟩
        cases l with
        | nil => simp [mayL, ht] at hm
        | cons y l => exact ⟨y, rfl, by simpa [mayL, ht] using hm⟩
      · exact .inr ht
    rw [hnn] at hn c3 HB HO HK
    have i0 : (n : Int) ≤ 1099511627776 := by omega
    clear hnn hm
    go_enter Try.func54, Try.ntmps54
    rcases HH with ⟨ht, y, hy, hyx⟩ | ht
    · obtain ⟨b2, o2, rfl, hb2, hc2⟩ := HS.out.at (i := 0) (x := y) (by rw [← List.head?_eq_getElem?]; exact hy)
      have a0 : w.cell? ⟨b2, o2, none⟩ = some (.int .i64 y) := by simpa using hc2 0 _ rfl
      have e0 : (y == x) = false := by simpa using hyx
      have hnp : 0 < n := by
        have := HN.out
        cases l with
        | nil => simp at hy
        | cons z l => simp at this; omega
      clear hy hyx hc2 hb2
      go_wp2
      go_loopw [5] (fun s5 wr => ∃ k : Nat, s5 = .int .i64 k ∧ k ≤ n ∧ x ∉ l.take k ∧ wr = w) (fun s5 _ => n - (intOf s5).toNat)
      case atStart => exact ⟨0, rfl, by omega, by simp, rfl⟩
      case round =>
        obtain ⟨k, rfl, hk, hx, rfl⟩ := hrel
        have HX := Lib.hid hx
        clear hx
        have i1 : (0 : Int) ≤ k := by omega
        by_cases hlk : k < n
        · have i2 : (k : Int) < n := by omega
          obtain ⟨y, hy⟩ := getElem?_of_lt (l := l) (by have := HN.out; omega : k < l.length)
          obtain ⟨b3, o3, hA, hb2, hc2⟩ := HS.out.at hy
          injection hA with hA
          injection hA with hA1 hA2
          subst hA1
          subst hA2
          have a1 : wr.cell? ⟨b2, o2 + k, none⟩ = some (.int .i64 y) := by simpa using hc2 0 _ rfl
          have HY := Lib.hid hy
          clear hc2 hb2 hy
          by_cases he : y = x
          · have e1 : (y == x) = true := by simpa using he
            have hj : joined l x = l := by unfold joined; rw [if_pos (by rw [← he]; exact List.mem_of_getElem? HY.out)]
            have HJ := Lib.hid hj
            clear hj
            subst he
            go_wp2
            go_ret
            refine ⟨by rfl, ?_, Upd.refl _ _⟩
            first | (rw [HJ.out]; exact H0.out.mono fun k hk => .inl hk) | (rw [HM.out, if_neg (by simp), HJ.out]; exact H0.out.mono fun k hk => .inl hk)
          · have e1 : (y == x) = false := by simpa using he
            have HE := Lib.hid he
            clear he
            go_wp2
            go_roundw
            case rel => exact ⟨k + 1, by go_num, by omega, not_mem_take_succ HY.out HX.out (fun h => HE.out h.symm), by trivial⟩
            case measure => simp [intOf]; omega
        · have hk' : n = k := by omega
          subst hk'
          have hx : x ∉ l := by have := HX.out; rwa [← HN.out, List.take_length] at this
          have HJ := Lib.hid (show joined l x = l ++ [x] by unfold joined; rw [if_neg hx])
          clear hx
          go_wp2_with (at_builtin; refine wpList_app rfl (.tmp 51) (.tmp 53) rfl uSlInt infoInt rfl (by decide) (by decide) okI (.slice (some ⟨b2, o2, none⟩) n c) l rfl (base := 0) ?c1 (some ⟨wr.heap.size, 0, none⟩) 1 [x] rfl ?c2 ?c3 ?c4 ?_)
          case c1 => exact HO.out.below ((Below.refl _ _).alloc (Nat.le_refl _) _)
          case c2 => exact Sl.one okI wr x _ rfl
          case c3 => have := HN.out; simp; omega
          case c4 => exact Nat.zero_le _
          intro v1 w1 ho1 hg1 hat1
          have hu1 : Upd S wr w1 := (Upd.alloc wr _).trans (Upd.of_grown hg1 (fun k hk => (HK.out k hk).1))
          have hbx : w1.heap[b]? = some (.cells #[.int .i64 r, .int .i64 u, .int .i64 t, .slice (some ⟨b2, o2, none⟩) n c] 42 (0, 0)) := by
            have hgg := hg1.block b (by simp; omega) (by intro e; exact (HK.out b e.symm).2 rfl)
            rw [hgg]
            exact (((Below.refl wr.heap.size wr).alloc (Nat.le_refl _) _).block b hlt).trans HB.out
          have f1 : w1.frozen? ⟨b, 3, none⟩ = false := blk_frozen hbx 3
          have c1 : w1.cell? ⟨b, 3, none⟩ = some (.slice (some ⟨b2, o2, none⟩) n c) := (blk_cell hbx 3).trans rfl
          have hv1 : ∀ k, v1.ownBlock = some k → New S wr k ∧ k ≠ b := by
            intro k hk
            rcases hat1 with h | h
            · have := HK.out k (by rw [← h]; exact hk)
              exact ⟨.inl this.1, this.2⟩
            · rw [h] at hk
              injection hk with hk
              try simp at hk
              exact ⟨.inr (by omega), by omega⟩
          obtain ⟨A1, k1, rfl, hk1, hs1, hne1⟩ := ho1.slice (fun x => (okI x).1)
          clear hs1 hne1
          have hb2 := blk_set hbx 3 (.slice A1 (l ++ [x]).length k1)
          have hset : RBIs (w1.setCell ⟨b, 3, none⟩ (.slice A1 (l ++ [x]).length k1)) b (New S wr) (l ++ [x]) t r u :=
            ⟨_, hb2.trans rfl, ho1.upd (Upd.setCell (S := fun k => k = b) w1 3 _ rfl) (fun k hk => (hv1 k hk).2), .inl hs, hv1⟩
          have hus : Upd S wr (w1.setCell ⟨b, 3, none⟩ (.slice A1 (l ++ [x]).length k1)) := hu1.trans (Upd.setCell w1 3 _ hs)
          rw [List.length_append] at hset hus
          rw [← HJ.out] at hset
          have HSS := Lib.hid hset
          have HU := Lib.hid hus
          clear ho1 hg1 hat1 hu1 hbx hb2 hv1 hset hus
          go_wp2
          go_ret
          exact ⟨by rfl, by first | simpa using HSS.out | (rw [HM.out]; simpa using HSS.out), by simpa using HU.out⟩
    · go_wp2
      go_loopw [5] (fun s5 wr => ∃ k : Nat, s5 = .int .i64 k ∧ k ≤ n ∧ x ∉ l.take k ∧ wr = w) (fun s5 _ => n - (intOf s5).toNat)
      case atStart => exact ⟨0, rfl, by omega, by simp, rfl⟩
      case round =>
        obtain ⟨k, rfl, hk, hx, rfl⟩ := hrel
        have HX := Lib.hid hx
        clear hx
        have i1 : (0 : Int) ≤ k := by omega
        by_cases hlk : k < n
        · have i2 : (k : Int) < n := by omega
          obtain ⟨y, hy⟩ := getElem?_of_lt (l := l) (by have := HN.out; omega : k < l.length)
          obtain ⟨b2, o2, rfl, hb2, hc2⟩ := HS.out.at hy
          have a1 : wr.cell? ⟨b2, o2 + k, none⟩ = some (.int .i64 y) := by simpa using hc2 0 _ rfl
          have HY := Lib.hid hy
          clear hc2 hb2 hy
          by_cases he : y = x
          · have e1 : (y == x) = true := by simpa using he
            have hj : joined l x = l := by unfold joined; rw [if_pos (by rw [← he]; exact List.mem_of_getElem? HY.out)]
            have HJ := Lib.hid hj
            clear hj
            subst he
            go_wp2
            go_ret
            refine ⟨by rfl, ?_, Upd.refl _ _⟩
            first | (rw [HJ.out]; exact H0.out.mono fun k hk => .inl hk) | (rw [HM.out, if_neg (by simp), HJ.out]; exact H0.out.mono fun k hk => .inl hk)
          · have e1 : (y == x) = false := by simpa using he
            have HE := Lib.hid he
            clear he
            go_wp2
            go_roundw
            case rel => exact ⟨k + 1, by go_num, by omega, not_mem_take_succ HY.out HX.out (fun h => HE.out h.symm), by trivial⟩
            case measure => simp [intOf]; omega
        · have hk' : n = k := by omega
          subst hk'
          have hx : x ∉ l := by have := HX.out; rwa [← HN.out, List.take_length] at this
          have HJ := Lib.hid (show joined l x = l ++ [x] by unfold joined; rw [if_neg hx])
          clear hx
          go_wp2_with (at_builtin; refine wpList_app rfl (.tmp 51) (.tmp 53) rfl uSlInt infoInt rfl (by decide) (by decide) okI (.slice A n c) l rfl (base := 0) ?c1 (some ⟨wr.heap.size, 0, none⟩) 1 [x] rfl ?c2 ?c3 ?c4 ?_)
          case c1 => exact HO.out.below ((Below.refl _ _).alloc (Nat.le_refl _) _)
          case c2 => exact Sl.one okI wr x _ rfl
          case c3 => have := HN.out; simp; omega
          case c4 => exact Nat.zero_le _
          intro v1 w1 ho1 hg1 hat1
          have hu1 : Upd S wr w1 := (Upd.alloc wr _).trans (Upd.of_grown hg1 (fun k hk => (HK.out k hk).1))
          have hbx : w1.heap[b]? = some (.cells #[.int .i64 r, .int .i64 u, .int .i64 t, .slice A n c] 42 (0, 0)) := by
            have hgg := hg1.block b (by simp; omega) (by intro e; exact (HK.out b e.symm).2 rfl)
            rw [hgg]
            exact (((Below.refl wr.heap.size wr).alloc (Nat.le_refl _) _).block b hlt).trans HB.out
          have f1 : w1.frozen? ⟨b, 3, none⟩ = false := blk_frozen hbx 3
          have c1 : w1.cell? ⟨b, 3, none⟩ = some (.slice A n c) := (blk_cell hbx 3).trans rfl
          have hv1 : ∀ k, v1.ownBlock = some k → New S wr k ∧ k ≠ b := by
            intro k hk
            rcases hat1 with h | h
            · have := HK.out k (by rw [← h]; exact hk)
              exact ⟨.inl this.1, this.2⟩
            · rw [h] at hk
              injection hk with hk
              try simp at hk
              exact ⟨.inr (by omega), by omega⟩
          obtain ⟨A1, k1, rfl, hk1, hs1, hne1⟩ := ho1.slice (fun x => (okI x).1)
          clear hs1 hne1
          have hb2 := blk_set hbx 3 (.slice A1 (l ++ [x]).length k1)
          have hset : RBIs (w1.setCell ⟨b, 3, none⟩ (.slice A1 (l ++ [x]).length k1)) b (New S wr) (l ++ [x]) t r u :=
            ⟨_, hb2.trans rfl, ho1.upd (Upd.setCell (S := fun k => k = b) w1 3 _ rfl) (fun k hk => (hv1 k hk).2), .inl hs, hv1⟩
          have hus : Upd S wr (w1.setCell ⟨b, 3, none⟩ (.slice A1 (l ++ [x]).length k1)) := hu1.trans (Upd.setCell w1 3 _ hs)
          rw [List.length_append] at hset hus
          rw [← HJ.out] at hset
          have HSS := Lib.hid hset
          have HU := Lib.hid hus
          clear ho1 hg1 hat1 hu1 hbx hb2 hv1 hset hus
          go_wp2
          go_ret
          exact ⟨by rfl, by first | simpa using HSS.out | (rw [HM.out]; simpa using HSS.out), by simpa using HU.out⟩
  · have HM := Lib.hid hm
    simp only [mayL, Bool.and_eq_true, Bool.or_eq_true, decide_eq_true_eq] at hm
    obtain ⟨m1, m2⟩ := hm
    cases l with
    | nil =>
      have HS2 := Lib.hid HS.out.1
      clear m2
      go_enter Try.func54, Try.ntmps54
      go_wp2
      go_ret
      exact ⟨by rfl, H0.out.mono fun k hk => .inl hk, Upd.refl _ _⟩
    | cons y l =>
      have m3 : y = x := by rcases m2 with h | h; exact absurd h (by simp); exact h
      subst m3
      obtain ⟨b2, o2, rfl, hb2, hc2⟩ := HS.out.at (i := 0) (x := y) rfl
      have a0 : w.cell? ⟨b2, o2, none⟩ = some (.int .i64 y) := by simpa using hc2 0 _ rfl
      obtain ⟨n, hnn⟩ : ∃ n, (y :: l).length = n := ⟨_, rfl⟩
      have hnp : 0 < n := by simp at hnn; omega
      rw [hnn] at hn c3
      have i0 : (n : Int) ≤ 1099511627776 := by omega
      clear m2 hc2 hb2 hnn
      go_enter Try.func54, Try.ntmps54
      go_wp2
      go_ret
      exact ⟨by rfl, H0.out.mono fun k hk => .inl hk, Upd.refl _ _⟩
end Go.Proofs.Ytjgpcbednhoplaa.H
