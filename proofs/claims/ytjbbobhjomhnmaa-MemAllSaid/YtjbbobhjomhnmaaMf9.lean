/- The law's pair of memtables (screelaw6): plays (printed by genmf8.py). Conditions: sizes. -/
import Derived.Test.YtjbbobhjomhnmaaMf8
namespace Go.Proofs.Ytjbbobhjomhnmaa.H
open Go Go.RowKit Go.Deep Go.Shelf Go.Proofs Go.Proofs.YtjbbobhjomhnmaaW.PrintWords
set_option linter.unusedVariables false
set_option linter.unusedSimpArgs false
/-- The document's Get, by what the program's tells. -/
theorem HP_rget {w : World} {t g m r : Nat} {S R : Nat → Prop} {draws : List Int} {M : MemV} (h : Pair6 w t g m r S R draws M) (key : ByteArray) (q : Int) (W : World) (hW : Below w.heap.size w W) :
    Calls Try.prog 97 #[.pointer (some ⟨m, 0, none⟩), .string key, .int .u64 q] W fun e w' => e = .returned (.tuple #[.agg (encE (getM M.L key q).1).toArray, .bool (getM M.L key q).2]) ∧ Below W.heap.size W w' := by
  obtain ⟨P, Q, hL, h1, h2, _, _⟩ := pure_split h.sorted (key, q, false, ⟨#[]⟩)
  have hr := (h.later hW).rt
  unfold getM
  rw [hL] at hr ⊢
  rw [allE_append] at hr
  rw [notAhead_split h1 h2]
  exact refGet6_c hr key q h1 h2
set_option maxHeartbeats 12800000 in
set_option maxRecDepth 100000 in
theorem plays6_c {w : World} {t g m r : Nat} {S R : Nat → Prop} {draws : List Int} {M : MemV} (h : Pair6 w t g m r S R draws M) (kd : Int) (sc : Bool) (q : Int) (key : ByteArray) (A : Option Addr) (c : Nat) (l : List Wri) (n : Int) (hs : Sl encW 3 w A l) (hA : l ≠ [] → ∀ b p, A = some ⟨b, p, none⟩ → ¬ ((S b ∨ b = t) ∨ (R b ∨ b = m)))
    (hok : ∀ x ∈ l, x.1.size ≤ 140737488351232 ∧ x.2.2.size ≤ 140737488351232) (hat : 0 ≤ q ∧ q ≤ 18446744073709551615) (hl : M.L.length ≤ 50000) (hL : l.length ≤ 50000) :
    Calls Try.prog 48 #[.agg #[.pointer (some ⟨t, 0, none⟩), .pointer (some ⟨m, 0, none⟩)], .agg #[.int .i64 kd, .bool sc, .int .u64 q, .string key, .slice A l.length c, .int .i64 n]] w fun en w' => en = .returned (.bool true) ∧ Upd (fun k => (S k ∨ k = t) ∨ (R k ∨ k = m)) w w' ∧ ∃ S' R' M', Grow S S' w ∧ Grow R R' w ∧ Pair6 w' t g m r S' R' draws M' ∧ M'.L.length ≤ M.L.length + l.length := by
  obtain ⟨w2, hw2⟩ : ∃ Z, (w.alloc (.cells #[.pointer (some ⟨t, 0, none⟩), .pointer (some ⟨m, 0, none⟩)] 105)).alloc (.cells #[.int .i64 kd, .bool sc, .int .u64 q, .string key, .slice A l.length c, .int .i64 n] 108) = Z := ⟨_, rfl⟩
  have hb2 : Below w.heap.size w w2 := by rw [← hw2]; exact ((Below.refl _ _).alloc (Nat.le_refl _) _).alloc (by simp) _
  have q1 : w2.heap[w.heap.size]? = some (.cells #[.pointer (some ⟨t, 0, none⟩), .pointer (some ⟨m, 0, none⟩)] 105 (0, 0)) := by rw [← hw2]; exact blk_alloc (heap_alloc_new _ _) _
  have q2 : w2.heap[w.heap.size + 1]? = some (.cells #[.int .i64 kd, .bool sc, .int .u64 q, .string key, .slice A l.length c, .int .i64 n] 108 (0, 0)) := by rw [← hw2]; simpa using heap_alloc_new (w.alloc (.cells #[.pointer (some ⟨t, 0, none⟩), .pointer (some ⟨m, 0, none⟩)] 105)) (.cells #[.int .i64 kd, .bool sc, .int .u64 q, .string key, .slice A l.length c, .int .i64 n] 108)
  have a0 : w2.cell? ⟨w.heap.size, 0, none⟩ = some (.pointer (some ⟨t, 0, none⟩)) := (blk_cell q1 0).trans rfl
  have a1 : w2.cell? ⟨w.heap.size, 1, none⟩ = some (.pointer (some ⟨m, 0, none⟩)) := (blk_cell q1 1).trans rfl
  have b0 : w2.cell? ⟨w.heap.size + 1, 0, none⟩ = some (.int .i64 kd) := (blk_cell q2 0).trans rfl
  have HP2 := Lib.hid (h.later hb2)
  have HML := Lib.hid hl
  have HNT := Lib.hid (show t < w.heap.size from blk_lt h.mt.row)
  have HFIN := Lib.hid (show ∀ W, Below w2.heap.size w2 W → Upd (fun k => (S k ∨ k = t) ∨ (R k ∨ k = m)) w W ∧ ∃ S' R' M', Grow S S' w ∧ Grow R R' w ∧ Pair6 W t g m r S' R' draws M' ∧ M'.L.length ≤ M.L.length + l.length from fun W hW =>
    ⟨Upd.of_below (hb2.trans (hW.mono hb2.size)), S, R, M, Grow.refl _ _, Grow.refl _ _, (h.later hb2).later hW, by omega⟩)
  have HAD := Lib.hid (adds6_c (h.later hb2) ⟨kd, sc, q, key, A, c, l, n⟩ (hs.later hb2) hA hok hat hl hL)
  have HB2 := Lib.hid hb2
  have Q1 := Lib.hid q1
  have Q2 := Lib.hid q2
  have D0 := Lib.hid a0
  have D1 := Lib.hid a1
  have E2 := Lib.hid (show w2.cell? ⟨w.heap.size + 1, 2, none⟩ = some (.int .u64 q) from (blk_cell q2 2).trans rfl)
  have E3 := Lib.hid (show w2.cell? ⟨w.heap.size + 1, 3, none⟩ = some (.string key) from (blk_cell q2 3).trans rfl)
  have E5 := Lib.hid (show w2.cell? ⟨w.heap.size + 1, 5, none⟩ = some (.int .i64 n) from (blk_cell q2 5).trans rfl)
  have HLW := Lib.hid (show M.L.length ≤ 100000 by omega)
  clear h hs hA hok hat hl hL hb2 q1 q2
  go_enter Try.func48, Try.ntmps48
  by_cases h1 : kd = 1
  · subst h1
    have b1 : w2.cell? ⟨w.heap.size + 1, 1, none⟩ = some (.bool sc) := (blk_cell Q2.out 1).trans rfl
    have b2 := E2.out
    have b3 := E3.out
    have b4 : w2.cell? ⟨w.heap.size + 1, 4, none⟩ = some (.slice A l.length c) := (blk_cell Q2.out 4).trans rfl
    have b5 := E5.out
    have HAD2 := Lib.hid (show Calls Try.prog 96 #[.agg #[.pointer (some ⟨t, 0, none⟩), .pointer (some ⟨m, 0, none⟩)], .agg #[.int .i64 1, .bool sc, .int .u64 q, .string key, .slice A l.length c, .int .i64 n]] w2 fun en w' => en = .returned (.bool true) ∧ Upd (fun k => (S k ∨ k = t) ∨ (R k ∨ k = m)) w2 w' ∧ ∃ S' R', Grow S S' w2 ∧ Grow R R' w2 ∧ Pair6 w' t g m r S' R' draws (addM draws M q l) from HAD.out)
    clear HAD
    go_wp2_with fail
    refine HAD2.out.mono ?_
    rintro _ w3 ⟨rfl, hu, S', R', hg1, hg2, hp⟩
    have HU := Lib.hid hu
    have HG1 := Lib.hid hg1
    have HG2 := Lib.hid hg2
    have HPP := Lib.hid hp
    clear hu hg1 hg2 hp
    go_wp2
    go_ret
    exact ⟨rfl, (Upd.of_below HB2.out).trans HU.out, S', R', _, fun k hk => (HG1.out k hk).imp id (fun h => by have := HB2.out.size; omega), fun k hk => (HG2.out k hk).imp id (fun h => by have := HB2.out.size; omega), HPP.out, addM_len draws M q l⟩
  by_cases h2 : kd = 2
  · subst h2
    have b2 := E2.out
    have b3 := E3.out
    have hs1 := get_c HP2.out.mt key q
    have hs2 := HP_rget HP2.out key q
    obtain ⟨x, hx⟩ : ∃ x, (getM M.L key q).1 = x := ⟨_, rfl⟩
    obtain ⟨bb, hbb⟩ : ∃ x, (getM M.L key q).2 = x := ⟨_, rfl⟩
    rw [hx, hbb] at hs1
    simp only [hx, hbb] at hs2
    have HS1 := Lib.hid (show Calls Try.prog 43 #[.pointer (some ⟨t, 0, none⟩), .string key, .int .u64 q] w2 fun en w' => en = .returned (.tuple #[.agg #[.string x.1, .int .u64 x.2.1, .bool x.2.2.1, .string x.2.2.2], .bool bb]) ∧ Below w2.heap.size w2 w' from hs1)
    have HS2 := Lib.hid (show ∀ W, Below w2.heap.size w2 W → Calls Try.prog 97 #[.pointer (some ⟨m, 0, none⟩), .string key, .int .u64 q] W fun en w' => en = .returned (.tuple #[.agg #[.string x.1, .int .u64 x.2.1, .bool x.2.2.1, .string x.2.2.2], .bool bb]) ∧ Below W.heap.size W w' from hs2)
    clear hs1 hs2 hx hbb HAD
    go_wp2_with fail
    refine HS1.out.mono ?_
    rintro _ w3 ⟨rfl, hb3⟩
    obtain ⟨X, hX⟩ : ∃ Z, w3.alloc (.cells #[.string ⟨#[]⟩, .int .u64 0, .bool false, .string ⟨#[]⟩] 53) = Z := ⟨_, rfl⟩
    have rX : X.heap[w3.heap.size]? = some (.cells #[.string ⟨#[]⟩, .int .u64 0, .bool false, .string ⟨#[]⟩] 53 (0, 0)) := by rw [← hX]; exact heap_alloc_new _ _
    obtain ⟨⟨xy0, xy1, xy2, xy3⟩, xg0, xg1, xg2, xg3⟩ := cells4 rX
    obtain ⟨Xa, hXa⟩ : ∃ Z4, (((X.setCell ⟨w3.heap.size, 0, none⟩ (.string x.1)).setCell ⟨w3.heap.size, 1, none⟩ (.int .u64 x.2.1)).setCell ⟨w3.heap.size, 2, none⟩ (.bool x.2.2.1)).setCell ⟨w3.heap.size, 3, none⟩ (.string x.2.2.2) = Z4 := ⟨_, rfl⟩
    have qX : Xa.heap[w3.heap.size]? = some (.cells #[.string x.1, .int .u64 x.2.1, .bool x.2.2.1, .string x.2.2.2] 53 (0, 0)) := by rw [← hXa]; exact put4_heap rX
    have bX : Below w3.heap.size w3 Xa := by
      rw [← hXa, ← hX]
      exact ((Below.refl _ _).alloc (Nat.le_refl _) _).trans ((put4_upd (S := fun k => k = w3.heap.size) _ _ _ _ _ rfl).bel (fun k hk => by omega) (by simp))
    have BX := Lib.hid bX
    have QX := Lib.hid qX
    clear bX qX rX
    have HBX := Lib.hid (hb3.trans (BX.out.mono hb3.size))
    have a1' := cell_later HBX.out D1.out
    have b2' := cell_later HBX.out b2
    have b3' := cell_later HBX.out b3
    clear hb3 a0 a1 b0 b2 b3 hw2
    go_wp2_with fail
    refine (HS2.out Xa HBX.out).mono ?_
    rintro _ w4 ⟨rfl, hb4⟩
    obtain ⟨Y, hY⟩ : ∃ Z, w4.alloc (.cells #[.string ⟨#[]⟩, .int .u64 0, .bool false, .string ⟨#[]⟩] 53) = Z := ⟨_, rfl⟩
    have rY : Y.heap[w4.heap.size]? = some (.cells #[.string ⟨#[]⟩, .int .u64 0, .bool false, .string ⟨#[]⟩] 53 (0, 0)) := by rw [← hY]; exact heap_alloc_new _ _
    obtain ⟨⟨yy0, yy1, yy2, yy3⟩, yg0, yg1, yg2, yg3⟩ := cells4 rY
    obtain ⟨Ya, hYa⟩ : ∃ Z4, (((Y.setCell ⟨w4.heap.size, 0, none⟩ (.string x.1)).setCell ⟨w4.heap.size, 1, none⟩ (.int .u64 x.2.1)).setCell ⟨w4.heap.size, 2, none⟩ (.bool x.2.2.1)).setCell ⟨w4.heap.size, 3, none⟩ (.string x.2.2.2) = Z4 := ⟨_, rfl⟩
    have qY : Ya.heap[w4.heap.size]? = some (.cells #[.string x.1, .int .u64 x.2.1, .bool x.2.2.1, .string x.2.2.2] 53 (0, 0)) := by rw [← hYa]; exact put4_heap rY
    have bY : Below w4.heap.size w4 Ya := by
      rw [← hYa, ← hY]
      exact ((Below.refl _ _).alloc (Nat.le_refl _) _).trans ((put4_upd (S := fun k => k = w4.heap.size) _ _ _ _ _ rfl).bel (fun k hk => by omega) (by simp))
    have BY := Lib.hid bY
    have QY := Lib.hid qY
    clear bY qY rY
    have HBY2 := Lib.hid (hb4.trans (BY.out.mono hb4.size))
    obtain ⟨⟨x0, x1, x2, x3⟩, _⟩ := cells4 (blk_below QX.out HBY2.out)
    obtain ⟨⟨y0, y1, y2, y3⟩, _⟩ := cells4 QY.out
    clear hb4 a1' b2' b3'
    go_wp2
    go_ret
    exact ⟨by first | rfl | simp, HFIN.out _ (HBX.out.trans (HBY2.out.mono HBX.out.size))⟩
  by_cases h3 : kd = 3
  · subst h3
    have hit := HP_from HP2.out key q
    have hrf := HP_rfrom HP2.out HLW.out key q
    have hql := fromT_len key q (allE M.L)
    rw [allE_len] at hql
    obtain ⟨Q, hQ⟩ : ∃ Q, fromT key q (allE M.L) = Q := ⟨_, rfl⟩
    simp only [hQ] at hit hrf hql
    have HIT := Lib.hid hit
    have HRF := Lib.hid hrf
    have HQL := Lib.hid (show Q.length < 2932031007319 by have := HLW.out; omega)
    clear hit hrf hql hQ a0 a1 HAD
    go_wp2_with fail
    try rw [hw2]
    refine wp_region_step (WkR w2) leW leW_refl leW_trans [] [0, 0, 0, 0, 0, 0, 2, 0, 0, 0, 0, 0, 0, 2, 0, 0, 1] [.pointer (some ⟨w.heap.size, 0, none⟩), .pointer (some ⟨t, 0, none⟩), .pointer (some ⟨w.heap.size + 1, 3, none⟩), .string key, .pointer (some ⟨w.heap.size + 1, 2, none⟩), .int .u64 q, undef, .pointer (some ⟨w.heap.size, 1, none⟩), .pointer (some ⟨m, 0, none⟩), .pointer (some ⟨w.heap.size + 1, 3, none⟩), .string key, .pointer (some ⟨w.heap.size + 1, 2, none⟩), .int .u64 q, undef, .pointer (some ⟨w.heap.size + 1, 5, none⟩), .int .i64 n, undef] 17 (by kernel_rfl) (by kernel_rfl) ⟨(Below.refl _ _).drew, fun p hp => by cases hp⟩ ?_
    simp only [List.take_succ_cons, List.take_zero, List.drop_succ_cons, List.drop_zero]
    refine schain0 ?_
    refine @schain _ _ _ _ _ _ _ _ _ _ _ _ _ _ 48 (.pointer (some ⟨w.heap.size, 0, none⟩)) (by rfl) (by rfl) (by kernel_rfl) (by rfl) (by exact fun s' W2 hW => srun_fa (p := .pointer (some ⟨w.heap.size, 0, none⟩)) (by rfl) (by exact eval_base (by kernel_rfl) (by rfl)) (fun W => by first | kernel_rfl | go_simp) hW) ?_
    refine @schain _ _ _ _ _ _ _ _ _ _ _ _ _ _ 49 (.pointer (some ⟨t, 0, none⟩)) (by rfl) (by rfl) (by kernel_rfl) (by rfl) (by exact fun s' W2 hW => srun_ld (by rfl) (by exact eval_look (by kernel_rfl) (by kernel_rfl)) (ldTp _ _ _ _ (cell_later hW.1 D0.out)) hW) ?_
    refine @schain _ _ _ _ _ _ _ _ _ _ _ _ _ _ 50 (.pointer (some ⟨w.heap.size + 1, 3, none⟩)) (by rfl) (by rfl) (by kernel_rfl) (by rfl) (by exact fun s' W2 hW => srun_fa (p := .pointer (some ⟨w.heap.size + 1, 0, none⟩)) (by rfl) (by exact eval_base (by kernel_rfl) (by rfl)) (fun W => by first | kernel_rfl | go_simp) hW) ?_
    refine @schain _ _ _ _ _ _ _ _ _ _ _ _ _ _ 51 (.string key) (by rfl) (by rfl) (by kernel_rfl) (by rfl) (by exact fun s' W2 hW => srun_ld (by rfl) (by exact eval_look (by kernel_rfl) (by kernel_rfl)) (ldStr _ _ _ _ (cell_later hW.1 E3.out)) hW) ?_
    refine @schain _ _ _ _ _ _ _ _ _ _ _ _ _ _ 52 (.pointer (some ⟨w.heap.size + 1, 2, none⟩)) (by rfl) (by rfl) (by kernel_rfl) (by rfl) (by exact fun s' W2 hW => srun_fa (p := .pointer (some ⟨w.heap.size + 1, 0, none⟩)) (by rfl) (by exact eval_base (by kernel_rfl) (by rfl)) (fun W => by first | kernel_rfl | go_simp) hW) ?_
    refine @schain _ _ _ _ _ _ _ _ _ _ _ _ _ _ 53 (.int .u64 q) (by rfl) (by rfl) (by kernel_rfl) (by rfl) (by exact fun s' W2 hW => srun_ld (by rfl) (by exact eval_look (by kernel_rfl) (by kernel_rfl)) (ldU _ _ _ _ (cell_later hW.1 E2.out)) hW) ?_
    refine @schainT _ _ _ _ _ _ _ _ _ _ _ _ _ _ 54 (fun v s' => s' = WF.it v Q :: []) (by rfl) (by kernel_rfl) (by rfl) (⟨.nilFunc, _, rfl⟩) (fun _ _ h => by subst h; exact fun p hp => List.mem_cons_of_mem _ hp) (by exact fun W2 hW => srun_callT (vs := #[.pointer (some ⟨t, 0, none⟩), .string key, .int .u64 q]) (by rfl) (by kernel_rfl) (enters_of Try.func44 (by kernel_rfl) (by rfl)) (wk_it hW (HIT.out W2 hW.1))) (fun fi s' hx => ?_)
    obtain rfl := hx
    refine @schain _ _ _ _ _ _ _ _ _ _ _ _ _ _ 55 (.pointer (some ⟨w.heap.size, 1, none⟩)) (by rfl) (by rfl) (by kernel_rfl) (by rfl) (by exact fun s' W2 hW => srun_fa (p := .pointer (some ⟨w.heap.size, 0, none⟩)) (by rfl) (by exact eval_base (by kernel_rfl) (by rfl)) (fun W => by first | kernel_rfl | go_simp) hW) ?_
    refine @schain _ _ _ _ _ _ _ _ _ _ _ _ _ _ 56 (.pointer (some ⟨m, 0, none⟩)) (by rfl) (by rfl) (by kernel_rfl) (by rfl) (by exact fun s' W2 hW => srun_ld (by rfl) (by exact eval_look (by kernel_rfl) (by kernel_rfl)) (ldRt _ _ _ _ (cell_later hW.1 D1.out)) hW) ?_
    refine @schain _ _ _ _ _ _ _ _ _ _ _ _ _ _ 57 (.pointer (some ⟨w.heap.size + 1, 3, none⟩)) (by rfl) (by rfl) (by kernel_rfl) (by rfl) (by exact fun s' W2 hW => srun_fa (p := .pointer (some ⟨w.heap.size + 1, 0, none⟩)) (by rfl) (by exact eval_base (by kernel_rfl) (by rfl)) (fun W => by first | kernel_rfl | go_simp) hW) ?_
    refine @schain _ _ _ _ _ _ _ _ _ _ _ _ _ _ 58 (.string key) (by rfl) (by rfl) (by kernel_rfl) (by rfl) (by exact fun s' W2 hW => srun_ld (by rfl) (by exact eval_look (by kernel_rfl) (by kernel_rfl)) (ldStr _ _ _ _ (cell_later hW.1 E3.out)) hW) ?_
    refine @schain _ _ _ _ _ _ _ _ _ _ _ _ _ _ 59 (.pointer (some ⟨w.heap.size + 1, 2, none⟩)) (by rfl) (by rfl) (by kernel_rfl) (by rfl) (by exact fun s' W2 hW => srun_fa (p := .pointer (some ⟨w.heap.size + 1, 0, none⟩)) (by rfl) (by exact eval_base (by kernel_rfl) (by rfl)) (fun W => by first | kernel_rfl | go_simp) hW) ?_
    refine @schain _ _ _ _ _ _ _ _ _ _ _ _ _ _ 60 (.int .u64 q) (by rfl) (by rfl) (by kernel_rfl) (by rfl) (by exact fun s' W2 hW => srun_ld (by rfl) (by exact eval_look (by kernel_rfl) (by kernel_rfl)) (ldU _ _ _ _ (cell_later hW.1 E2.out)) hW) ?_
    refine @schainT _ _ _ _ _ _ _ _ _ _ _ _ _ _ 61 (fun v s' => ∃ A c, v = .slice A (List.length Q) c ∧ s' = WF.sl A c Q :: [WF.it fi Q]) (by rfl) (by kernel_rfl) (by rfl) (⟨.slice none (List.length Q) 0, _, none, 0, rfl, rfl⟩) (fun _ _ h => by obtain ⟨A, c, _, rfl⟩ := h; exact fun p hp => List.mem_cons_of_mem _ hp) (by exact fun W2 hW => srun_callT (vs := #[.pointer (some ⟨m, 0, none⟩), .string key, .int .u64 q]) (by rfl) (by kernel_rfl) (enters_of Try.func99 (by kernel_rfl) (by rfl)) (wk_sl hW (HRF.out W2 hW.1))) (fun x s' hx => ?_)
    obtain ⟨A29, c29, rfl, rfl⟩ := hx
    refine @schain _ _ _ _ _ _ _ _ _ _ _ _ _ _ 62 (.pointer (some ⟨w.heap.size + 1, 5, none⟩)) (by rfl) (by rfl) (by kernel_rfl) (by rfl) (by exact fun s' W2 hW => srun_fa (p := .pointer (some ⟨w.heap.size + 1, 0, none⟩)) (by rfl) (by exact eval_base (by kernel_rfl) (by rfl)) (fun W => by first | kernel_rfl | go_simp) hW) ?_
    refine @schain _ _ _ _ _ _ _ _ _ _ _ _ _ _ 63 (.int .i64 n) (by rfl) (by rfl) (by kernel_rfl) (by rfl) (by exact fun s' W2 hW => srun_ld (by rfl) (by exact eval_look (by kernel_rfl) (by kernel_rfl)) (ldI _ _ _ _ (cell_later hW.1 E5.out)) hW) ?_
    refine @schain1 _ _ _ _ _ _ _ _ _ _ _ _ _ _ 64 (.bool true) (by rfl) (by kernel_rfl) (by rfl) (by exact fun s' hs9 W2 hW => srun_call (vs := #[fi, .slice A29 (List.length Q) c29, .int .i64 n]) (by rfl) (by kernel_rfl) (enters_of Try.func98 (by kernel_rfl) (by rfl)) (wk_walk hs9 hW (by simp) (by simp) (HQL.out))) ?_
    refine snil (fun W2 hW2 => ?_)
    refine Eq.mpr (congrArg (fun a => wpList _ _ _ _ a W2) (show _ = (⟨#[Value.agg #[Value.pointer (some ⟨t, 0, none⟩), Value.pointer (some ⟨m, 0, none⟩)], Value.agg #[Value.int IntKind.i64 3, Value.bool sc, Value.int IntKind.u64 q, Value.string key, Value.slice A l.length c, Value.int IntKind.i64 n], Value.pointer (some ⟨w.heap.size, 0, none⟩), Value.pointer (some ⟨w.heap.size + 1, 0, none⟩), Value.bool false, undef, undef, undef, undef, Value.pointer (some ⟨w.heap.size + 1, 0, none⟩), Value.int IntKind.i64 3, Value.bool false, Value.bool false, undef, undef, undef, Value.bool false, Value.bool false, undef, undef, undef, undef, undef, undef, undef, undef, undef, undef, undef, undef, undef, undef, undef, undef, undef, undef, undef, undef, undef, undef, undef, undef, undef, undef, undef, undef, Value.bool true, Value.bool true, Value.pointer (some ⟨w.heap.size, 0, none⟩), Value.pointer (some ⟨t, 0, none⟩), Value.pointer (some ⟨w.heap.size + 1, 3, none⟩), Value.string key, Value.pointer (some ⟨w.heap.size + 1, 2, none⟩), Value.int IntKind.u64 q, fi, Value.pointer (some ⟨w.heap.size, 1, none⟩), Value.pointer (some ⟨m, 0, none⟩), Value.pointer (some ⟨w.heap.size + 1, 3, none⟩), Value.string key, Value.pointer (some ⟨w.heap.size + 1, 2, none⟩), Value.int IntKind.u64 q, Value.slice A29 Q.length c29, Value.pointer (some ⟨w.heap.size + 1, 5, none⟩), Value.int IntKind.i64 n, Value.bool true, undef, undef, undef, undef, undef, undef, undef, undef, undef, undef, undef, undef, undef, undef, undef, undef, undef, undef, undef, undef, undef, undef, undef, undef, undef, undef, undef, undef, undef, undef, undef, undef, undef, undef, undef, undef, undef, undef, undef, undef, undef, undef, undef, undef, undef, undef], []⟩ : Act) by kernel_rfl)) ?_
    have HW := Lib.hid hW2.1
    clear hW2
    go_wp2
    go_ret
    exact ⟨rfl, HFIN.out _ HW.out⟩
  by_cases h4 : kd = 4
  · subst h4
    have hit := HP_all HP2.out HLW.out
    have hrf := HP_rall HP2.out HLW.out
    have hql := allE_len M.L
    obtain ⟨Q, hQ⟩ : ∃ Q, allE M.L = Q := ⟨_, rfl⟩
    simp only [hQ] at hit hrf hql
    have HIT := Lib.hid hit
    have HRF := Lib.hid hrf
    have HQL := Lib.hid (show Q.length < 2932031007319 by have := HLW.out; omega)
    clear hit hrf hql hQ a0 a1 HAD
    go_wp2_with fail
    try rw [hw2]
    refine wp_region_step (WkR w2) leW leW_refl leW_trans [] [0, 0, 2, 0, 0, 2, 0, 0, 1] [.pointer (some ⟨w.heap.size, 0, none⟩), .pointer (some ⟨t, 0, none⟩), undef, .pointer (some ⟨w.heap.size, 1, none⟩), .pointer (some ⟨m, 0, none⟩), undef, .pointer (some ⟨w.heap.size + 1, 5, none⟩), .int .i64 n, undef] 9 (by kernel_rfl) (by kernel_rfl) ⟨(Below.refl _ _).drew, fun p hp => by cases hp⟩ ?_
    simp only [List.take_succ_cons, List.take_zero, List.drop_succ_cons, List.drop_zero]
    refine schain0 ?_
    refine @schain _ _ _ _ _ _ _ _ _ _ _ _ _ _ 67 (.pointer (some ⟨w.heap.size, 0, none⟩)) (by rfl) (by rfl) (by kernel_rfl) (by rfl) (by exact fun s' W2 hW => srun_fa (p := .pointer (some ⟨w.heap.size, 0, none⟩)) (by rfl) (by exact eval_base (by kernel_rfl) (by rfl)) (fun W => by first | kernel_rfl | go_simp) hW) ?_
    refine @schain _ _ _ _ _ _ _ _ _ _ _ _ _ _ 68 (.pointer (some ⟨t, 0, none⟩)) (by rfl) (by rfl) (by kernel_rfl) (by rfl) (by exact fun s' W2 hW => srun_ld (by rfl) (by exact eval_look (by kernel_rfl) (by kernel_rfl)) (ldTp _ _ _ _ (cell_later hW.1 D0.out)) hW) ?_
    refine @schainT _ _ _ _ _ _ _ _ _ _ _ _ _ _ 69 (fun v s' => s' = WF.it v Q :: []) (by rfl) (by kernel_rfl) (by rfl) (⟨.nilFunc, _, rfl⟩) (fun _ _ h => by subst h; exact fun p hp => List.mem_cons_of_mem _ hp) (by exact fun W2 hW => srun_callT (vs := #[.pointer (some ⟨t, 0, none⟩)]) (by rfl) (by kernel_rfl) (enters_of Try.func37 (by kernel_rfl) (by rfl)) (wk_it hW (HIT.out W2 hW.1))) (fun fi s' hx => ?_)
    obtain rfl := hx
    refine @schain _ _ _ _ _ _ _ _ _ _ _ _ _ _ 70 (.pointer (some ⟨w.heap.size, 1, none⟩)) (by rfl) (by rfl) (by kernel_rfl) (by rfl) (by exact fun s' W2 hW => srun_fa (p := .pointer (some ⟨w.heap.size, 0, none⟩)) (by rfl) (by exact eval_base (by kernel_rfl) (by rfl)) (fun W => by first | kernel_rfl | go_simp) hW) ?_
    refine @schain _ _ _ _ _ _ _ _ _ _ _ _ _ _ 71 (.pointer (some ⟨m, 0, none⟩)) (by rfl) (by rfl) (by kernel_rfl) (by rfl) (by exact fun s' W2 hW => srun_ld (by rfl) (by exact eval_look (by kernel_rfl) (by kernel_rfl)) (ldRt _ _ _ _ (cell_later hW.1 D1.out)) hW) ?_
    refine @schainT _ _ _ _ _ _ _ _ _ _ _ _ _ _ 72 (fun v s' => ∃ A c, v = .slice A (List.length Q) c ∧ s' = WF.sl A c Q :: [WF.it fi Q]) (by rfl) (by kernel_rfl) (by rfl) (⟨.slice none (List.length Q) 0, _, none, 0, rfl, rfl⟩) (fun _ _ h => by obtain ⟨A, c, _, rfl⟩ := h; exact fun p hp => List.mem_cons_of_mem _ hp) (by exact fun W2 hW => srun_callT (vs := #[.pointer (some ⟨m, 0, none⟩)]) (by rfl) (by kernel_rfl) (enters_of Try.func100 (by kernel_rfl) (by rfl)) (wk_sl hW (HRF.out W2 hW.1))) (fun x s' hx => ?_)
    obtain ⟨A29, c29, rfl, rfl⟩ := hx
    refine @schain _ _ _ _ _ _ _ _ _ _ _ _ _ _ 73 (.pointer (some ⟨w.heap.size + 1, 5, none⟩)) (by rfl) (by rfl) (by kernel_rfl) (by rfl) (by exact fun s' W2 hW => srun_fa (p := .pointer (some ⟨w.heap.size + 1, 0, none⟩)) (by rfl) (by exact eval_base (by kernel_rfl) (by rfl)) (fun W => by first | kernel_rfl | go_simp) hW) ?_
    refine @schain _ _ _ _ _ _ _ _ _ _ _ _ _ _ 74 (.int .i64 n) (by rfl) (by rfl) (by kernel_rfl) (by rfl) (by exact fun s' W2 hW => srun_ld (by rfl) (by exact eval_look (by kernel_rfl) (by kernel_rfl)) (ldI _ _ _ _ (cell_later hW.1 E5.out)) hW) ?_
    refine @schain1 _ _ _ _ _ _ _ _ _ _ _ _ _ _ 75 (.bool true) (by rfl) (by kernel_rfl) (by rfl) (by exact fun s' hs9 W2 hW => srun_call (vs := #[fi, .slice A29 (List.length Q) c29, .int .i64 n]) (by rfl) (by kernel_rfl) (enters_of Try.func98 (by kernel_rfl) (by rfl)) (wk_walk hs9 hW (by simp) (by simp) (HQL.out))) ?_
    refine snil (fun W2 hW2 => ?_)
    refine Eq.mpr (congrArg (fun a => wpList _ _ _ _ a W2) (show _ = (⟨#[Value.agg #[Value.pointer (some ⟨t, 0, none⟩), Value.pointer (some ⟨m, 0, none⟩)], Value.agg #[Value.int IntKind.i64 4, Value.bool sc, Value.int IntKind.u64 q, Value.string key, Value.slice A l.length c, Value.int IntKind.i64 n], Value.pointer (some ⟨w.heap.size, 0, none⟩), Value.pointer (some ⟨w.heap.size + 1, 0, none⟩), Value.bool false, undef, undef, undef, undef, Value.pointer (some ⟨w.heap.size + 1, 0, none⟩), Value.int IntKind.i64 4, Value.bool false, Value.bool false, undef, undef, undef, Value.bool false, Value.bool false, undef, undef, undef, undef, undef, undef, undef, undef, undef, undef, undef, undef, undef, undef, undef, undef, undef, undef, undef, undef, undef, undef, undef, undef, undef, undef, undef, undef, Value.bool false, Value.bool false, undef, undef, undef, undef, undef, undef, undef, undef, undef, undef, undef, undef, undef, undef, undef, undef, undef, Value.bool true, Value.bool true, Value.pointer (some ⟨w.heap.size, 0, none⟩), Value.pointer (some ⟨t, 0, none⟩), fi, Value.pointer (some ⟨w.heap.size, 1, none⟩), Value.pointer (some ⟨m, 0, none⟩), Value.slice A29 Q.length c29, Value.pointer (some ⟨w.heap.size + 1, 5, none⟩), Value.int IntKind.i64 n, Value.bool true, undef, undef, undef, undef, undef, undef, undef, undef, undef, undef, undef, undef, undef, undef, undef, undef, undef, undef, undef, undef, undef, undef, undef, undef, undef, undef, undef, undef, undef, undef, undef, undef, undef, undef, undef], []⟩ : Act) by kernel_rfl)) ?_
    have HW := Lib.hid hW2.1
    clear hW2
    go_wp2
    go_ret
    exact ⟨rfl, HFIN.out _ HW.out⟩
  by_cases h5 : kd = 5
  · subst h5
    have hc1 := HP_wt HP2.out
    have hc2 := fun W hW => refWeightT6_c (HP2.out.later (w' := W) hW).rt HP2.out.sum.small (by rw [allE_len]; have := HLW.out; omega)
    obtain ⟨wv, hwv⟩ : ∃ x, sumW (allE M.L) = x := ⟨_, rfl⟩
    simp only [hwv] at hc1 hc2
    have HC1 := Lib.hid hc1
    have HC2 := Lib.hid hc2
    clear hc1 hc2 hwv a0 a1 HAD
    go_wp2_with fail
    try rw [hw2]
    refine wp_region_calmB 7 (by kernel_rfl) (by kernel_rfl) ?_
    simp only [List.take_succ_cons, List.take_zero, List.drop_succ_cons, List.drop_zero]
    refine chain0 ?_
    refine @chain _ _ _ _ _ _ _ _ 78 (.pointer (some ⟨w.heap.size, 0, none⟩)) (by rfl) (by rfl) (by exact fun W2 hW => run_fa (p := .pointer (some ⟨w.heap.size, 0, none⟩)) (by rfl) (by exact eval_base (by kernel_rfl) (by rfl)) (fun W => by first | kernel_rfl | go_simp) hW) ?_
    refine @chain _ _ _ _ _ _ _ _ 79 (.pointer (some ⟨t, 0, none⟩)) (by rfl) (by rfl) (by exact fun W2 hW => run_lw (by rfl) (by exact eval_look (by kernel_rfl) (by kernel_rfl)) (fun W hW => ldTp _ _ _ _ (cell_later hW D0.out)) hW) ?_
    refine @chain _ _ _ _ _ _ _ _ 80 (.int .i64 wv) (by rfl) (by rfl) (by exact fun W2 hW => run_call (vs := #[.pointer (some ⟨t, 0, none⟩)]) (by rfl) (by kernel_rfl) (enters_of Try.func39 (by kernel_rfl) (by rfl)) (calm_q hW (HC1.out W2 hW))) ?_
    refine @chain _ _ _ _ _ _ _ _ 81 (.pointer (some ⟨w.heap.size, 1, none⟩)) (by rfl) (by rfl) (by exact fun W2 hW => run_fa (p := .pointer (some ⟨w.heap.size, 0, none⟩)) (by rfl) (by exact eval_base (by kernel_rfl) (by rfl)) (fun W => by first | kernel_rfl | go_simp) hW) ?_
    refine @chain _ _ _ _ _ _ _ _ 82 (.pointer (some ⟨m, 0, none⟩)) (by rfl) (by rfl) (by exact fun W2 hW => run_lw (by rfl) (by exact eval_look (by kernel_rfl) (by kernel_rfl)) (fun W hW => ldRt _ _ _ _ (cell_later hW D1.out)) hW) ?_
    refine @chain _ _ _ _ _ _ _ _ 83 (.int .i64 wv) (by rfl) (by rfl) (by exact fun W2 hW => run_call (vs := #[.pointer (some ⟨m, 0, none⟩)]) (by rfl) (by kernel_rfl) (enters_of Try.func101 (by kernel_rfl) (by rfl)) (calm_b hW (HC2.out W2 hW))) ?_
    refine @chain _ _ _ _ _ _ _ _ 84 (.bool true) (by rfl) (by rfl) (by exact fun W2 hW => run_bo (u := .int .i64 wv) (v := .int .i64 wv) (by rfl) (by exact eval_look (by kernel_rfl) (by kernel_rfl)) (by exact eval_look (by kernel_rfl) (by kernel_rfl)) (fun W => by first | go_simp | (cases fz <;> go_simp)) hW) ?_
    refine calm_nil (fun W2 hW2 => ?_)
    refine Eq.mpr (congrArg (fun a => wpList _ _ _ _ a W2) (show _ = (⟨#[Value.agg #[Value.pointer (some ⟨t, 0, none⟩), Value.pointer (some ⟨m, 0, none⟩)], Value.agg #[Value.int IntKind.i64 5, Value.bool sc, Value.int IntKind.u64 q, Value.string key, Value.slice A l.length c, Value.int IntKind.i64 n], Value.pointer (some ⟨w.heap.size, 0, none⟩), Value.pointer (some ⟨w.heap.size + 1, 0, none⟩), Value.bool false, undef, undef, undef, undef, Value.pointer (some ⟨w.heap.size + 1, 0, none⟩), Value.int IntKind.i64 5, Value.bool false, Value.bool false, undef, undef, undef, Value.bool false, Value.bool false, undef, undef, undef, undef, undef, undef, undef, undef, undef, undef, undef, undef, undef, undef, undef, undef, undef, undef, undef, undef, undef, undef, undef, undef, undef, undef, undef, undef, Value.bool false, Value.bool false, undef, undef, undef, undef, undef, undef, undef, undef, undef, undef, undef, undef, undef, undef, undef, undef, undef, Value.bool false, Value.bool false, undef, undef, undef, undef, undef, undef, undef, undef, undef, Value.bool true, Value.bool true, Value.pointer (some ⟨w.heap.size, 0, none⟩), Value.pointer (some ⟨t, 0, none⟩), Value.int IntKind.i64 wv, Value.pointer (some ⟨w.heap.size, 1, none⟩), Value.pointer (some ⟨m, 0, none⟩), Value.int IntKind.i64 wv, Value.bool true, undef, undef, undef, undef, undef, undef, undef, undef, undef, undef, undef, undef, undef, undef, undef, undef, undef, undef, undef, undef, undef, undef, undef, undef, undef, undef], []⟩ : Act) by kernel_rfl)) ?_
    have HW2 := Lib.hid hW2
    clear hW2
    go_wp2
    go_ret
    exact ⟨rfl, HFIN.out _ HW2.out⟩
  by_cases h6 : kd = 6
  · subst h6
    have hc1 := HP_last HP2.out
    have hc2 := fun W hW => refLastT6_c (HP2.out.later (w' := W) hW).rt HP2.out.sum.small (by rw [allE_len]; have := HLW.out; omega)
    obtain ⟨wv, hwv⟩ : ∃ x, maxQ (allE M.L) = x := ⟨_, rfl⟩
    simp only [hwv] at hc1 hc2
    have HC1 := Lib.hid hc1
    have HC2 := Lib.hid hc2
    clear hc1 hc2 hwv a0 a1 HAD
    go_wp2_with fail
    try rw [hw2]
    refine wp_region_calmB 7 (by kernel_rfl) (by kernel_rfl) ?_
    simp only [List.take_succ_cons, List.take_zero, List.drop_succ_cons, List.drop_zero]
    refine chain0 ?_
    refine @chain _ _ _ _ _ _ _ _ 87 (.pointer (some ⟨w.heap.size, 0, none⟩)) (by rfl) (by rfl) (by exact fun W2 hW => run_fa (p := .pointer (some ⟨w.heap.size, 0, none⟩)) (by rfl) (by exact eval_base (by kernel_rfl) (by rfl)) (fun W => by first | kernel_rfl | go_simp) hW) ?_
    refine @chain _ _ _ _ _ _ _ _ 88 (.pointer (some ⟨t, 0, none⟩)) (by rfl) (by rfl) (by exact fun W2 hW => run_lw (by rfl) (by exact eval_look (by kernel_rfl) (by kernel_rfl)) (fun W hW => ldTp _ _ _ _ (cell_later hW D0.out)) hW) ?_
    refine @chain _ _ _ _ _ _ _ _ 89 (.int .u64 wv) (by rfl) (by rfl) (by exact fun W2 hW => run_call (vs := #[.pointer (some ⟨t, 0, none⟩)]) (by rfl) (by kernel_rfl) (enters_of Try.func40 (by kernel_rfl) (by rfl)) (calm_q hW (HC1.out W2 hW))) ?_
    refine @chain _ _ _ _ _ _ _ _ 90 (.pointer (some ⟨w.heap.size, 1, none⟩)) (by rfl) (by rfl) (by exact fun W2 hW => run_fa (p := .pointer (some ⟨w.heap.size, 0, none⟩)) (by rfl) (by exact eval_base (by kernel_rfl) (by rfl)) (fun W => by first | kernel_rfl | go_simp) hW) ?_
    refine @chain _ _ _ _ _ _ _ _ 91 (.pointer (some ⟨m, 0, none⟩)) (by rfl) (by rfl) (by exact fun W2 hW => run_lw (by rfl) (by exact eval_look (by kernel_rfl) (by kernel_rfl)) (fun W hW => ldRt _ _ _ _ (cell_later hW D1.out)) hW) ?_
    refine @chain _ _ _ _ _ _ _ _ 92 (.int .u64 wv) (by rfl) (by rfl) (by exact fun W2 hW => run_call (vs := #[.pointer (some ⟨m, 0, none⟩)]) (by rfl) (by kernel_rfl) (enters_of Try.func102 (by kernel_rfl) (by rfl)) (calm_b hW (HC2.out W2 hW))) ?_
    refine @chain _ _ _ _ _ _ _ _ 93 (.bool true) (by rfl) (by rfl) (by exact fun W2 hW => run_bo (u := .int .u64 wv) (v := .int .u64 wv) (by rfl) (by exact eval_look (by kernel_rfl) (by kernel_rfl)) (by exact eval_look (by kernel_rfl) (by kernel_rfl)) (fun W => by first | go_simp | (cases fz <;> go_simp)) hW) ?_
    refine calm_nil (fun W2 hW2 => ?_)
    refine Eq.mpr (congrArg (fun a => wpList _ _ _ _ a W2) (show _ = (⟨#[Value.agg #[Value.pointer (some ⟨t, 0, none⟩), Value.pointer (some ⟨m, 0, none⟩)], Value.agg #[Value.int IntKind.i64 6, Value.bool sc, Value.int IntKind.u64 q, Value.string key, Value.slice A l.length c, Value.int IntKind.i64 n], Value.pointer (some ⟨w.heap.size, 0, none⟩), Value.pointer (some ⟨w.heap.size + 1, 0, none⟩), Value.bool false, undef, undef, undef, undef, Value.pointer (some ⟨w.heap.size + 1, 0, none⟩), Value.int IntKind.i64 6, Value.bool false, Value.bool false, undef, undef, undef, Value.bool false, Value.bool false, undef, undef, undef, undef, undef, undef, undef, undef, undef, undef, undef, undef, undef, undef, undef, undef, undef, undef, undef, undef, undef, undef, undef, undef, undef, undef, undef, undef, Value.bool false, Value.bool false, undef, undef, undef, undef, undef, undef, undef, undef, undef, undef, undef, undef, undef, undef, undef, undef, undef, Value.bool false, Value.bool false, undef, undef, undef, undef, undef, undef, undef, undef, undef, Value.bool false, Value.bool false, undef, undef, undef, undef, undef, undef, undef, Value.bool true, Value.bool true, Value.pointer (some ⟨w.heap.size, 0, none⟩), Value.pointer (some ⟨t, 0, none⟩), Value.int IntKind.u64 wv, Value.pointer (some ⟨w.heap.size, 1, none⟩), Value.pointer (some ⟨m, 0, none⟩), Value.int IntKind.u64 wv, Value.bool true, undef, undef, undef, undef, undef, undef, undef, undef, undef, undef, undef, undef, undef, undef, undef, undef, undef], []⟩ : Act) by kernel_rfl)) ?_
    have HW2 := Lib.hid hW2
    clear hW2
    go_wp2
    go_ret
    exact ⟨rfl, HFIN.out _ HW2.out⟩
  by_cases h7 : kd = 7
  · subst h7
    have HF1 := Lib.hid (mfreeze_c HP2.out.mt)
    clear HAD
    go_wp2_with fail
    refine HF1.out.mono ?_
    rintro _ w3 ⟨⟨v3, rfl⟩, hu3, hm3⟩
    have hnt : ∀ k, (k = w.heap.size ∨ k = w.heap.size + 1) → k ≠ t := fun k hk e => by
      have h0 := HFIN.out w2 (Below.refl _ _)
      have h1 := blk_lt HP2.out.mt.row
      have h2 := HNT.out
      omega
    have a1' : w3.cell? ⟨w.heap.size, 1, none⟩ = some (.pointer (some ⟨m, 0, none⟩)) := hu3.cell a1 (hnt _ (.inl rfl))
    have hr3 := HP2.out.rt.upd hu3 (fun k hk e => HP2.out.far t (.inr rfl) (by rw [← e]; exact hk))
    have HF2 := Lib.hid (refFreeze6_c hr3)
    have HU3 := Lib.hid hu3
    have HM3 := Lib.hid hm3
    clear hu3 hm3 hr3 hnt a0 a1
    go_wp2_with fail
    refine HF2.out.mono ?_
    rintro _ w4 ⟨⟨v4, rfl⟩, hu4, hr4⟩
    have HU4 := Lib.hid hu4
    have HR4 := Lib.hid hr4
    clear hu4 hr4
    go_wp2
    go_ret
    refine ⟨rfl, (((Upd.of_below HB2.out).step HU3.out (fun k hk => .inl (.inl (.inr hk)))).step HU4.out (fun k hk => .inl (.inr (.inr hk)))), S, R, { M with fz := true }, Grow.refl _ _, Grow.refl _ _, ⟨HM3.out.upd HU4.out (fun k hk e => HP2.out.far k (.inl hk) (.inr e)) (fun e => HP2.out.far t (.inr rfl) (.inr e)), HR4.out, HP2.out.far, ⟨HP2.out.sum.wt, HP2.out.sum.last, HP2.out.sum.small⟩⟩, by simp⟩
  by_cases h8 : kd = 8
  · subst h8
    have hc1 := fun W (hW : Below w2.heap.size w2 W) => mfrozen_c (HP2.out.later hW).mt
    have hc2 := fun W (hW : Below w2.heap.size w2 W) => refFrozen6_c (HP2.out.later hW).rt
    obtain ⟨fz, hfz⟩ : ∃ x, M.fz = x := ⟨_, rfl⟩
    simp only [hfz] at hc1 hc2
    have HC1 := Lib.hid hc1
    have HC2 := Lib.hid hc2
    clear hc1 hc2 hfz a0 a1 HAD
    go_wp2_with fail
    try rw [hw2]
    refine wp_region_calmB 7 (by kernel_rfl) (by kernel_rfl) ?_
    simp only [List.take_succ_cons, List.take_zero, List.drop_succ_cons, List.drop_zero]
    refine chain0 ?_
    refine @chain _ _ _ _ _ _ _ _ 104 (.pointer (some ⟨w.heap.size, 0, none⟩)) (by rfl) (by rfl) (by exact fun W2 hW => run_fa (p := .pointer (some ⟨w.heap.size, 0, none⟩)) (by rfl) (by exact eval_base (by kernel_rfl) (by rfl)) (fun W => by first | kernel_rfl | go_simp) hW) ?_
    refine @chain _ _ _ _ _ _ _ _ 105 (.pointer (some ⟨t, 0, none⟩)) (by rfl) (by rfl) (by exact fun W2 hW => run_lw (by rfl) (by exact eval_look (by kernel_rfl) (by kernel_rfl)) (fun W hW => ldTp _ _ _ _ (cell_later hW D0.out)) hW) ?_
    refine @chain _ _ _ _ _ _ _ _ 106 (.bool fz) (by rfl) (by rfl) (by exact fun W2 hW => run_call (vs := #[.pointer (some ⟨t, 0, none⟩)]) (by rfl) (by kernel_rfl) (enters_of Try.func53 (by kernel_rfl) (by rfl)) (calm_q hW (HC1.out W2 hW))) ?_
    refine @chain _ _ _ _ _ _ _ _ 107 (.pointer (some ⟨w.heap.size, 1, none⟩)) (by rfl) (by rfl) (by exact fun W2 hW => run_fa (p := .pointer (some ⟨w.heap.size, 0, none⟩)) (by rfl) (by exact eval_base (by kernel_rfl) (by rfl)) (fun W => by first | kernel_rfl | go_simp) hW) ?_
    refine @chain _ _ _ _ _ _ _ _ 108 (.pointer (some ⟨m, 0, none⟩)) (by rfl) (by rfl) (by exact fun W2 hW => run_lw (by rfl) (by exact eval_look (by kernel_rfl) (by kernel_rfl)) (fun W hW => ldRt _ _ _ _ (cell_later hW D1.out)) hW) ?_
    refine @chain _ _ _ _ _ _ _ _ 109 (.bool fz) (by rfl) (by rfl) (by exact fun W2 hW => run_call (vs := #[.pointer (some ⟨m, 0, none⟩)]) (by rfl) (by kernel_rfl) (enters_of Try.func104 (by kernel_rfl) (by rfl)) (calm_q hW (HC2.out W2 hW))) ?_
    refine @chain _ _ _ _ _ _ _ _ 110 (.bool true) (by rfl) (by rfl) (by exact fun W2 hW => run_bo (u := .bool fz) (v := .bool fz) (by rfl) (by exact eval_look (by kernel_rfl) (by kernel_rfl)) (by exact eval_look (by kernel_rfl) (by kernel_rfl)) (fun W => by first | go_simp | (cases fz <;> go_simp)) hW) ?_
    refine calm_nil (fun W2 hW2 => ?_)
    refine Eq.mpr (congrArg (fun a => wpList _ _ _ _ a W2) (show _ = (⟨#[Value.agg #[Value.pointer (some ⟨t, 0, none⟩), Value.pointer (some ⟨m, 0, none⟩)], Value.agg #[Value.int IntKind.i64 8, Value.bool sc, Value.int IntKind.u64 q, Value.string key, Value.slice A l.length c, Value.int IntKind.i64 n], Value.pointer (some ⟨w.heap.size, 0, none⟩), Value.pointer (some ⟨w.heap.size + 1, 0, none⟩), Value.bool false, undef, undef, undef, undef, Value.pointer (some ⟨w.heap.size + 1, 0, none⟩), Value.int IntKind.i64 8, Value.bool false, Value.bool false, undef, undef, undef, Value.bool false, Value.bool false, undef, undef, undef, undef, undef, undef, undef, undef, undef, undef, undef, undef, undef, undef, undef, undef, undef, undef, undef, undef, undef, undef, undef, undef, undef, undef, undef, undef, Value.bool false, Value.bool false, undef, undef, undef, undef, undef, undef, undef, undef, undef, undef, undef, undef, undef, undef, undef, undef, undef, Value.bool false, Value.bool false, undef, undef, undef, undef, undef, undef, undef, undef, undef, Value.bool false, Value.bool false, undef, undef, undef, undef, undef, undef, undef, Value.bool false, Value.bool false, undef, undef, undef, undef, undef, undef, undef, Value.bool false, Value.bool false, undef, undef, undef, undef, undef, undef, Value.bool true, Value.bool true, Value.pointer (some ⟨w.heap.size, 0, none⟩), Value.pointer (some ⟨t, 0, none⟩), Value.bool fz, Value.pointer (some ⟨w.heap.size, 1, none⟩), Value.pointer (some ⟨m, 0, none⟩), Value.bool fz, Value.bool true], []⟩ : Act) by kernel_rfl)) ?_
    have HW2 := Lib.hid hW2
    clear hW2
    go_wp2
    go_ret
    exact ⟨rfl, HFIN.out _ HW2.out⟩
  · clear a0 a1 HAD
    go_wp2
    go_ret
    exact ⟨rfl, HFIN.out _ (Below.refl _ _)⟩
end Go.Proofs.Ytjbbobhjomhnmaa.H
