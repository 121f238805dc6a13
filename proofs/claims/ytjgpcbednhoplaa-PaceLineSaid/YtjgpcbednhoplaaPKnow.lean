/- known. No conditions. -/
import Derived.Test.YtjgpcbednhoplaaPSame
import Derived.WalkSmall
namespace Go.Proofs.Ytjgpcbednhoplaa.H
open Go.RowKit Go.Deep Go.Shelf Go.Proofs Go.Proofs.YtjgpcbednhoplaaW.PrintWords
set_option linter.unusedVariables false
set_option linter.unusedSimpArgs false
set_option maxHeartbeats 3200000 in
set_option maxRecDepth 100000 in
theorem known_c (w : World) : Calls Try.prog 11 #[] w fun e w' => e = .returned (.bool true) ∧ Below w.heap.size w w' := by
  have HCK := Lib.hid (fun W => Check_c (exC 86013) (exOk _ (I64.lit (by omega) (by omega))) W)
  have HMC := Lib.hid (fun W => MemCap_c (exC 86013) (exOk _ (I64.lit (by omega) (by omega))) W)
  have HLS := Lib.hid (fun W => LimitSum_c (exC 86013) (exOk _ (I64.lit (by omega) (by omega))) W)
  have HFC := Lib.hid (fun W => FileCap_c (exC 86013) (exOk _ (I64.lit (by omega) (by omega))) W)
  have HDC := Lib.hid (fun W => DebtCap_c (exC 86013) (exOk _ (I64.lit (by omega) (by omega))) W)
  have HCK2 := Lib.hid (fun W => Check_c (exC 86012) (exOk _ (I64.lit (by omega) (by omega))) W)
  have HMC2 := Lib.hid (fun W => MemCap_c (exC 86012) (exOk _ (I64.lit (by omega) (by omega))) W)
  rw [ex1] at HCK
  rw [ex2] at HCK2
  rw [ex3] at HMC
  rw [ex4] at HLS
  rw [ex5] at HFC
  rw [ex6] at HDC
  rw [ex7] at HMC2
  unfold cfgV at *
  go_enter Try.func11, Try.ntmps11
  go_wp2_with fail
  refine (example_c _).mono ?_
  rintro e w1 ⟨rfl, hb1⟩
  unfold cfgV
  have HB1 := Lib.hid hb1
  clear hb1
  have HX2 := Lib.hid (cfgBlk (exC 86013) w1)
  have HB2 := Lib.hid (HB1.out.alloc HB1.out.size (.cells (cfgC (exC 86013)) 23))
  go_wp2_with (first | (refine wpList_store_row rfl 23 (.tmp 1) (.tmp 5) rfl w1.heap.size (cfgC (exC 86013)) (by kernel_rfl) (by kernel_rfl) 23 _ (heap_alloc_new w1 _) (iCfg _) (by kernel_rfl) (by kernel_rfl) ?_; rw [World.setRow_alloc_new]) | (refine wpList_load_rowG (by kernel_rfl) 23 (.tmp 1) rfl _ rfl _ _ _ _ HX2.out Try.underlying23 rfl (iCfg _) ?_))
  have hg := HB1.out.size
  have HG := Lib.hid hg
  clear hg
  generalize w1.alloc (.cells (cfgC (exC 86013)) 23) = w2 at *
  generalize w1.heap.size = g at *
  clear HB1
  refine (HCK.out _).mono ?_
  rintro e w3 ⟨rfl, hb3⟩
  have HB3 := Lib.hid (HB2.out.trans (hb3.mono HB2.out.size))
  have HX3 := Lib.hid ((hb3.block g (blk_lt HX2.out)).trans HX2.out)
  clear hb3
  simp only [chkV]
  go_wp2_with (refine wpList_load_rowG (by kernel_rfl) 23 (.tmp 1) rfl _ rfl _ _ _ _ HX3.out Try.underlying23 rfl (iCfg _) ?_)
  refine (HMC.out _).mono ?_
  rintro e w4 ⟨rfl, hb4⟩
  have HB4 := Lib.hid (HB3.out.trans (hb4.mono HB3.out.size))
  have HX4 := Lib.hid ((hb4.block g (blk_lt HX3.out)).trans HX3.out)
  clear hb4
  go_wp2_with (refine wpList_load_rowG (by kernel_rfl) 23 (.tmp 1) rfl _ rfl _ _ _ _ HX4.out Try.underlying23 rfl (iCfg _) ?_)
  refine (HLS.out _).mono ?_
  rintro e w5 ⟨rfl, hb5⟩
  have HB5 := Lib.hid (HB4.out.trans (hb5.mono HB4.out.size))
  have HX5 := Lib.hid ((hb5.block g (blk_lt HX4.out)).trans HX4.out)
  clear hb5
  go_wp2_with (refine wpList_load_rowG (by kernel_rfl) 23 (.tmp 1) rfl _ rfl _ _ _ _ HX5.out Try.underlying23 rfl (iCfg _) ?_)
  refine (HFC.out _).mono ?_
  rintro e w6 ⟨rfl, hb6⟩
  have HB6 := Lib.hid (HB5.out.trans (hb6.mono HB5.out.size))
  have HX6 := Lib.hid ((hb6.block g (blk_lt HX5.out)).trans HX5.out)
  clear hb6
  go_wp2_with (refine wpList_load_rowG (by kernel_rfl) 23 (.tmp 1) rfl _ rfl _ _ _ _ HX6.out Try.underlying23 rfl (iCfg _) ?_)
  refine (HDC.out _).mono ?_
  rintro e w7 ⟨rfl, hb7⟩
  have HB7 := Lib.hid (HB6.out.trans (hb7.mono HB6.out.size))
  have HX7 := Lib.hid ((hb7.block g (blk_lt HX6.out)).trans HX6.out)
  clear hb7
  have f1 : w7.frozen? ⟨g, 23, none⟩ = false := blk_frozen HX7.out 23
  have c1 : w7.cell? ⟨g, 23, none⟩ = some (.int .i64 86013) := (blk_cell HX7.out 23).trans rfl
  have HX8 := Lib.hid (show (w7.setCell ⟨g, 23, none⟩ (.int .i64 86012)).heap[g]? = some (.cells (cfgC (exC 86012)) 23 (0, 0)) from (blk_set HX7.out 23 _).trans (by kernel_rfl))
  have HB8 := Lib.hid (HB7.out.setCell (p := ⟨g, 23, none⟩) HG.out (.int .i64 86012))
  go_wp2_with (refine wpList_load_rowG (by kernel_rfl) 23 (.tmp 1) rfl _ rfl _ _ _ _ HX8.out Try.underlying23 rfl (iCfg _) ?_)
  clear f1 c1
  generalize w7.setCell ⟨g, 23, none⟩ (.int .i64 86012) = w8 at *
  refine (HCK2.out _).mono ?_
  rintro e w9 ⟨rfl, hb9⟩
  have HB9 := Lib.hid (HB8.out.trans (hb9.mono HB8.out.size))
  have HX9 := Lib.hid ((hb9.block g (blk_lt HX8.out)).trans HX8.out)
  clear hb9
  simp only [chkV]
  go_wp2_with (refine wpList_load_rowG (by kernel_rfl) 23 (.tmp 1) rfl _ rfl _ _ _ _ HX9.out Try.underlying23 rfl (iCfg _) ?_)
  refine (HMC2.out _).mono ?_
  rintro e w10 ⟨rfl, hb10⟩
  have HB10 := Lib.hid (HB9.out.trans (hb10.mono HB9.out.size))
  have HX10 := Lib.hid ((hb10.block g (blk_lt HX9.out)).trans HX9.out)
  clear hb10
  go_wp2_with fail
  refine (newBucket_c 10 25 _).mono ?_
  rintro e w11 ⟨b, rfl, hk, hb11⟩
  have HZ := Lib.hid (show w.heap.size ≤ w10.heap.size from HB10.out.size)
  have HB11 := Lib.hid (HB10.out.trans (hb11.mono HB10.out.size))
  have HS11 := Lib.hid hb11.size
  have HK11 := Lib.hid (show BuckIs w11 b (fun k => w10.heap.size ≤ k) [] 25 10 25 from hk.mono (fun k h => by rcases h with h | h; exact h.elim; exact h))
  clear hk hb11 HX10
  go_wp2_with fail
  refine (tokens_c _ _ _ _ _ _ _ HK11.out).mono ?_
  rintro e w' ⟨rfl, rfl⟩
  go_wp2_with fail
  refine (may_c _ _ _ _ _ _ 7 _ HK11.out (by simp)).mono ?_
  rw [show mayL [] 25 7 = true from by decide, if_pos rfl]
  rintro e w12 ⟨rfl, hk, hu⟩
  have HB12 := Lib.hid (Upd.below HB11.out hu (fun k h => Nat.le_trans HZ.out h))
  have HS12 := Lib.hid (Nat.le_trans HS11.out hu.size)
  have HK12 := Lib.hid (hk.mono (T := fun k => w10.heap.size ≤ k) (fun k h => by rcases h with h | h; exact h; exact Nat.le_trans HS11.out h))
  clear hk hu
  go_wp2_with fail
  refine (take_c _ _ _ _ _ _ 7 40 _ HK12.out (I64.lit (by omega) (by omega)) (I64.lit (by omega) (by omega))).mono ?_
  rw [show List.erase ([] : List Int) 7 = [] from rfl, show tookL 25 40 = -15 from by decide]
  rintro e w13 ⟨rfl, hk, hu⟩
  have HB13 := Lib.hid (Upd.below HB12.out hu (fun k h => Nat.le_trans HZ.out h))
  have HS13 := Lib.hid (Nat.le_trans HS12.out hu.size)
  have HK13 := Lib.hid hk
  clear hk hu
  go_wp2_with fail
  refine (tokens_c _ _ _ _ _ _ _ HK13.out).mono ?_
  rintro e w' ⟨rfl, rfl⟩
  go_wp2_with fail
  refine (may_c _ _ _ _ _ _ 8 _ HK13.out (by simp)).mono ?_
  rw [show mayL [] (-15) 8 = false from by decide, if_neg (by simp), show joined [] 8 = [8] from by simp [joined]]
  rintro e w14 ⟨rfl, hk, hu⟩
  have HB14 := Lib.hid (Upd.below HB13.out hu (fun k h => Nat.le_trans HZ.out h))
  have HS14 := Lib.hid (Nat.le_trans HS13.out hu.size)
  have HK14 := Lib.hid (hk.mono (T := fun k => w10.heap.size ≤ k) (fun k h => by rcases h with h | h; exact h; exact Nat.le_trans HS13.out h))
  clear hk hu
  go_wp2_with fail
  refine (may_c _ _ _ _ _ _ 7 _ HK14.out (by simp)).mono ?_
  rw [show mayL [8] (-15) 7 = false from by decide, if_neg (by simp), show joined [8] 7 = [8, 7] from by simp [joined]]
  rintro e w15 ⟨rfl, hk, hu⟩
  have HB15 := Lib.hid (Upd.below HB14.out hu (fun k h => Nat.le_trans HZ.out h))
  have HS15 := Lib.hid (Nat.le_trans HS14.out hu.size)
  have HK15 := Lib.hid (hk.mono (T := fun k => w10.heap.size ≤ k) (fun k h => by rcases h with h | h; exact h; exact Nat.le_trans HS14.out h))
  clear hk hu
  go_wp2_with fail
  refine (bline_c _ _ _ _ _ _ _ HK15.out (by simp)).mono ?_
  rintro e w16 ⟨v, rfl, ho, hb16⟩
  obtain ⟨A, c, rfl, hlc, hs, hne⟩ := ho.slice (fun x => (okI x).1)
  have HB16 := Lib.hid (HB15.out.trans (hb16.mono HB15.out.size))
  have HSL := Lib.hid hs
  clear ho hlc hs hne hb16
  go_wp2_with fail
  have e1 := sameInts_c A c [8, 7] (some ⟨w16.heap.size, 0, none⟩) 2 [8, 7] (w16.alloc (.cells #[.int .i64 8, .int .i64 7] 3)) (HSL.out.later ((Below.refl _ _).alloc (Nat.le_refl _) _)) (Sl.of_block (l := [8, 7]) (enc := encI) (fun _ => rfl) (heap_alloc_new w16 _) (by rfl) (by simp))
  rw [show decide (([8, 7] : List Int) = [8, 7]) = true from by decide] at e1
  refine e1.mono ?_
  rintro e w17 ⟨rfl, n, rfl⟩
  have HB17 := Lib.hid (below_drewN (HB16.out.alloc HB16.out.size (.cells #[.int .i64 8, .int .i64 7] 3)) n)
  clear e1
  go_wp2
  go_ret
  exact ⟨by rfl, HB17.out⟩
end Go.Proofs.Ytjgpcbednhoplaa.H
