/- PaceSums, PaceChecks, PaceCaps: the walks (printed by genlaws1.py). Conditions: the numbers are ints. -/
import Derived.Test.YtjgpcbednhoplaaPRead
namespace Go.Proofs.Ytjgpcbednhoplaa.H
open Go.RowKit Go.Deep Go.Shelf Go.Proofs Go.Proofs.YtjgpcbednhoplaaW.PrintWords
set_option linter.unusedVariables false
set_option linter.unusedSimpArgs false
theorem sadd_comm (a b : Int) : sadd a b = sadd b a := by unfold sadd; rw [Int.add_comm]
theorem smul_comm (a b : Int) : smul a b = smul b a := by unfold smul; rw [Int.mul_comm]
set_option maxHeartbeats 1600000 in
set_option maxRecDepth 100000 in
theorem paceSums_c (a b : Int) (ha : I64 a) (hb : I64 b) (w : World) : Calls Try.prog 8 #[.int .i64 a, .int .i64 b] w fun e w' => e = .returned (.bool true) ∧ Below w.heap.size w w' := by
  have HA := Lib.hid ha
  have HB := Lib.hid hb
  have HSB := Lib.hid (sadd_comm b a)
  have HMB := Lib.hid (smul_comm b a)
  clear ha hb
  go_enter Try.func8, Try.ntmps8
  go_wp2_with fail
  refine (known_c _).mono ?_
  rintro e w1 ⟨rfl, hb1⟩
  have HB1 := Lib.hid hb1
  clear hb1
  go_wp2_with fail
  refine (addX_c _ _ HA.out HB.out _).mono ?_
  rintro e w' ⟨rfl, rfl⟩
  go_wp2_with fail
  refine (addR_c _ _ HA.out HB.out _).mono ?_
  rintro e w' ⟨rfl, rfl⟩
  go_wp2_with fail
  refine (mulX_c _ _ HA.out HB.out _).mono ?_
  rintro e w' ⟨rfl, rfl⟩
  go_wp2_with fail
  refine (mulR_c _ _ HA.out HB.out _).mono ?_
  rintro e w' ⟨rfl, rfl⟩
  go_wp2_with fail
  refine (addX_c _ _ HB.out HA.out _).mono ?_
  rw [HSB.out]
  rintro e w' ⟨rfl, rfl⟩
  go_wp2_with fail
  refine (addX_c _ _ HA.out HB.out _).mono ?_
  rintro e w' ⟨rfl, rfl⟩
  go_wp2_with fail
  refine (mulX_c _ _ HB.out HA.out _).mono ?_
  rw [HMB.out]
  rintro e w' ⟨rfl, rfl⟩
  go_wp2_with fail
  refine (mulX_c _ _ HA.out HB.out _).mono ?_
  rintro e w' ⟨rfl, rfl⟩
  go_wp2
  go_ret
  exact ⟨by rfl, HB1.out⟩
set_option maxHeartbeats 1600000 in
set_option maxRecDepth 100000 in
theorem paceChecks_c (c : Cfg) (hc : CfgOk c) (w : World) : Calls Try.prog 3 #[cfgV c] w fun e w' => e = .returned (.bool true) ∧ Below w.heap.size w w' := by
  have HSP := Lib.hid (fun W => Check_c c hc W)
  have HSR := Lib.hid (fun W => CheckR_c c hc W)
  rw [firstBad_eq] at HSR
  have HBX := Lib.hid (cfgBlk c w)
  have HBA := Lib.hid ((Below.refl w.heap.size w).alloc (Nat.le_refl _) (.cells (cfgC c) 23))
  have HSZ := Lib.hid (World.size_alloc w (.cells (cfgC c) 23))
  clear hc
  unfold cfgV at *
  go_enter Try.func3, Try.ntmps3
  go_wp2_with fail
  generalize w.alloc (.cells (cfgC c) 23) = wa at *
  refine (known_c _).mono ?_
  rintro e w1 ⟨rfl, hb1⟩
  have HB1 := Lib.hid (HBA.out.trans (hb1.mono HBA.out.size))
  have HX1 := Lib.hid ((hb1.block w.heap.size (by rw [HSZ.out]; omega)).trans HBX.out)
  clear hb1
  go_wp2_with (refine wpList_load_row rfl 23 (.tmp 1) rfl _ rfl _ _ _ _ HX1.out Try.underlying23 rfl (iCfg c) ?_)
  refine (HSP.out _).mono ?_
  rintro e w2 ⟨rfl, hb2⟩
  have HB2 := Lib.hid (HB1.out.trans (hb2.mono HB1.out.size))
  have HX2 := Lib.hid ((hb2.block w.heap.size (blk_lt HX1.out)).trans HX1.out)
  clear hb2
  obtain ⟨i, j, hv⟩ : ∃ i j : Int, chkV (firstBad 0 (spansL c)) = .tuple #[.int .i64 i, .int .i64 j] := by cases firstBad 0 (spansL c) <;> exact ⟨_, _, rfl⟩
  have HV := Lib.hid hv
  rw [hv]
  clear hv
  go_wp2_with (refine wpList_load_row rfl 23 (.tmp 1) rfl _ rfl _ _ _ _ HX2.out Try.underlying23 rfl (iCfg c) ?_)
  refine (HSR.out _).mono ?_
  rintro e w3 ⟨rfl, hb3⟩
  have HB3 := Lib.hid (HB2.out.trans (hb3.mono HB2.out.size))
  clear hb3
  rw [HV.out]
  go_wp2
  go_ret
  exact ⟨by rfl, HB3.out⟩
set_option maxHeartbeats 3200000 in
set_option maxRecDepth 100000 in
theorem paceCaps_c (c : Cfg) (hc : CfgOk c) (lv : Int) (hlv : I64 lv) (w : World) : Calls Try.prog 7 #[cfgV c, .int .i64 lv] w fun e w' => e = .returned (.bool true) ∧ Below w.heap.size w w' := by
  have HBX := Lib.hid (cfgBlk c w)
  have HBA := Lib.hid ((Below.refl w.heap.size w).alloc (Nat.le_refl _) (.cells (cfgC c) 23))
  have HSZ := Lib.hid (World.size_alloc w (.cells (cfgC c) 23))
  unfold cfgV at *
  go_enter Try.func7, Try.ntmps7
  go_wp2_with fail
  generalize w.alloc (.cells (cfgC c) 23) = wa at *
  refine (known_c _).mono ?_
  rintro e w1 ⟨rfl, hb1⟩
  have HB1 := Lib.hid (HBA.out.trans (hb1.mono HBA.out.size))
  have HX1 := Lib.hid ((hb1.block w.heap.size (by rw [HSZ.out]; omega)).trans HBX.out)
  clear hb1
  go_wp2_with fail
  refine wp_region_calmB 35 (by kernel_rfl) (by kernel_rfl) ?_
  simp only [List.take_succ_cons, List.take_zero, List.drop_succ_cons, List.drop_zero]
  refine chain0 ?_
  refine @chain _ _ _ _ _ _ _ _ 9 (.agg (cfgC c)) (by rfl) (by rfl) (by exact fun W2 hW => run_row (by rfl) (by exact eval_base (by kernel_rfl) (by rfl)) HX1.out (fun W h => ldCfg c _ W h) hW) ?_
  refine @chain _ _ _ _ _ _ _ _ 10 (.int .i64 lv) (by rfl) (by rfl) (by exact fun W2 hW => run_mv (by rfl) (by exact eval_base (by kernel_rfl) (by rfl)) hW) ?_
  refine @chain _ _ _ _ _ _ _ _ 11 (.int .i64 (limitL c lv)) (by rfl) (by rfl) (by exact fun W2 hW => run_call (vs := #[.agg (cfgC c), .int .i64 lv]) (by rfl) (by kernel_rfl) (enters_of Try.func24 (by kernel_rfl) (by rfl)) (calm_b hW (Limit_c c hc lv hlv W2))) ?_
  refine @chain _ _ _ _ _ _ _ _ 12 (.agg (cfgC c)) (by rfl) (by rfl) (by exact fun W2 hW => run_row (by rfl) (by exact eval_base (by kernel_rfl) (by rfl)) HX1.out (fun W h => ldCfg c _ W h) hW) ?_
  refine @chain _ _ _ _ _ _ _ _ 13 (.int .i64 lv) (by rfl) (by rfl) (by exact fun W2 hW => run_mv (by rfl) (by exact eval_base (by kernel_rfl) (by rfl)) hW) ?_
  refine @chain _ _ _ _ _ _ _ _ 14 (.int .i64 (limitL c lv)) (by rfl) (by rfl) (by exact fun W2 hW => run_call (vs := #[.agg (cfgC c), .int .i64 lv]) (by rfl) (by kernel_rfl) (enters_of Try.func25 (by kernel_rfl) (by rfl)) (calm_b hW (LimitR_c c hc lv hlv W2))) ?_
  refine @chain _ _ _ _ _ _ _ _ 15 (.bool true) (by rfl) (by rfl) (by exact fun W2 hW => run_bo (u := .int .i64 (limitL c lv)) (v := .int .i64 (limitL c lv)) (by rfl) (by exact eval_look (by kernel_rfl) (by kernel_rfl)) (by exact eval_look (by kernel_rfl) (by kernel_rfl)) (fun W => by go_simp) hW) ?_
  refine @chain _ _ _ _ _ _ _ _ 16 (.bool true) (by rfl) (by rfl) (by exact fun W2 hW => run_mv (by rfl) (by exact eval_look (by kernel_rfl) (by kernel_rfl)) hW) ?_
  refine @chainG _ _ _ _ _ _ _ _ 17 (.agg (cfgC c)) (by kernel_rfl) (by rfl) (by exact fun W2 hW => run_row (by rfl) (by exact eval_base (by kernel_rfl) (by rfl)) HX1.out (fun W h => ldCfg c _ W h) hW) ?_
  refine @chainG _ _ _ _ _ _ _ _ 18 (.int .i64 (limitSumL c)) (by kernel_rfl) (by rfl) (by exact fun W2 hW => run_call (vs := #[.agg (cfgC c)]) (by rfl) (by kernel_rfl) (enters_of Try.func26 (by kernel_rfl) (by rfl)) (calm_b hW (LimitSum_c c hc W2))) ?_
  refine @chainG _ _ _ _ _ _ _ _ 19 (.agg (cfgC c)) (by kernel_rfl) (by rfl) (by exact fun W2 hW => run_row (by rfl) (by exact eval_base (by kernel_rfl) (by rfl)) HX1.out (fun W h => ldCfg c _ W h) hW) ?_
  refine @chainG _ _ _ _ _ _ _ _ 20 (.int .i64 (limitSumL c)) (by kernel_rfl) (by rfl) (by exact fun W2 hW => run_call (vs := #[.agg (cfgC c)]) (by rfl) (by kernel_rfl) (enters_of Try.func27 (by kernel_rfl) (by rfl)) (calm_b hW (LimitSumR_c c hc W2))) ?_
  refine @chainG _ _ _ _ _ _ _ _ 21 (.bool true) (by kernel_rfl) (by rfl) (by exact fun W2 hW => run_bo (u := .int .i64 (limitSumL c)) (v := .int .i64 (limitSumL c)) (by rfl) (by exact eval_look (by kernel_rfl) (by kernel_rfl)) (by exact eval_look (by kernel_rfl) (by kernel_rfl)) (fun W => by go_simp) hW) ?_
  refine @chain _ _ _ _ _ _ _ _ 22 (.bool true) (by rfl) (by rfl) (by exact fun W2 hW => run_pkT (by rfl) (by exact eval_look (by kernel_rfl) (by kernel_rfl)) (by exact eval_look (by kernel_rfl) (by kernel_rfl)) hW) ?_
  refine @chain _ _ _ _ _ _ _ _ 23 (.bool true) (by rfl) (by rfl) (by exact fun W2 hW => run_mv (by rfl) (by exact eval_look (by kernel_rfl) (by kernel_rfl)) hW) ?_
  refine @chainG _ _ _ _ _ _ _ _ 24 (.agg (cfgC c)) (by kernel_rfl) (by rfl) (by exact fun W2 hW => run_row (by rfl) (by exact eval_base (by kernel_rfl) (by rfl)) HX1.out (fun W h => ldCfg c _ W h) hW) ?_
  refine @chainG _ _ _ _ _ _ _ _ 25 (.int .i64 (memCapR c)) (by kernel_rfl) (by rfl) (by exact fun W2 hW => run_call (vs := #[.agg (cfgC c)]) (by rfl) (by kernel_rfl) (enters_of Try.func28 (by kernel_rfl) (by rfl)) (calm_b hW (MemCap_c c hc W2))) ?_
  refine @chainG _ _ _ _ _ _ _ _ 26 (.agg (cfgC c)) (by kernel_rfl) (by rfl) (by exact fun W2 hW => run_row (by rfl) (by exact eval_base (by kernel_rfl) (by rfl)) HX1.out (fun W h => ldCfg c _ W h) hW) ?_
  refine @chainG _ _ _ _ _ _ _ _ 27 (.int .i64 (memCapR c)) (by kernel_rfl) (by rfl) (by exact fun W2 hW => run_call (vs := #[.agg (cfgC c)]) (by rfl) (by kernel_rfl) (enters_of Try.func29 (by kernel_rfl) (by rfl)) (calm_b hW (MemCapR_c c hc W2))) ?_
  refine @chainG _ _ _ _ _ _ _ _ 28 (.bool true) (by kernel_rfl) (by rfl) (by exact fun W2 hW => run_bo (u := .int .i64 (memCapR c)) (v := .int .i64 (memCapR c)) (by rfl) (by exact eval_look (by kernel_rfl) (by kernel_rfl)) (by exact eval_look (by kernel_rfl) (by kernel_rfl)) (fun W => by go_simp) hW) ?_
  refine @chain _ _ _ _ _ _ _ _ 29 (.bool true) (by rfl) (by rfl) (by exact fun W2 hW => run_pkT (by rfl) (by exact eval_look (by kernel_rfl) (by kernel_rfl)) (by exact eval_look (by kernel_rfl) (by kernel_rfl)) hW) ?_
  refine @chain _ _ _ _ _ _ _ _ 30 (.bool true) (by rfl) (by rfl) (by exact fun W2 hW => run_mv (by rfl) (by exact eval_look (by kernel_rfl) (by kernel_rfl)) hW) ?_
  refine @chainG _ _ _ _ _ _ _ _ 31 (.agg (cfgC c)) (by kernel_rfl) (by rfl) (by exact fun W2 hW => run_row (by rfl) (by exact eval_base (by kernel_rfl) (by rfl)) HX1.out (fun W h => ldCfg c _ W h) hW) ?_
  refine @chainG _ _ _ _ _ _ _ _ 32 (.int .i64 (fileCapR c)) (by kernel_rfl) (by rfl) (by exact fun W2 hW => run_call (vs := #[.agg (cfgC c)]) (by rfl) (by kernel_rfl) (enters_of Try.func30 (by kernel_rfl) (by rfl)) (calm_b hW (FileCap_c c hc W2))) ?_
  refine @chainG _ _ _ _ _ _ _ _ 33 (.agg (cfgC c)) (by kernel_rfl) (by rfl) (by exact fun W2 hW => run_row (by rfl) (by exact eval_base (by kernel_rfl) (by rfl)) HX1.out (fun W h => ldCfg c _ W h) hW) ?_
  refine @chainG _ _ _ _ _ _ _ _ 34 (.int .i64 (fileCapR c)) (by kernel_rfl) (by rfl) (by exact fun W2 hW => run_call (vs := #[.agg (cfgC c)]) (by rfl) (by kernel_rfl) (enters_of Try.func31 (by kernel_rfl) (by rfl)) (calm_b hW (FileCapR_c c hc W2))) ?_
  refine @chainG _ _ _ _ _ _ _ _ 35 (.bool true) (by kernel_rfl) (by rfl) (by exact fun W2 hW => run_bo (u := .int .i64 (fileCapR c)) (v := .int .i64 (fileCapR c)) (by rfl) (by exact eval_look (by kernel_rfl) (by kernel_rfl)) (by exact eval_look (by kernel_rfl) (by kernel_rfl)) (fun W => by go_simp) hW) ?_
  refine @chain _ _ _ _ _ _ _ _ 36 (.bool true) (by rfl) (by rfl) (by exact fun W2 hW => run_pkT (by rfl) (by exact eval_look (by kernel_rfl) (by kernel_rfl)) (by exact eval_look (by kernel_rfl) (by kernel_rfl)) hW) ?_
  refine @chain _ _ _ _ _ _ _ _ 37 (.bool true) (by rfl) (by rfl) (by exact fun W2 hW => run_mv (by rfl) (by exact eval_look (by kernel_rfl) (by kernel_rfl)) hW) ?_
  refine @chainG _ _ _ _ _ _ _ _ 38 (.agg (cfgC c)) (by kernel_rfl) (by rfl) (by exact fun W2 hW => run_row (by rfl) (by exact eval_base (by kernel_rfl) (by rfl)) HX1.out (fun W h => ldCfg c _ W h) hW) ?_
  refine @chainG _ _ _ _ _ _ _ _ 39 (.int .i64 (debtCapR c)) (by kernel_rfl) (by rfl) (by exact fun W2 hW => run_call (vs := #[.agg (cfgC c)]) (by rfl) (by kernel_rfl) (enters_of Try.func32 (by kernel_rfl) (by rfl)) (calm_b hW (DebtCap_c c hc W2))) ?_
  refine @chainG _ _ _ _ _ _ _ _ 40 (.agg (cfgC c)) (by kernel_rfl) (by rfl) (by exact fun W2 hW => run_row (by rfl) (by exact eval_base (by kernel_rfl) (by rfl)) HX1.out (fun W h => ldCfg c _ W h) hW) ?_
  refine @chainG _ _ _ _ _ _ _ _ 41 (.int .i64 (debtCapR c)) (by kernel_rfl) (by rfl) (by exact fun W2 hW => run_call (vs := #[.agg (cfgC c)]) (by rfl) (by kernel_rfl) (enters_of Try.func33 (by kernel_rfl) (by rfl)) (calm_b hW (DebtCapR_c c hc W2))) ?_
  refine @chainG _ _ _ _ _ _ _ _ 42 (.bool true) (by kernel_rfl) (by rfl) (by exact fun W2 hW => run_bo (u := .int .i64 (debtCapR c)) (v := .int .i64 (debtCapR c)) (by rfl) (by exact eval_look (by kernel_rfl) (by kernel_rfl)) (by exact eval_look (by kernel_rfl) (by kernel_rfl)) (fun W => by go_simp) hW) ?_
  refine @chain _ _ _ _ _ _ _ _ 43 (.bool true) (by rfl) (by rfl) (by exact fun W2 hW => run_pkT (by rfl) (by exact eval_look (by kernel_rfl) (by kernel_rfl)) (by exact eval_look (by kernel_rfl) (by kernel_rfl)) hW) ?_
  refine calm_nil (fun W2 hW2 => ?_)
  refine Eq.mpr (congrArg (fun a => wpList _ _ _ _ a W2) (show _ = (⟨#[.agg (cfgC c), .int .i64 lv, .pointer (some ⟨w.heap.size, 0, none⟩), undef, .bool false, .bool true, .bool true, .bool true, .bool false, .agg (cfgC c), .int .i64 lv, .int .i64 (limitL c lv), .agg (cfgC c), .int .i64 lv, .int .i64 (limitL c lv), .bool true, .bool true, .agg (cfgC c), .int .i64 (limitSumL c), .agg (cfgC c), .int .i64 (limitSumL c), .bool true, .bool true, .bool true, .agg (cfgC c), .int .i64 (memCapR c), .agg (cfgC c), .int .i64 (memCapR c), .bool true, .bool true, .bool true, .agg (cfgC c), .int .i64 (fileCapR c), .agg (cfgC c), .int .i64 (fileCapR c), .bool true, .bool true, .bool true, .agg (cfgC c), .int .i64 (debtCapR c), .agg (cfgC c), .int .i64 (debtCapR c), .bool true, .bool true], []⟩ : Act) by kernel_rfl)) ?_
  have HW := Lib.hid hW2
  clear hW2
  go_wp2
  go_ret
  exact ⟨by rfl, HB1.out.trans (HW.out.mono HB1.out.size)⟩
end Go.Proofs.Ytjgpcbednhoplaa.H
