/- The formulas of chapter 15, the reference's: the walks (printed by genform2.py). Conditions: the fields are ints. -/
import Derived.Test.YtjgpcbednhoplaaPFm2
namespace Go.Proofs.Ytjgpcbednhoplaa.H
open Go.RowKit Go.Deep Go.Shelf Go.Proofs Go.Proofs.YtjgpcbednhoplaaW.PrintWords
set_option linter.unusedVariables false
set_option linter.unusedSimpArgs false
set_option maxHeartbeats 3200000 in
set_option maxRecDepth 100000 in
theorem jobMost_c (c : Cfg) (hc : CfgOk c) (hr : rightL c = true) (w : World) : Calls Try.prog 74 #[cfgV c] w fun e w' => e = .returned (.int .i64 (fanL c)) ∧ Below w.heap.size w w' := by
  have q12 := r_Fan hr
  have p12 : 0 < c.Fan := by omega
  have n12 : NI c.Fan := ⟨by omega, by omega⟩
  have z0 : NI (c.Fan + 1) := ⟨by omega, by omega⟩
  have HE := Lib.hid (show fanL c = (smul (c.Fan + 1) (fileCapR c)) from by unfold fanL; rw [(imm_eq hr).2.2.2.1])
  clear q12
  have c12 : (w.alloc (.cells (cfgC c) 23)).cell? ⟨w.heap.size, 12, none⟩ = some (.int .i64 c.Fan) := (blk_cell (cfgBlk c w) 12).trans rfl
  have HBX := Lib.hid (cfgBlk c w)
  have HBA := Lib.hid ((Below.refl w.heap.size w).alloc (Nat.le_refl _) (.cells (cfgC c) 23))
  have HSZ := Lib.hid (World.size_alloc w (.cells (cfgC c) 23))
  unfold cfgV at *
  go_enter Try.func74, Try.ntmps74
  go_wp2_with fail
  generalize w.alloc (.cells (cfgC c) 23) = wa at *
  have HX := HBX
  have HW0 := Lib.hid (SumR.start' wa)
  refine wp_region_step (SumR wa) leL leL_refl leL_trans [] [0, 0, 0, 0, 0, 0] [.pointer (some ⟨w.heap.size, 12, none⟩), .int .i64 c.Fan, .int .i64 (c.Fan + 1), .agg (cfgC c), .int .i64 (fileCapR c), .int .i64 (smul (c.Fan + 1) (fileCapR c))] 6 (by kernel_rfl) (by kernel_rfl) (SumR.drew HW0.out) ?_
  simp only [List.take_succ_cons, List.take_zero, List.drop_succ_cons, List.drop_zero]
  refine schain0 ?_
  refine @schain _ _ _ _ _ _ _ _ _ _ _ _ _ _ 3 (.pointer (some ⟨w.heap.size, 12, none⟩)) (by rfl) (by rfl) (by kernel_rfl) (by rfl) (by exact fun s' W2 hW => srun_fa (p := .pointer (some ⟨w.heap.size, 0, none⟩)) (by rfl) (by exact eval_base (by kernel_rfl) (by rfl)) (fun W => by first | kernel_rfl | go_simp) hW) ?_
  refine @schain _ _ _ _ _ _ _ _ _ _ _ _ _ _ 4 (.int .i64 c.Fan) (by rfl) (by rfl) (by kernel_rfl) (by rfl) (by exact fun s' W2 hW => srun_ld (by rfl) (by exact eval_look (by kernel_rfl) (by kernel_rfl)) (ldInt _ _ _ _ (hW.cell c12)) hW) ?_
  refine @schain _ _ _ _ _ _ _ _ _ _ _ _ _ _ 5 (.int .i64 (c.Fan + 1)) (by rfl) (by rfl) (by kernel_rfl) (by rfl) (by exact fun s' W2 hW => srun_bo (u := .int .i64 c.Fan) (v := .int .i64 1) (by rfl) (by exact eval_look (by kernel_rfl) (by kernel_rfl)) (by rfl) (fun W => add_run _ _ _ _ _ z0 W) hW) ?_
  refine @schain _ _ _ _ _ _ _ _ _ _ _ _ _ _ 6 (.agg (cfgC c)) (by rfl) (by rfl) (by kernel_rfl) (by rfl) (by exact fun s' W2 hW => srun_ld (by rfl) (by exact eval_base (by kernel_rfl) (by rfl)) (ldCfg c _ _ (hW.row HX.out)) hW) ?_
  refine @schain _ _ _ _ _ _ _ _ _ _ _ _ _ _ 7 (.int .i64 (fileCapR c)) (by rfl) (by rfl) (by kernel_rfl) (by rfl) (by exact fun s' W2 hW => srun_call (vs := #[.agg (cfgC c)]) (by rfl) (by kernel_rfl) (enters_of Try.func31 (by kernel_rfl) (by rfl)) (scall_b hW (FileCapR_c c hc W2))) ?_
  refine @schain _ _ _ _ _ _ _ _ _ _ _ _ _ _ 8 (.int .i64 (smul (c.Fan + 1) (fileCapR c))) (by rfl) (by rfl) (by kernel_rfl) (by rfl) (by exact fun s' W2 hW => srun_call (vs := #[.int .i64 (c.Fan + 1), .int .i64 (fileCapR c)]) (by rfl) (by kernel_rfl) (enters_of Try.func37 (by kernel_rfl) (by rfl)) (scall_q hW (mulR_c _ _ (NI.i64 z0) (NI.i64 (fileCapR_NI hr)) W2))) ?_
  refine snil (fun V1 hV1 => ?_)
  refine Eq.mpr (congrArg (fun a => wpList _ _ _ _ a V1) (show _ = (⟨#[.agg (cfgC c), .pointer (some ⟨w.heap.size, 0, none⟩), .int .i64 0, .pointer (some ⟨w.heap.size, 12, none⟩), .int .i64 c.Fan, .int .i64 (c.Fan + 1), .agg (cfgC c), .int .i64 (fileCapR c), .int .i64 (smul (c.Fan + 1) (fileCapR c))], []⟩ : Act) by kernel_rfl)) ?_
  have HW1 := Lib.hid (SumR.none hV1)
  clear hV1
  clear HX
  go_wp2
  go_ret
  exact ⟨by rw [HE.out]; rfl, HBA.out.trans (HW1.out.1.mono HBA.out.size)⟩
set_option maxHeartbeats 3200000 in
set_option maxRecDepth 100000 in
theorem TFr_c (c : Cfg) (hc : CfgOk c) (x : Int) (hx : I64 x) (w : World) : Calls Try.prog 43 #[cfgV c, .int .i64 x] w fun e w' => e = .returned (.int .i64 (iR c (tfL c (abv x)))) ∧ Below w.heap.size w w' := by
  have c16 : (w.alloc (.cells (cfgC c) 23)).cell? ⟨w.heap.size, 16, none⟩ = some (.int .i64 c.MaxChunk) := (blk_cell (cfgBlk c w) 16).trans rfl
  have HBX := Lib.hid (cfgBlk c w)
  have HBA := Lib.hid ((Below.refl w.heap.size w).alloc (Nat.le_refl _) (.cells (cfgC c) 23))
  have HSZ := Lib.hid (World.size_alloc w (.cells (cfgC c) 23))
  unfold cfgV at *
  go_enter Try.func43, Try.ntmps43
  go_wp2_with (refine wpList_load_row rfl 23 (.tmp 2) rfl _ rfl _ _ _ _ HBX.out Try.underlying23 rfl (iCfg c) ?_)
  generalize w.alloc (.cells (cfgC c) 23) = wa at *
  refine (rightR_c c hc _).mono ?_
  rintro e w1 ⟨rfl, hb1⟩
  have HB1 := Lib.hid (HBA.out.trans (hb1.mono HBA.out.size))
  have HX := HBX
  have HW0 := Lib.hid ((SumR.start' wa).later hb1)
  clear hb1
  rcases hr : rightL c with _ | _
  · have HE := Lib.hid (iR_neg hr (tfL c (abv x)))
    clear hr
    go_wp2
    go_ret
    exact ⟨by rw [HE.out]; rfl, HB1.out⟩
  · skip
    have q16 := r_MaxChunk hr
    have p16 : 0 < c.MaxChunk := by omega
    have n16 : NI c.MaxChunk := ⟨by omega, by omega⟩
    have b1 := div_bd2 (abv_NI hx).1 (y := c.MaxChunk) (by omega)
    have b2 := (abv_NI hx).2
    have z0 : NI (((abv x) / c.MaxChunk) + 2) := ⟨by omega, by omega⟩
    have HE := Lib.hid ((iR_pos hr (tfL c (abv x))).trans (show tfL c (abv x) = (sadd (smul 2 (((abv x) / c.MaxChunk) + 2)) 16) from tf_eq hr (abv_NI hx)))
    clear q16
    go_wp2_with fail
    refine wp_region_step (SumR wa) leL leL_refl leL_trans [] [0, 0, 0, 0, 0, 0, 0, 0] [.int .i64 x, .int .i64 (abv x), .pointer (some ⟨w.heap.size, 16, none⟩), .int .i64 c.MaxChunk, .int .i64 ((abv x) / c.MaxChunk), .int .i64 (((abv x) / c.MaxChunk) + 2), .int .i64 (smul 2 (((abv x) / c.MaxChunk) + 2)), .int .i64 (sadd (smul 2 (((abv x) / c.MaxChunk) + 2)) 16)] 8 (by kernel_rfl) (by kernel_rfl) (SumR.drew HW0.out) ?_
    simp only [List.take_succ_cons, List.take_zero, List.drop_succ_cons, List.drop_zero]
    refine schain0 ?_
    refine @schain _ _ _ _ _ _ _ _ _ _ _ _ _ _ 8 (.int .i64 x) (by rfl) (by rfl) (by kernel_rfl) (by rfl) (by exact fun s' W2 hW => srun_mv (by rfl) (by exact eval_base (by kernel_rfl) (by rfl)) hW) ?_
    refine @schain _ _ _ _ _ _ _ _ _ _ _ _ _ _ 9 (.int .i64 (abv x)) (by rfl) (by rfl) (by kernel_rfl) (by rfl) (by exact fun s' W2 hW => srun_call (vs := #[.int .i64 x]) (by rfl) (by kernel_rfl) (enters_of Try.func52 (by kernel_rfl) (by rfl)) (scall_q hW (above_c _ W2))) ?_
    refine @schain _ _ _ _ _ _ _ _ _ _ _ _ _ _ 10 (.pointer (some ⟨w.heap.size, 16, none⟩)) (by rfl) (by rfl) (by kernel_rfl) (by rfl) (by exact fun s' W2 hW => srun_fa (p := .pointer (some ⟨w.heap.size, 0, none⟩)) (by rfl) (by exact eval_base (by kernel_rfl) (by rfl)) (fun W => by first | kernel_rfl | go_simp) hW) ?_
    refine @schain _ _ _ _ _ _ _ _ _ _ _ _ _ _ 11 (.int .i64 c.MaxChunk) (by rfl) (by rfl) (by kernel_rfl) (by rfl) (by exact fun s' W2 hW => srun_ld (by rfl) (by exact eval_look (by kernel_rfl) (by kernel_rfl)) (ldInt _ _ _ _ (hW.cell c16)) hW) ?_
    refine @schain _ _ _ _ _ _ _ _ _ _ _ _ _ _ 12 (.int .i64 ((abv x) / c.MaxChunk)) (by rfl) (by rfl) (by kernel_rfl) (by rfl) (by exact fun s' W2 hW => srun_bo (u := .int .i64 (abv x)) (v := .int .i64 c.MaxChunk) (by rfl) (by exact eval_look (by kernel_rfl) (by kernel_rfl)) (by exact eval_look (by kernel_rfl) (by kernel_rfl)) (fun W => quo_run _ _ _ _ _ (abv_NI hx) (p16) W) hW) ?_
    refine @schain _ _ _ _ _ _ _ _ _ _ _ _ _ _ 13 (.int .i64 (((abv x) / c.MaxChunk) + 2)) (by rfl) (by rfl) (by kernel_rfl) (by rfl) (by exact fun s' W2 hW => srun_bo (u := .int .i64 ((abv x) / c.MaxChunk)) (v := .int .i64 2) (by rfl) (by exact eval_look (by kernel_rfl) (by kernel_rfl)) (by rfl) (fun W => add_run _ _ _ _ _ z0 W) hW) ?_
    refine @schain _ _ _ _ _ _ _ _ _ _ _ _ _ _ 14 (.int .i64 (smul 2 (((abv x) / c.MaxChunk) + 2))) (by rfl) (by rfl) (by kernel_rfl) (by rfl) (by exact fun s' W2 hW => srun_call (vs := #[.int .i64 2, .int .i64 (((abv x) / c.MaxChunk) + 2)]) (by rfl) (by kernel_rfl) (enters_of Try.func37 (by kernel_rfl) (by rfl)) (scall_q hW (mulR_c _ _ (I64.lit (by omega) (by omega)) (NI.i64 z0) W2))) ?_
    refine @schain _ _ _ _ _ _ _ _ _ _ _ _ _ _ 15 (.int .i64 (sadd (smul 2 (((abv x) / c.MaxChunk) + 2)) 16)) (by rfl) (by rfl) (by kernel_rfl) (by rfl) (by exact fun s' W2 hW => srun_call (vs := #[.int .i64 (smul 2 (((abv x) / c.MaxChunk) + 2)), .int .i64 16]) (by rfl) (by kernel_rfl) (enters_of Try.func35 (by kernel_rfl) (by rfl)) (scall_q hW (addR_c _ _ (smul_I64 _ _) (I64.lit (by omega) (by omega)) W2))) ?_
    refine snil (fun V1 hV1 => ?_)
    refine Eq.mpr (congrArg (fun a => wpList _ _ _ _ a V1) (show _ = (⟨#[.agg (cfgC c), .int .i64 x, .pointer (some ⟨w.heap.size, 0, none⟩), undef, .int .i64 0, .agg (cfgC c), .bool true, .bool false, .int .i64 x, .int .i64 (abv x), .pointer (some ⟨w.heap.size, 16, none⟩), .int .i64 c.MaxChunk, .int .i64 ((abv x) / c.MaxChunk), .int .i64 (((abv x) / c.MaxChunk) + 2), .int .i64 (smul 2 (((abv x) / c.MaxChunk) + 2)), .int .i64 (sadd (smul 2 (((abv x) / c.MaxChunk) + 2)) 16)], []⟩ : Act) by kernel_rfl)) ?_
    have HW1 := Lib.hid (SumR.none hV1)
    clear hV1
    clear HX
    go_wp2
    go_ret
    exact ⟨by rw [HE.out]; rfl, HBA.out.trans (HW1.out.1.mono HBA.out.size)⟩
set_option maxHeartbeats 3200000 in
set_option maxRecDepth 100000 in
theorem TCr_c (c : Cfg) (hc : CfgOk c) (x : Int) (hx : I64 x) (w : World) : Calls Try.prog 44 #[cfgV c, .int .i64 x] w fun e w' => e = .returned (.int .i64 (iR c (tcL c (abv x)))) ∧ Below w.heap.size w w' := by
  have c2 : (w.alloc (.cells (cfgC c) 23)).cell? ⟨w.heap.size, 2, none⟩ = some (.int .i64 c.Compactors) := (blk_cell (cfgBlk c w) 2).trans rfl
  have c16 : (w.alloc (.cells (cfgC c) 23)).cell? ⟨w.heap.size, 16, none⟩ = some (.int .i64 c.MaxChunk) := (blk_cell (cfgBlk c w) 16).trans rfl
  have c17 : (w.alloc (.cells (cfgC c) 23)).cell? ⟨w.heap.size, 17, none⟩ = some (.int .i64 c.Rate) := (blk_cell (cfgBlk c w) 17).trans rfl
  have c11 : (w.alloc (.cells (cfgC c) 23)).cell? ⟨w.heap.size, 11, none⟩ = some (.int .i64 c.FileBytes) := (blk_cell (cfgBlk c w) 11).trans rfl
  have HBX := Lib.hid (cfgBlk c w)
  have HBA := Lib.hid ((Below.refl w.heap.size w).alloc (Nat.le_refl _) (.cells (cfgC c) 23))
  have HSZ := Lib.hid (World.size_alloc w (.cells (cfgC c) 23))
  unfold cfgV at *
  go_enter Try.func44, Try.ntmps44
  go_wp2_with (refine wpList_load_row rfl 23 (.tmp 2) rfl _ rfl _ _ _ _ HBX.out Try.underlying23 rfl (iCfg c) ?_)
  generalize w.alloc (.cells (cfgC c) 23) = wa at *
  refine (rightR_c c hc _).mono ?_
  rintro e w1 ⟨rfl, hb1⟩
  have HB1 := Lib.hid (HBA.out.trans (hb1.mono HBA.out.size))
  have HX := HBX
  have HW0 := Lib.hid ((SumR.start' wa).later hb1)
  clear hb1
  rcases hr : rightL c with _ | _
  · have HE := Lib.hid (iR_neg hr (tcL c (abv x)))
    clear hr
    go_wp2
    go_ret
    exact ⟨by rw [HE.out]; rfl, HB1.out⟩
  · skip
    have q2 := r_Compactors hr
    have p2 : 0 < c.Compactors := by omega
    have n2 : NI c.Compactors := ⟨by omega, by omega⟩
    have q16 := r_MaxChunk hr
    have p16 : 0 < c.MaxChunk := by omega
    have n16 : NI c.MaxChunk := ⟨by omega, by omega⟩
    have q17 := r_Rate hr
    have p17 : 0 < c.Rate := by omega
    have n17 : NI c.Rate := ⟨by omega, by omega⟩
    have q11 := r_FileBytes hr
    have p11 : 0 < c.FileBytes := by omega
    have n11 : NI c.FileBytes := ⟨by omega, by omega⟩
    have b1 := div_bd (x := c.MaxChunk) (y := c.Rate) (by omega) (by omega)
    have z0 : NI ((c.MaxChunk / c.Rate) + 3) := ⟨by omega, by omega⟩
    have HE := Lib.hid ((iR_pos hr (tcL c (abv x))).trans (show tcL c (abv x) = (sadd (sadd (sadd (sadd ((abv x) / c.MaxChunk) 2) (smul (sadd (sadd ((abv x) / c.MaxChunk) ((abv x) / c.FileBytes)) 3) (smul c.Compactors ((c.MaxChunk / c.Rate) + 3)))) (smul 2 (sadd ((abv x) / c.FileBytes) 3))) 16) from by unfold tcL; rw [g_eq hr]))
    clear q2
    clear q16
    clear q17
    clear q11
    go_wp2_with (refine stopAt 12 rfl ?_)
    refine ⟨wpList_stepK (SumR wa) leL leL_refl [] [0, 0] [undef, .int .i64 (abv x)] 1 1 (by rfl) HW0.out ?_⟩
    simp only [List.take_succ_cons, List.take_zero, List.drop_succ_cons, List.drop_zero]
    refine schain0 ?_
    refine @schain _ _ _ _ _ _ _ _ _ _ _ _ _ _ 12 (.int .i64 (abv x)) (by rfl) (by rfl) (by kernel_rfl) (by rfl) (by exact fun s' W2 hW => srun_call (vs := #[.int .i64 x]) (by rfl) (by kernel_rfl) (enters_of Try.func52 (by kernel_rfl) (by rfl)) (scall_q hW (above_c _ W2))) ?_
    refine snil (fun V1 hV1 => ?_)
    refine Eq.mpr (congrArg (fun a => wpList _ _ _ _ a V1) (show _ = (⟨#[.agg (cfgC c), .int .i64 x, .pointer (some ⟨w.heap.size, 0, none⟩), undef, .int .i64 0, undef, undef, undef, .agg (cfgC c), .bool true, .bool false, .int .i64 x, .int .i64 (abv x), undef, undef, undef, undef, undef, undef, undef, undef, undef, undef, undef, undef, undef, undef, undef, undef, undef, undef, undef, undef, undef, undef, undef, undef, undef, undef, undef, undef, undef], []⟩ : Act) by kernel_rfl)) ?_
    have HW1 := Lib.hid (SumR.none hV1)
    clear hV1
    go_wp2_with fail
    refine wp_region_step (SumR wa) leL leL_refl leL_trans [] [0, 0, 0, 0, 0, 0, 0, 0, 0] [.pointer (some ⟨w.heap.size, 2, none⟩), .int .i64 c.Compactors, .pointer (some ⟨w.heap.size, 16, none⟩), .int .i64 c.MaxChunk, .pointer (some ⟨w.heap.size, 17, none⟩), .int .i64 c.Rate, .int .i64 (c.MaxChunk / c.Rate), .int .i64 ((c.MaxChunk / c.Rate) + 3), .int .i64 (smul c.Compactors ((c.MaxChunk / c.Rate) + 3))] 9 (by kernel_rfl) (by kernel_rfl) (SumR.drew HW1.out) ?_
    simp only [List.take_succ_cons, List.take_zero, List.drop_succ_cons, List.drop_zero]
    refine schain0 ?_
    refine @schain _ _ _ _ _ _ _ _ _ _ _ _ _ _ 13 (.pointer (some ⟨w.heap.size, 2, none⟩)) (by rfl) (by rfl) (by kernel_rfl) (by rfl) (by exact fun s' W2 hW => srun_fa (p := .pointer (some ⟨w.heap.size, 0, none⟩)) (by rfl) (by exact eval_base (by kernel_rfl) (by rfl)) (fun W => by first | kernel_rfl | go_simp) hW) ?_
    refine @schain _ _ _ _ _ _ _ _ _ _ _ _ _ _ 14 (.int .i64 c.Compactors) (by rfl) (by rfl) (by kernel_rfl) (by rfl) (by exact fun s' W2 hW => srun_ld (by rfl) (by exact eval_look (by kernel_rfl) (by kernel_rfl)) (ldInt _ _ _ _ (hW.cell c2)) hW) ?_
    refine @schain _ _ _ _ _ _ _ _ _ _ _ _ _ _ 15 (.pointer (some ⟨w.heap.size, 16, none⟩)) (by rfl) (by rfl) (by kernel_rfl) (by rfl) (by exact fun s' W2 hW => srun_fa (p := .pointer (some ⟨w.heap.size, 0, none⟩)) (by rfl) (by exact eval_base (by kernel_rfl) (by rfl)) (fun W => by first | kernel_rfl | go_simp) hW) ?_
    refine @schain _ _ _ _ _ _ _ _ _ _ _ _ _ _ 16 (.int .i64 c.MaxChunk) (by rfl) (by rfl) (by kernel_rfl) (by rfl) (by exact fun s' W2 hW => srun_ld (by rfl) (by exact eval_look (by kernel_rfl) (by kernel_rfl)) (ldInt _ _ _ _ (hW.cell c16)) hW) ?_
    refine @schain _ _ _ _ _ _ _ _ _ _ _ _ _ _ 17 (.pointer (some ⟨w.heap.size, 17, none⟩)) (by rfl) (by rfl) (by kernel_rfl) (by rfl) (by exact fun s' W2 hW => srun_fa (p := .pointer (some ⟨w.heap.size, 0, none⟩)) (by rfl) (by exact eval_base (by kernel_rfl) (by rfl)) (fun W => by first | kernel_rfl | go_simp) hW) ?_
    refine @schain _ _ _ _ _ _ _ _ _ _ _ _ _ _ 18 (.int .i64 c.Rate) (by rfl) (by rfl) (by kernel_rfl) (by rfl) (by exact fun s' W2 hW => srun_ld (by rfl) (by exact eval_look (by kernel_rfl) (by kernel_rfl)) (ldInt _ _ _ _ (hW.cell c17)) hW) ?_
    refine @schain _ _ _ _ _ _ _ _ _ _ _ _ _ _ 19 (.int .i64 (c.MaxChunk / c.Rate)) (by rfl) (by rfl) (by kernel_rfl) (by rfl) (by exact fun s' W2 hW => srun_bo (u := .int .i64 c.MaxChunk) (v := .int .i64 c.Rate) (by rfl) (by exact eval_look (by kernel_rfl) (by kernel_rfl)) (by exact eval_look (by kernel_rfl) (by kernel_rfl)) (fun W => quo_run _ _ _ _ _ n16 (p17) W) hW) ?_
    refine @schain _ _ _ _ _ _ _ _ _ _ _ _ _ _ 20 (.int .i64 ((c.MaxChunk / c.Rate) + 3)) (by rfl) (by rfl) (by kernel_rfl) (by rfl) (by exact fun s' W2 hW => srun_bo (u := .int .i64 (c.MaxChunk / c.Rate)) (v := .int .i64 3) (by rfl) (by exact eval_look (by kernel_rfl) (by kernel_rfl)) (by rfl) (fun W => add_run _ _ _ _ _ z0 W) hW) ?_
    refine @schain _ _ _ _ _ _ _ _ _ _ _ _ _ _ 21 (.int .i64 (smul c.Compactors ((c.MaxChunk / c.Rate) + 3))) (by rfl) (by rfl) (by kernel_rfl) (by rfl) (by exact fun s' W2 hW => srun_call (vs := #[.int .i64 c.Compactors, .int .i64 ((c.MaxChunk / c.Rate) + 3)]) (by rfl) (by kernel_rfl) (enters_of Try.func37 (by kernel_rfl) (by rfl)) (scall_q hW (mulR_c _ _ (NI.i64 n2) (NI.i64 z0) W2))) ?_
    refine snil (fun V2 hV2 => ?_)
    refine Eq.mpr (congrArg (fun a => wpList _ _ _ _ a V2) (show _ = (⟨#[.agg (cfgC c), .int .i64 (abv x), .pointer (some ⟨w.heap.size, 0, none⟩), undef, .int .i64 0, undef, undef, undef, .agg (cfgC c), .bool true, .bool false, .int .i64 x, .int .i64 (abv x), .pointer (some ⟨w.heap.size, 2, none⟩), .int .i64 c.Compactors, .pointer (some ⟨w.heap.size, 16, none⟩), .int .i64 c.MaxChunk, .pointer (some ⟨w.heap.size, 17, none⟩), .int .i64 c.Rate, .int .i64 (c.MaxChunk / c.Rate), .int .i64 ((c.MaxChunk / c.Rate) + 3), .int .i64 (smul c.Compactors ((c.MaxChunk / c.Rate) + 3)), undef, undef, undef, undef, undef, undef, undef, undef, undef, undef, undef, undef, undef, undef, undef, undef, undef, undef, undef, undef], []⟩ : Act) by kernel_rfl)) ?_
    have HW2 := Lib.hid (SumR.none hV2)
    clear hV2
    go_wp2_with fail
    refine wp_region_step (SumR wa) leL leL_refl leL_trans [] [0, 0, 0, 0, 0, 0, 0, 0, 0] [.int .i64 (abv x), .pointer (some ⟨w.heap.size, 16, none⟩), .int .i64 c.MaxChunk, .int .i64 ((abv x) / c.MaxChunk), .int .i64 (abv x), .pointer (some ⟨w.heap.size, 11, none⟩), .int .i64 c.FileBytes, .int .i64 ((abv x) / c.FileBytes), .int .i64 ((abv x) / c.MaxChunk)] 9 (by kernel_rfl) (by kernel_rfl) (SumR.drew HW2.out) ?_
    simp only [List.take_succ_cons, List.take_zero, List.drop_succ_cons, List.drop_zero]
    refine schain0 ?_
    refine @schain _ _ _ _ _ _ _ _ _ _ _ _ _ _ 22 (.int .i64 (abv x)) (by rfl) (by rfl) (by kernel_rfl) (by rfl) (by exact fun s' W2 hW => srun_mv (by rfl) (by exact eval_base (by kernel_rfl) (by rfl)) hW) ?_
    refine @schain _ _ _ _ _ _ _ _ _ _ _ _ _ _ 23 (.pointer (some ⟨w.heap.size, 16, none⟩)) (by rfl) (by rfl) (by kernel_rfl) (by rfl) (by exact fun s' W2 hW => srun_fa (p := .pointer (some ⟨w.heap.size, 0, none⟩)) (by rfl) (by exact eval_base (by kernel_rfl) (by rfl)) (fun W => by first | kernel_rfl | go_simp) hW) ?_
    refine @schain _ _ _ _ _ _ _ _ _ _ _ _ _ _ 24 (.int .i64 c.MaxChunk) (by rfl) (by rfl) (by kernel_rfl) (by rfl) (by exact fun s' W2 hW => srun_ld (by rfl) (by exact eval_look (by kernel_rfl) (by kernel_rfl)) (ldInt _ _ _ _ (hW.cell c16)) hW) ?_
    refine @schain _ _ _ _ _ _ _ _ _ _ _ _ _ _ 25 (.int .i64 ((abv x) / c.MaxChunk)) (by rfl) (by rfl) (by kernel_rfl) (by rfl) (by exact fun s' W2 hW => srun_bo (u := .int .i64 (abv x)) (v := .int .i64 c.MaxChunk) (by rfl) (by exact eval_look (by kernel_rfl) (by kernel_rfl)) (by exact eval_look (by kernel_rfl) (by kernel_rfl)) (fun W => quo_run _ _ _ _ _ (abv_NI hx) (p16) W) hW) ?_
    refine @schain _ _ _ _ _ _ _ _ _ _ _ _ _ _ 26 (.int .i64 (abv x)) (by rfl) (by rfl) (by kernel_rfl) (by rfl) (by exact fun s' W2 hW => srun_mv (by rfl) (by exact eval_base (by kernel_rfl) (by rfl)) hW) ?_
    refine @schain _ _ _ _ _ _ _ _ _ _ _ _ _ _ 27 (.pointer (some ⟨w.heap.size, 11, none⟩)) (by rfl) (by rfl) (by kernel_rfl) (by rfl) (by exact fun s' W2 hW => srun_fa (p := .pointer (some ⟨w.heap.size, 0, none⟩)) (by rfl) (by exact eval_base (by kernel_rfl) (by rfl)) (fun W => by first | kernel_rfl | go_simp) hW) ?_
    refine @schain _ _ _ _ _ _ _ _ _ _ _ _ _ _ 28 (.int .i64 c.FileBytes) (by rfl) (by rfl) (by kernel_rfl) (by rfl) (by exact fun s' W2 hW => srun_ld (by rfl) (by exact eval_look (by kernel_rfl) (by kernel_rfl)) (ldInt _ _ _ _ (hW.cell c11)) hW) ?_
    refine @schain _ _ _ _ _ _ _ _ _ _ _ _ _ _ 29 (.int .i64 ((abv x) / c.FileBytes)) (by rfl) (by rfl) (by kernel_rfl) (by rfl) (by exact fun s' W2 hW => srun_bo (u := .int .i64 (abv x)) (v := .int .i64 c.FileBytes) (by rfl) (by exact eval_look (by kernel_rfl) (by kernel_rfl)) (by exact eval_look (by kernel_rfl) (by kernel_rfl)) (fun W => quo_run _ _ _ _ _ (abv_NI hx) (p11) W) hW) ?_
    refine @schain _ _ _ _ _ _ _ _ _ _ _ _ _ _ 6 (.int .i64 ((abv x) / c.MaxChunk)) (by rfl) (by rfl) (by kernel_rfl) (by rfl) (by exact fun s' W2 hW => srun_as (by rfl) (by exact eval_look (by kernel_rfl) (by kernel_rfl)) hW) ?_
    refine snil (fun V3 hV3 => ?_)
    refine Eq.mpr (congrArg (fun a => wpList _ _ _ _ a V3) (show _ = (⟨#[.agg (cfgC c), .int .i64 (abv x), .pointer (some ⟨w.heap.size, 0, none⟩), undef, .int .i64 0, .int .i64 (smul c.Compactors ((c.MaxChunk / c.Rate) + 3)), .int .i64 ((abv x) / c.MaxChunk), undef, .agg (cfgC c), .bool true, .bool false, .int .i64 x, .int .i64 (abv x), .pointer (some ⟨w.heap.size, 2, none⟩), .int .i64 c.Compactors, .pointer (some ⟨w.heap.size, 16, none⟩), .int .i64 c.MaxChunk, .pointer (some ⟨w.heap.size, 17, none⟩), .int .i64 c.Rate, .int .i64 (c.MaxChunk / c.Rate), .int .i64 ((c.MaxChunk / c.Rate) + 3), .int .i64 (smul c.Compactors ((c.MaxChunk / c.Rate) + 3)), .int .i64 (abv x), .pointer (some ⟨w.heap.size, 16, none⟩), .int .i64 c.MaxChunk, .int .i64 ((abv x) / c.MaxChunk), .int .i64 (abv x), .pointer (some ⟨w.heap.size, 11, none⟩), .int .i64 c.FileBytes, .int .i64 ((abv x) / c.FileBytes), undef, undef, undef, undef, undef, undef, undef, undef, undef, undef, undef, undef], []⟩ : Act) by kernel_rfl)) ?_
    have HW3 := Lib.hid (SumR.none hV3)
    clear hV3
    go_wp2_with (refine stopAt 33 rfl ?_)
    refine ⟨wpList_stepK (SumR wa) leL leL_refl [] [0, 0, 0, 2, 1, 0, 0, 0, 0, 0, 2, 1] [undef, undef, undef, undef, undef, .int .i64 (smul c.Compactors ((c.MaxChunk / c.Rate) + 3)), .int .i64 (smul (sadd (sadd ((abv x) / c.MaxChunk) ((abv x) / c.FileBytes)) 3) (smul c.Compactors ((c.MaxChunk / c.Rate) + 3))), .int .i64 ((abv x) / c.FileBytes), .int .i64 (sadd ((abv x) / c.FileBytes) 3), .int .i64 (smul 2 (sadd ((abv x) / c.FileBytes) 3)), undef, undef] 3 9 (by rfl) HW3.out ?_⟩
    simp only [List.take_succ_cons, List.take_zero, List.drop_succ_cons, List.drop_zero]
    refine schain0 ?_
    refine @schainT _ _ _ _ _ _ _ _ _ _ _ _ _ _ 33 (fun v s' => ∃ g, v = .slice (some ⟨g, 0, none⟩) 3 3 ∧ s' = (g, [((abv x) / c.MaxChunk), ((abv x) / c.FileBytes), 3]) :: []) (by rfl) (by kernel_rfl) (by rfl) ⟨_, _, 0, rfl, rfl⟩ (fun _ _ ⟨_, _, h⟩ => h ▸ fun _ hp => List.mem_cons_of_mem _ hp) (by exact fun W2 hW => srun_bs (e := 3) (vs := #[(0, .int .i64 ((abv x) / c.MaxChunk)), (1, .int .i64 ((abv x) / c.FileBytes)), (2, .int .i64 3)]) (cells := #[.int .i64 ((abv x) / c.MaxChunk), .int .i64 ((abv x) / c.FileBytes), .int .i64 3]) (by rfl) (by kernel_rfl) (fun W => by go_simp) (by rfl) (by show 3 ≤ 9223372036854775807; omega) hW) (fun x s' hx => ?_)
    obtain ⟨g1, rfl, rfl⟩ := hx
    refine @schain1 _ _ _ _ _ _ _ _ _ _ _ _ _ _ 34 (.int .i64 (sadd (sadd ((abv x) / c.MaxChunk) ((abv x) / c.FileBytes)) 3)) (by rfl) (by kernel_rfl) (by rfl) (by exact fun s' hs W2 hW => srun_call (vs := #[.slice (some ⟨g1, 0, none⟩) 3 3]) (by rfl) (by kernel_rfl) (enters_of Try.func73 (by kernel_rfl) (by rfl)) (sum_at hW (hs _ List.mem_cons_self) (allI_cons (NI.i64 (NI.div (abv_NI hx) (p16))) (allI_cons (NI.i64 (NI.div (abv_NI hx) (p11))) (allI_cons (I64.lit (by omega) (by omega)) allI_nil))))) ?_
    refine @schain _ _ _ _ _ _ _ _ _ _ _ _ _ _ 35 (.int .i64 (smul c.Compactors ((c.MaxChunk / c.Rate) + 3))) (by rfl) (by rfl) (by kernel_rfl) (by rfl) (by exact fun s' W2 hW => srun_mv (by rfl) (by exact eval_base (by kernel_rfl) (by rfl)) hW) ?_
    refine @schain _ _ _ _ _ _ _ _ _ _ _ _ _ _ 36 (.int .i64 (smul (sadd (sadd ((abv x) / c.MaxChunk) ((abv x) / c.FileBytes)) 3) (smul c.Compactors ((c.MaxChunk / c.Rate) + 3)))) (by rfl) (by rfl) (by kernel_rfl) (by rfl) (by exact fun s' W2 hW => srun_call (vs := #[.int .i64 (sadd (sadd ((abv x) / c.MaxChunk) ((abv x) / c.FileBytes)) 3), .int .i64 (smul c.Compactors ((c.MaxChunk / c.Rate) + 3))]) (by rfl) (by kernel_rfl) (enters_of Try.func37 (by kernel_rfl) (by rfl)) (scall_q hW (mulR_c _ _ (sadd_I64 _ _) (smul_I64 _ _) W2))) ?_
    refine @schain _ _ _ _ _ _ _ _ _ _ _ _ _ _ 37 (.int .i64 ((abv x) / c.FileBytes)) (by rfl) (by rfl) (by kernel_rfl) (by rfl) (by exact fun s' W2 hW => srun_mv (by rfl) (by exact eval_base (by kernel_rfl) (by rfl)) hW) ?_
    refine @schain _ _ _ _ _ _ _ _ _ _ _ _ _ _ 38 (.int .i64 (sadd ((abv x) / c.FileBytes) 3)) (by rfl) (by rfl) (by kernel_rfl) (by rfl) (by exact fun s' W2 hW => srun_call (vs := #[.int .i64 ((abv x) / c.FileBytes), .int .i64 3]) (by rfl) (by kernel_rfl) (enters_of Try.func35 (by kernel_rfl) (by rfl)) (scall_q hW (addR_c _ _ (NI.i64 (NI.div (abv_NI hx) (p11))) (I64.lit (by omega) (by omega)) W2))) ?_
    refine @schain _ _ _ _ _ _ _ _ _ _ _ _ _ _ 39 (.int .i64 (smul 2 (sadd ((abv x) / c.FileBytes) 3))) (by rfl) (by rfl) (by kernel_rfl) (by rfl) (by exact fun s' W2 hW => srun_call (vs := #[.int .i64 2, .int .i64 (sadd ((abv x) / c.FileBytes) 3)]) (by rfl) (by kernel_rfl) (enters_of Try.func37 (by kernel_rfl) (by rfl)) (scall_q hW (mulR_c _ _ (I64.lit (by omega) (by omega)) (sadd_I64 _ _) W2))) ?_
    refine @schainT _ _ _ _ _ _ _ _ _ _ _ _ _ _ 40 (fun v s' => ∃ g, v = .slice (some ⟨g, 0, none⟩) 5 5 ∧ s' = (g, [((abv x) / c.MaxChunk), 2, (smul (sadd (sadd ((abv x) / c.MaxChunk) ((abv x) / c.FileBytes)) 3) (smul c.Compactors ((c.MaxChunk / c.Rate) + 3))), (smul 2 (sadd ((abv x) / c.FileBytes) 3)), 16]) :: ((g1, [((abv x) / c.MaxChunk), ((abv x) / c.FileBytes), 3]) :: [])) (by rfl) (by kernel_rfl) (by rfl) ⟨_, _, 0, rfl, rfl⟩ (fun _ _ ⟨_, _, h⟩ => h ▸ fun _ hp => List.mem_cons_of_mem _ hp) (by exact fun W2 hW => srun_bs (e := 3) (vs := #[(0, .int .i64 ((abv x) / c.MaxChunk)), (1, .int .i64 2), (2, .int .i64 (smul (sadd (sadd ((abv x) / c.MaxChunk) ((abv x) / c.FileBytes)) 3) (smul c.Compactors ((c.MaxChunk / c.Rate) + 3)))), (3, .int .i64 (smul 2 (sadd ((abv x) / c.FileBytes) 3))), (4, .int .i64 16)]) (cells := #[.int .i64 ((abv x) / c.MaxChunk), .int .i64 2, .int .i64 (smul (sadd (sadd ((abv x) / c.MaxChunk) ((abv x) / c.FileBytes)) 3) (smul c.Compactors ((c.MaxChunk / c.Rate) + 3))), .int .i64 (smul 2 (sadd ((abv x) / c.FileBytes) 3)), .int .i64 16]) (by rfl) (by kernel_rfl) (fun W => by go_simp) (by rfl) (by show 5 ≤ 9223372036854775807; omega) hW) (fun x s' hx => ?_)
    obtain ⟨g2, rfl, rfl⟩ := hx
    refine @schain1 _ _ _ _ _ _ _ _ _ _ _ _ _ _ 41 (.int .i64 (sadd (sadd (sadd (sadd ((abv x) / c.MaxChunk) 2) (smul (sadd (sadd ((abv x) / c.MaxChunk) ((abv x) / c.FileBytes)) 3) (smul c.Compactors ((c.MaxChunk / c.Rate) + 3)))) (smul 2 (sadd ((abv x) / c.FileBytes) 3))) 16)) (by rfl) (by kernel_rfl) (by rfl) (by exact fun s' hs W2 hW => srun_call (vs := #[.slice (some ⟨g2, 0, none⟩) 5 5]) (by rfl) (by kernel_rfl) (enters_of Try.func73 (by kernel_rfl) (by rfl)) (sum_at hW (hs _ List.mem_cons_self) (allI_cons (NI.i64 (NI.div (abv_NI hx) (p16))) (allI_cons (I64.lit (by omega) (by omega)) (allI_cons (smul_I64 _ _) (allI_cons (smul_I64 _ _) (allI_cons (I64.lit (by omega) (by omega)) allI_nil))))))) ?_
    refine snil (fun V4 hV4 => ?_)
    refine Eq.mpr (congrArg (fun a => wpList _ _ _ _ a V4) (show _ = (⟨#[.agg (cfgC c), .int .i64 (abv x), .pointer (some ⟨w.heap.size, 0, none⟩), undef, .int .i64 0, .int .i64 (smul c.Compactors ((c.MaxChunk / c.Rate) + 3)), .int .i64 ((abv x) / c.MaxChunk), .int .i64 ((abv x) / c.FileBytes), .agg (cfgC c), .bool true, .bool false, .int .i64 x, .int .i64 (abv x), .pointer (some ⟨w.heap.size, 2, none⟩), .int .i64 c.Compactors, .pointer (some ⟨w.heap.size, 16, none⟩), .int .i64 c.MaxChunk, .pointer (some ⟨w.heap.size, 17, none⟩), .int .i64 c.Rate, .int .i64 (c.MaxChunk / c.Rate), .int .i64 ((c.MaxChunk / c.Rate) + 3), .int .i64 (smul c.Compactors ((c.MaxChunk / c.Rate) + 3)), .int .i64 (abv x), .pointer (some ⟨w.heap.size, 16, none⟩), .int .i64 c.MaxChunk, .int .i64 ((abv x) / c.MaxChunk), .int .i64 (abv x), .pointer (some ⟨w.heap.size, 11, none⟩), .int .i64 c.FileBytes, .int .i64 ((abv x) / c.FileBytes), .int .i64 ((abv x) / c.MaxChunk), .int .i64 ((abv x) / c.MaxChunk), .int .i64 ((abv x) / c.FileBytes), .slice (some ⟨g1, 0, none⟩) 3 3, .int .i64 (sadd (sadd ((abv x) / c.MaxChunk) ((abv x) / c.FileBytes)) 3), .int .i64 (smul c.Compactors ((c.MaxChunk / c.Rate) + 3)), .int .i64 (smul (sadd (sadd ((abv x) / c.MaxChunk) ((abv x) / c.FileBytes)) 3) (smul c.Compactors ((c.MaxChunk / c.Rate) + 3))), .int .i64 ((abv x) / c.FileBytes), .int .i64 (sadd ((abv x) / c.FileBytes) 3), .int .i64 (smul 2 (sadd ((abv x) / c.FileBytes) 3)), .slice (some ⟨g2, 0, none⟩) 5 5, .int .i64 (sadd (sadd (sadd (sadd ((abv x) / c.MaxChunk) 2) (smul (sadd (sadd ((abv x) / c.MaxChunk) ((abv x) / c.FileBytes)) 3) (smul c.Compactors ((c.MaxChunk / c.Rate) + 3)))) (smul 2 (sadd ((abv x) / c.FileBytes) 3))) 16)], []⟩ : Act) by kernel_rfl)) ?_
    have HW4 := Lib.hid (SumR.none hV4)
    clear hV4
    clear HX
    go_wp2
    go_ret
    exact ⟨by rw [HE.out]; rfl, HBA.out.trans (HW4.out.1.mono HBA.out.size)⟩
theorem TFr_at (c : Cfg) (hc : CfgOk c) (hr : rightL c = true) (x : Int) (hx : NI x) (w : World) : Calls Try.prog 43 #[cfgV c, .int .i64 x] w fun e w' => e = .returned (.int .i64 (tfL c x)) ∧ Below w.heap.size w w' := by
  have := TFr_c c hc x hx.i64 w
  rwa [iR_pos hr, abv_of hx] at this
theorem TCr_at (c : Cfg) (hc : CfgOk c) (hr : rightL c = true) (x : Int) (hx : NI x) (w : World) : Calls Try.prog 44 #[cfgV c, .int .i64 x] w fun e w' => e = .returned (.int .i64 (tcL c x)) ∧ Below w.heap.size w w' := by
  have := TCr_c c hc x hx.i64 w
  rwa [iR_pos hr, abv_of hx] at this
set_option maxHeartbeats 3200000 in
set_option maxRecDepth 100000 in
theorem B1r_c (c : Cfg) (hc : CfgOk c) (x : Int) (hx : I64 x) (w : World) : Calls Try.prog 45 #[cfgV c, .int .i64 x] w fun e w' => e = .returned (.int .i64 (iR c (b1L c (abv x)))) ∧ Below w.heap.size w w' := by
  have c22 : (w.alloc (.cells (cfgC c) 23)).cell? ⟨w.heap.size, 22, none⟩ = some (.int .i64 c.MaxDebt) := (blk_cell (cfgBlk c w) 22).trans rfl
  have c0 : (w.alloc (.cells (cfgC c) 23)).cell? ⟨w.heap.size, 0, none⟩ = some (.int .i64 c.Clients) := (blk_cell (cfgBlk c w) 0).trans rfl
  have c3 : (w.alloc (.cells (cfgC c) 23)).cell? ⟨w.heap.size, 3, none⟩ = some (.int .i64 c.MemBytes) := (blk_cell (cfgBlk c w) 3).trans rfl
  have c4 : (w.alloc (.cells (cfgC c) 23)).cell? ⟨w.heap.size, 4, none⟩ = some (.int .i64 c.MaxImm) := (blk_cell (cfgBlk c w) 4).trans rfl
  have c8 : (w.alloc (.cells (cfgC c) 23)).cell? ⟨w.heap.size, 8, none⟩ = some (.int .i64 c.Levels) := (blk_cell (cfgBlk c w) 8).trans rfl
  have c19 : (w.alloc (.cells (cfgC c) 23)).cell? ⟨w.heap.size, 19, none⟩ = some (.int .i64 c.SlowRate) := (blk_cell (cfgBlk c w) 19).trans rfl
  have HBX := Lib.hid (cfgBlk c w)
  have HBA := Lib.hid ((Below.refl w.heap.size w).alloc (Nat.le_refl _) (.cells (cfgC c) 23))
  have HSZ := Lib.hid (World.size_alloc w (.cells (cfgC c) 23))
  unfold cfgV at *
  go_enter Try.func45, Try.ntmps45
  go_wp2_with (refine wpList_load_row rfl 23 (.tmp 2) rfl _ rfl _ _ _ _ HBX.out Try.underlying23 rfl (iCfg c) ?_)
  generalize w.alloc (.cells (cfgC c) 23) = wa at *
  refine (rightR_c c hc _).mono ?_
  rintro e w1 ⟨rfl, hb1⟩
  have HB1 := Lib.hid (HBA.out.trans (hb1.mono HBA.out.size))
  have HX := HBX
  have HW0 := Lib.hid ((SumR.start' wa).later hb1)
  clear hb1
  rcases hr : rightL c with _ | _
  · have HE := Lib.hid (iR_neg hr (b1L c (abv x)))
    clear hr
    go_wp2
    go_ret
    exact ⟨by rw [HE.out]; rfl, HB1.out⟩
  · skip
    have q22 := r_MaxDebt hr
    have p22 : 0 < c.MaxDebt := by omega
    have n22 : NI c.MaxDebt := ⟨by omega, by omega⟩
    have q0 := r_Clients hr
    have p0 : 0 < c.Clients := by omega
    have n0 : NI c.Clients := ⟨by omega, by omega⟩
    have q3 := r_MemBytes hr
    have p3 : 0 < c.MemBytes := by omega
    have n3 : NI c.MemBytes := ⟨by omega, by omega⟩
    have q4 := r_MaxImm hr
    have p4 : 0 < c.MaxImm := by omega
    have n4 : NI c.MaxImm := ⟨by omega, by omega⟩
    have q8 := r_Levels hr
    have p8 : 0 < c.Levels := by omega
    have n8 : NI c.Levels := ⟨by omega, by omega⟩
    have q19 := r_SlowRate hr
    have p19 : 0 < c.SlowRate := by omega
    have n19 : NI c.SlowRate := ⟨by omega, by omega⟩
    have b1 := div_bd (x := c.MaxDebt) (y := c.MemBytes) (by omega) (by omega)
    have z0 : NI (c.Clients - 1) := ⟨by omega, by omega⟩
    have z1 : NI ((c.MaxDebt / c.MemBytes) + c.MaxImm) := ⟨by omega, by omega⟩
    have z2 : NI (((c.MaxDebt / c.MemBytes) + c.MaxImm) + 2) := ⟨by omega, by omega⟩
    have z3 : NI ((((c.MaxDebt / c.MemBytes) + c.MaxImm) + 2) + 2) := ⟨by omega, by omega⟩
    have z4 : NI (c.MaxImm + 1) := ⟨by omega, by omega⟩
    have z5 : NI (18 * c.Clients) := ⟨by omega, by omega⟩
    have HE := Lib.hid ((iR_pos hr (b1L c (abv x))).trans (show b1L c (abv x) = (smul c.Clients (sadd (sadd (sadd (sadd (sadd (smul ((((c.MaxDebt / c.MemBytes) + c.MaxImm) + 2) + 2) (sadd (t0L c (yL c (abv x))) 2)) (tdL c (yL c (abv x)))) (smul (c.MaxImm + 1) (sadd (sadd (t0L c (yL c (abv x))) (tfL c (memCapL c))) 2))) (17408 / c.SlowRate)) (18 * c.Clients)) 24)) from by unfold b1L nL; rw [(q_eq hr).2, (imm_eq hr).1, (imm_eq hr).2.2.2.2]))
    clear q22
    clear q0
    clear q3
    clear q4
    clear q8
    clear q19
    go_wp2_with fail
    refine wp_region_step (SumR wa) leL leL_refl leL_trans [] [0, 0, 0, 0, 0, 0, 0, 0, 2, 1, 0, 0, 0] [.int .i64 x, .int .i64 (abv x), .pointer (some ⟨w.heap.size, 22, none⟩), .int .i64 c.MaxDebt, .pointer (some ⟨w.heap.size, 0, none⟩), .int .i64 c.Clients, .int .i64 (c.Clients - 1), .int .i64 (smul (c.Clients - 1) 17408), undef, undef, .agg (cfgC c), .int .i64 (debtCapR c), .int .i64 (mni (sadd (sadd (abv x) c.MaxDebt) (smul (c.Clients - 1) 17408)) (debtCapR c))] 13 (by kernel_rfl) (by kernel_rfl) (SumR.drew HW0.out) ?_
    simp only [List.take_succ_cons, List.take_zero, List.drop_succ_cons, List.drop_zero]
    refine schain0 ?_
    refine @schain _ _ _ _ _ _ _ _ _ _ _ _ _ _ 13 (.int .i64 x) (by rfl) (by rfl) (by kernel_rfl) (by rfl) (by exact fun s' W2 hW => srun_mv (by rfl) (by exact eval_base (by kernel_rfl) (by rfl)) hW) ?_
    refine @schain _ _ _ _ _ _ _ _ _ _ _ _ _ _ 14 (.int .i64 (abv x)) (by rfl) (by rfl) (by kernel_rfl) (by rfl) (by exact fun s' W2 hW => srun_call (vs := #[.int .i64 x]) (by rfl) (by kernel_rfl) (enters_of Try.func52 (by kernel_rfl) (by rfl)) (scall_q hW (above_c _ W2))) ?_
    refine @schain _ _ _ _ _ _ _ _ _ _ _ _ _ _ 15 (.pointer (some ⟨w.heap.size, 22, none⟩)) (by rfl) (by rfl) (by kernel_rfl) (by rfl) (by exact fun s' W2 hW => srun_fa (p := .pointer (some ⟨w.heap.size, 0, none⟩)) (by rfl) (by exact eval_base (by kernel_rfl) (by rfl)) (fun W => by first | kernel_rfl | go_simp) hW) ?_
    refine @schain _ _ _ _ _ _ _ _ _ _ _ _ _ _ 16 (.int .i64 c.MaxDebt) (by rfl) (by rfl) (by kernel_rfl) (by rfl) (by exact fun s' W2 hW => srun_ld (by rfl) (by exact eval_look (by kernel_rfl) (by kernel_rfl)) (ldInt _ _ _ _ (hW.cell c22)) hW) ?_
    refine @schain _ _ _ _ _ _ _ _ _ _ _ _ _ _ 17 (.pointer (some ⟨w.heap.size, 0, none⟩)) (by rfl) (by rfl) (by kernel_rfl) (by rfl) (by exact fun s' W2 hW => srun_fa (p := .pointer (some ⟨w.heap.size, 0, none⟩)) (by rfl) (by exact eval_base (by kernel_rfl) (by rfl)) (fun W => by first | kernel_rfl | go_simp) hW) ?_
    refine @schain _ _ _ _ _ _ _ _ _ _ _ _ _ _ 18 (.int .i64 c.Clients) (by rfl) (by rfl) (by kernel_rfl) (by rfl) (by exact fun s' W2 hW => srun_ld (by rfl) (by exact eval_look (by kernel_rfl) (by kernel_rfl)) (ldInt _ _ _ _ (hW.cell c0)) hW) ?_
    refine @schain _ _ _ _ _ _ _ _ _ _ _ _ _ _ 19 (.int .i64 (c.Clients - 1)) (by rfl) (by rfl) (by kernel_rfl) (by rfl) (by exact fun s' W2 hW => srun_bo (u := .int .i64 c.Clients) (v := .int .i64 1) (by rfl) (by exact eval_look (by kernel_rfl) (by kernel_rfl)) (by rfl) (fun W => sub_run _ _ _ _ _ z0 W) hW) ?_
    refine @schain _ _ _ _ _ _ _ _ _ _ _ _ _ _ 20 (.int .i64 (smul (c.Clients - 1) 17408)) (by rfl) (by rfl) (by kernel_rfl) (by rfl) (by exact fun s' W2 hW => srun_call (vs := #[.int .i64 (c.Clients - 1), .int .i64 17408]) (by rfl) (by kernel_rfl) (enters_of Try.func37 (by kernel_rfl) (by rfl)) (scall_q hW (mulR_c _ _ (NI.i64 z0) (I64.lit (by omega) (by omega)) W2))) ?_
    refine @schainT _ _ _ _ _ _ _ _ _ _ _ _ _ _ 21 (fun v s' => ∃ g, v = .slice (some ⟨g, 0, none⟩) 3 3 ∧ s' = (g, [(abv x), c.MaxDebt, (smul (c.Clients - 1) 17408)]) :: []) (by rfl) (by kernel_rfl) (by rfl) ⟨_, _, 0, rfl, rfl⟩ (fun _ _ ⟨_, _, h⟩ => h ▸ fun _ hp => List.mem_cons_of_mem _ hp) (by exact fun W2 hW => srun_bs (e := 3) (vs := #[(0, .int .i64 (abv x)), (1, .int .i64 c.MaxDebt), (2, .int .i64 (smul (c.Clients - 1) 17408))]) (cells := #[.int .i64 (abv x), .int .i64 c.MaxDebt, .int .i64 (smul (c.Clients - 1) 17408)]) (by rfl) (by kernel_rfl) (fun W => by go_simp) (by rfl) (by show 3 ≤ 9223372036854775807; omega) hW) (fun x s' hx => ?_)
    obtain ⟨g1, rfl, rfl⟩ := hx
    refine @schain1 _ _ _ _ _ _ _ _ _ _ _ _ _ _ 22 (.int .i64 (sadd (sadd (abv x) c.MaxDebt) (smul (c.Clients - 1) 17408))) (by rfl) (by kernel_rfl) (by rfl) (by exact fun s' hs W2 hW => srun_call (vs := #[.slice (some ⟨g1, 0, none⟩) 3 3]) (by rfl) (by kernel_rfl) (enters_of Try.func73 (by kernel_rfl) (by rfl)) (sum_at hW (hs _ List.mem_cons_self) (allI_cons (NI.i64 (abv_NI hx)) (allI_cons (NI.i64 n22) (allI_cons (smul_I64 _ _) allI_nil))))) ?_
    refine @schain _ _ _ _ _ _ _ _ _ _ _ _ _ _ 23 (.agg (cfgC c)) (by rfl) (by rfl) (by kernel_rfl) (by rfl) (by exact fun s' W2 hW => srun_ld (by rfl) (by exact eval_base (by kernel_rfl) (by rfl)) (ldCfg c _ _ (hW.row HX.out)) hW) ?_
    refine @schain _ _ _ _ _ _ _ _ _ _ _ _ _ _ 24 (.int .i64 (debtCapR c)) (by rfl) (by rfl) (by kernel_rfl) (by rfl) (by exact fun s' W2 hW => srun_call (vs := #[.agg (cfgC c)]) (by rfl) (by kernel_rfl) (enters_of Try.func33 (by kernel_rfl) (by rfl)) (scall_b hW (DebtCapR_c c hc W2))) ?_
    refine @schain _ _ _ _ _ _ _ _ _ _ _ _ _ _ 25 (.int .i64 (mni (sadd (sadd (abv x) c.MaxDebt) (smul (c.Clients - 1) 17408)) (debtCapR c))) (by rfl) (by rfl) (by kernel_rfl) (by rfl) (by exact fun s' W2 hW => srun_mn (u := .int .i64 (sadd (sadd (abv x) c.MaxDebt) (smul (c.Clients - 1) 17408))) (v := .int .i64 (debtCapR c)) (by rfl) (by exact eval_look (by kernel_rfl) (by kernel_rfl)) (by exact eval_look (by kernel_rfl) (by kernel_rfl)) (fun W => minInt _ _ _ _ W) hW) ?_
    refine snil (fun V1 hV1 => ?_)
    refine Eq.mpr (congrArg (fun a => wpList _ _ _ _ a V1) (show _ = (⟨#[.agg (cfgC c), .int .i64 x, .pointer (some ⟨w.heap.size, 0, none⟩), undef, .int .i64 0, undef, undef, undef, undef, undef, .agg (cfgC c), .bool true, .bool false, .int .i64 x, .int .i64 (abv x), .pointer (some ⟨w.heap.size, 22, none⟩), .int .i64 c.MaxDebt, .pointer (some ⟨w.heap.size, 0, none⟩), .int .i64 c.Clients, .int .i64 (c.Clients - 1), .int .i64 (smul (c.Clients - 1) 17408), .slice (some ⟨g1, 0, none⟩) 3 3, .int .i64 (sadd (sadd (abv x) c.MaxDebt) (smul (c.Clients - 1) 17408)), .agg (cfgC c), .int .i64 (debtCapR c), .int .i64 (ddL c (abv x)), undef, undef, undef, undef, undef, undef, undef, undef, undef, undef, undef, undef, undef, undef, undef, undef, undef, undef, undef, undef, undef, undef, undef, undef, undef, undef, undef, undef, undef, undef, undef, undef, undef, undef, undef, undef, undef, undef, undef, undef, undef, undef, undef, undef, undef, undef, undef, undef, undef, undef, undef, undef, undef, undef, undef, undef, undef, undef, undef, undef, undef, undef, undef, undef, undef, undef, undef, undef, undef, undef, undef, undef], []⟩ : Act) by kernel_rfl)) ?_
    have HW1 := Lib.hid (SumR.none hV1)
    clear hV1
    go_wp2_with (refine stopAt 26 rfl ?_)
    refine ⟨wpList_stepK (SumR wa) leL leL_refl [] [0, 0, 0, 0] [.agg (cfgC c), .int .i64 (limitSumL c), .int .i64 (ddL c (abv x)), .int .i64 (sadd (limitSumL c) (ddL c (abv x)))] 0 4 (by rfl) HW1.out ?_⟩
    simp only [List.take_succ_cons, List.take_zero, List.drop_succ_cons, List.drop_zero]
    refine schain0 ?_
    refine @schain _ _ _ _ _ _ _ _ _ _ _ _ _ _ 26 (.agg (cfgC c)) (by rfl) (by rfl) (by kernel_rfl) (by rfl) (by exact fun s' W2 hW => srun_ld (by rfl) (by exact eval_base (by kernel_rfl) (by rfl)) (ldCfg c _ _ (hW.row HX.out)) hW) ?_
    refine @schain _ _ _ _ _ _ _ _ _ _ _ _ _ _ 27 (.int .i64 (limitSumL c)) (by rfl) (by rfl) (by kernel_rfl) (by rfl) (by exact fun s' W2 hW => srun_call (vs := #[.agg (cfgC c)]) (by rfl) (by kernel_rfl) (enters_of Try.func27 (by kernel_rfl) (by rfl)) (scall_b hW (LimitSumR_c c hc W2))) ?_
    refine @schain _ _ _ _ _ _ _ _ _ _ _ _ _ _ 28 (.int .i64 (ddL c (abv x))) (by rfl) (by rfl) (by kernel_rfl) (by rfl) (by exact fun s' W2 hW => srun_mv (by rfl) (by exact eval_base (by kernel_rfl) (by rfl)) hW) ?_
    refine @schain _ _ _ _ _ _ _ _ _ _ _ _ _ _ 29 (.int .i64 (sadd (limitSumL c) (ddL c (abv x)))) (by rfl) (by rfl) (by kernel_rfl) (by rfl) (by exact fun s' W2 hW => srun_call (vs := #[.int .i64 (limitSumL c), .int .i64 (ddL c (abv x))]) (by rfl) (by kernel_rfl) (enters_of Try.func35 (by kernel_rfl) (by rfl)) (scall_q hW (addR_c _ _ (NI.i64 (limitSumL_NI c)) (NI.i64 (ddL_NI hr (abv_NI hx))) W2))) ?_
    refine snil (fun V2 hV2 => ?_)
    refine Eq.mpr (congrArg (fun a => wpList _ _ _ _ a V2) (show _ = (⟨#[.agg (cfgC c), .int .i64 x, .pointer (some ⟨w.heap.size, 0, none⟩), undef, .int .i64 0, .int .i64 (ddL c (abv x)), undef, undef, undef, undef, .agg (cfgC c), .bool true, .bool false, .int .i64 x, .int .i64 (abv x), .pointer (some ⟨w.heap.size, 22, none⟩), .int .i64 c.MaxDebt, .pointer (some ⟨w.heap.size, 0, none⟩), .int .i64 c.Clients, .int .i64 (c.Clients - 1), .int .i64 (smul (c.Clients - 1) 17408), .slice (some ⟨g1, 0, none⟩) 3 3, .int .i64 (sadd (sadd (abv x) c.MaxDebt) (smul (c.Clients - 1) 17408)), .agg (cfgC c), .int .i64 (debtCapR c), .int .i64 (ddL c (abv x)), .agg (cfgC c), .int .i64 (limitSumL c), .int .i64 (ddL c (abv x)), .int .i64 (yL c (abv x)), undef, undef, undef, undef, undef, undef, undef, undef, undef, undef, undef, undef, undef, undef, undef, undef, undef, undef, undef, undef, undef, undef, undef, undef, undef, undef, undef, undef, undef, undef, undef, undef, undef, undef, undef, undef, undef, undef, undef, undef, undef, undef, undef, undef, undef, undef, undef, undef, undef, undef, undef, undef, undef, undef, undef, undef, undef, undef, undef, undef, undef, undef, undef, undef, undef, undef, undef, undef], []⟩ : Act) by kernel_rfl)) ?_
    have HW2 := Lib.hid (SumR.none hV2)
    clear hV2
    go_wp2_with fail
    refine wp_region_step (SumR wa) leL leL_refl leL_trans [] [0, 0, 0, 0, 0, 0, 0, 0, 0, 2, 1] [.agg (cfgC c), .agg (cfgC c), .int .i64 (fanL c), .int .i64 (tcL c (fanL c)), .int .i64 (smul 2 (tcL c (fanL c))), .agg (cfgC c), .int .i64 (yL c (abv x)), .int .i64 (tcL c (yL c (abv x))), .int .i64 (smul 2 (tcL c (yL c (abv x)))), undef, undef] 11 (by kernel_rfl) (by kernel_rfl) (SumR.drew HW2.out) ?_
    simp only [List.take_succ_cons, List.take_zero, List.drop_succ_cons, List.drop_zero]
    refine schain0 ?_
    refine @schain _ _ _ _ _ _ _ _ _ _ _ _ _ _ 30 (.agg (cfgC c)) (by rfl) (by rfl) (by kernel_rfl) (by rfl) (by exact fun s' W2 hW => srun_ld (by rfl) (by exact eval_base (by kernel_rfl) (by rfl)) (ldCfg c _ _ (hW.row HX.out)) hW) ?_
    refine @schain _ _ _ _ _ _ _ _ _ _ _ _ _ _ 31 (.agg (cfgC c)) (by rfl) (by rfl) (by kernel_rfl) (by rfl) (by exact fun s' W2 hW => srun_ld (by rfl) (by exact eval_base (by kernel_rfl) (by rfl)) (ldCfg c _ _ (hW.row HX.out)) hW) ?_
    refine @schain _ _ _ _ _ _ _ _ _ _ _ _ _ _ 32 (.int .i64 (fanL c)) (by rfl) (by rfl) (by kernel_rfl) (by rfl) (by exact fun s' W2 hW => srun_call (vs := #[.agg (cfgC c)]) (by rfl) (by kernel_rfl) (enters_of Try.func74 (by kernel_rfl) (by rfl)) (scall_b hW (jobMost_c c hc hr W2))) ?_
    refine @schain _ _ _ _ _ _ _ _ _ _ _ _ _ _ 33 (.int .i64 (tcL c (fanL c))) (by rfl) (by rfl) (by kernel_rfl) (by rfl) (by exact fun s' W2 hW => srun_call (vs := #[.agg (cfgC c), .int .i64 (fanL c)]) (by rfl) (by kernel_rfl) (enters_of Try.func44 (by kernel_rfl) (by rfl)) (scall_b hW (TCr_at c hc hr _ (fanL_NI hr) W2))) ?_
    refine @schain _ _ _ _ _ _ _ _ _ _ _ _ _ _ 34 (.int .i64 (smul 2 (tcL c (fanL c)))) (by rfl) (by rfl) (by kernel_rfl) (by rfl) (by exact fun s' W2 hW => srun_call (vs := #[.int .i64 2, .int .i64 (tcL c (fanL c))]) (by rfl) (by kernel_rfl) (enters_of Try.func37 (by kernel_rfl) (by rfl)) (scall_q hW (mulR_c _ _ (I64.lit (by omega) (by omega)) (NI.i64 (tcL_NI hr (fanL_NI hr))) W2))) ?_
    refine @schain _ _ _ _ _ _ _ _ _ _ _ _ _ _ 35 (.agg (cfgC c)) (by rfl) (by rfl) (by kernel_rfl) (by rfl) (by exact fun s' W2 hW => srun_ld (by rfl) (by exact eval_base (by kernel_rfl) (by rfl)) (ldCfg c _ _ (hW.row HX.out)) hW) ?_
    refine @schain _ _ _ _ _ _ _ _ _ _ _ _ _ _ 36 (.int .i64 (yL c (abv x))) (by rfl) (by rfl) (by kernel_rfl) (by rfl) (by exact fun s' W2 hW => srun_mv (by rfl) (by exact eval_base (by kernel_rfl) (by rfl)) hW) ?_
    refine @schain _ _ _ _ _ _ _ _ _ _ _ _ _ _ 37 (.int .i64 (tcL c (yL c (abv x)))) (by rfl) (by rfl) (by kernel_rfl) (by rfl) (by exact fun s' W2 hW => srun_call (vs := #[.agg (cfgC c), .int .i64 (yL c (abv x))]) (by rfl) (by kernel_rfl) (enters_of Try.func44 (by kernel_rfl) (by rfl)) (scall_b hW (TCr_at c hc hr _ (yL_NI hr (abv_NI hx)) W2))) ?_
    refine @schain _ _ _ _ _ _ _ _ _ _ _ _ _ _ 38 (.int .i64 (smul 2 (tcL c (yL c (abv x))))) (by rfl) (by rfl) (by kernel_rfl) (by rfl) (by exact fun s' W2 hW => srun_call (vs := #[.int .i64 2, .int .i64 (tcL c (yL c (abv x)))]) (by rfl) (by kernel_rfl) (enters_of Try.func37 (by kernel_rfl) (by rfl)) (scall_q hW (mulR_c _ _ (I64.lit (by omega) (by omega)) (NI.i64 (tcL_NI hr (yL_NI hr (abv_NI hx)))) W2))) ?_
    refine @schainT _ _ _ _ _ _ _ _ _ _ _ _ _ _ 39 (fun v s' => ∃ g, v = .slice (some ⟨g, 0, none⟩) 3 3 ∧ s' = (g, [(smul 2 (tcL c (fanL c))), (smul 2 (tcL c (yL c (abv x)))), 16]) :: []) (by rfl) (by kernel_rfl) (by rfl) ⟨_, _, 0, rfl, rfl⟩ (fun _ _ ⟨_, _, h⟩ => h ▸ fun _ hp => List.mem_cons_of_mem _ hp) (by exact fun W2 hW => srun_bs (e := 3) (vs := #[(0, .int .i64 (smul 2 (tcL c (fanL c)))), (1, .int .i64 (smul 2 (tcL c (yL c (abv x))))), (2, .int .i64 16)]) (cells := #[.int .i64 (smul 2 (tcL c (fanL c))), .int .i64 (smul 2 (tcL c (yL c (abv x)))), .int .i64 16]) (by rfl) (by kernel_rfl) (fun W => by go_simp) (by rfl) (by show 3 ≤ 9223372036854775807; omega) hW) (fun x s' hx => ?_)
    obtain ⟨g2, rfl, rfl⟩ := hx
    refine @schain1 _ _ _ _ _ _ _ _ _ _ _ _ _ _ 40 (.int .i64 (sadd (sadd (smul 2 (tcL c (fanL c))) (smul 2 (tcL c (yL c (abv x))))) 16)) (by rfl) (by kernel_rfl) (by rfl) (by exact fun s' hs W2 hW => srun_call (vs := #[.slice (some ⟨g2, 0, none⟩) 3 3]) (by rfl) (by kernel_rfl) (enters_of Try.func73 (by kernel_rfl) (by rfl)) (sum_at hW (hs _ List.mem_cons_self) (allI_cons (smul_I64 _ _) (allI_cons (smul_I64 _ _) (allI_cons (I64.lit (by omega) (by omega)) allI_nil))))) ?_
    refine snil (fun V3 hV3 => ?_)
    refine Eq.mpr (congrArg (fun a => wpList _ _ _ _ a V3) (show _ = (⟨#[.agg (cfgC c), .int .i64 x, .pointer (some ⟨w.heap.size, 0, none⟩), undef, .int .i64 0, .int .i64 (ddL c (abv x)), .int .i64 (yL c (abv x)), undef, undef, undef, .agg (cfgC c), .bool true, .bool false, .int .i64 x, .int .i64 (abv x), .pointer (some ⟨w.heap.size, 22, none⟩), .int .i64 c.MaxDebt, .pointer (some ⟨w.heap.size, 0, none⟩), .int .i64 c.Clients, .int .i64 (c.Clients - 1), .int .i64 (smul (c.Clients - 1) 17408), .slice (some ⟨g1, 0, none⟩) 3 3, .int .i64 (sadd (sadd (abv x) c.MaxDebt) (smul (c.Clients - 1) 17408)), .agg (cfgC c), .int .i64 (debtCapR c), .int .i64 (ddL c (abv x)), .agg (cfgC c), .int .i64 (limitSumL c), .int .i64 (ddL c (abv x)), .int .i64 (yL c (abv x)), .agg (cfgC c), .agg (cfgC c), .int .i64 (fanL c), .int .i64 (tcL c (fanL c)), .int .i64 (smul 2 (tcL c (fanL c))), .agg (cfgC c), .int .i64 (yL c (abv x)), .int .i64 (tcL c (yL c (abv x))), .int .i64 (smul 2 (tcL c (yL c (abv x)))), .slice (some ⟨g2, 0, none⟩) 3 3, .int .i64 (t0L c (yL c (abv x))), undef, undef, undef, undef, undef, undef, undef, undef, undef, undef, undef, undef, undef, undef, undef, undef, undef, undef, undef, undef, undef, undef, undef, undef, undef, undef, undef, undef, undef, undef, undef, undef, undef, undef, undef, undef, undef, undef, undef, undef, undef, undef, undef, undef, undef, undef, undef, undef, undef, undef, undef, undef, undef, undef, undef, undef, undef], []⟩ : Act) by kernel_rfl)) ?_
    have HW3 := Lib.hid (SumR.none hV3)
    clear hV3
    go_wp2_with fail
    refine wp_region_step (SumR wa) leL leL_refl leL_trans [] [0, 0, 0, 0, 0, 0, 0, 0, 0] [.pointer (some ⟨w.heap.size, 22, none⟩), .int .i64 c.MaxDebt, .pointer (some ⟨w.heap.size, 3, none⟩), .int .i64 c.MemBytes, .int .i64 (c.MaxDebt / c.MemBytes), .pointer (some ⟨w.heap.size, 4, none⟩), .int .i64 c.MaxImm, .int .i64 ((c.MaxDebt / c.MemBytes) + c.MaxImm), .int .i64 (((c.MaxDebt / c.MemBytes) + c.MaxImm) + 2)] 9 (by kernel_rfl) (by kernel_rfl) (SumR.drew HW3.out) ?_
    simp only [List.take_succ_cons, List.take_zero, List.drop_succ_cons, List.drop_zero]
    refine schain0 ?_
    refine @schain _ _ _ _ _ _ _ _ _ _ _ _ _ _ 41 (.pointer (some ⟨w.heap.size, 22, none⟩)) (by rfl) (by rfl) (by kernel_rfl) (by rfl) (by exact fun s' W2 hW => srun_fa (p := .pointer (some ⟨w.heap.size, 0, none⟩)) (by rfl) (by exact eval_base (by kernel_rfl) (by rfl)) (fun W => by first | kernel_rfl | go_simp) hW) ?_
    refine @schain _ _ _ _ _ _ _ _ _ _ _ _ _ _ 42 (.int .i64 c.MaxDebt) (by rfl) (by rfl) (by kernel_rfl) (by rfl) (by exact fun s' W2 hW => srun_ld (by rfl) (by exact eval_look (by kernel_rfl) (by kernel_rfl)) (ldInt _ _ _ _ (hW.cell c22)) hW) ?_
    refine @schain _ _ _ _ _ _ _ _ _ _ _ _ _ _ 43 (.pointer (some ⟨w.heap.size, 3, none⟩)) (by rfl) (by rfl) (by kernel_rfl) (by rfl) (by exact fun s' W2 hW => srun_fa (p := .pointer (some ⟨w.heap.size, 0, none⟩)) (by rfl) (by exact eval_base (by kernel_rfl) (by rfl)) (fun W => by first | kernel_rfl | go_simp) hW) ?_
    refine @schain _ _ _ _ _ _ _ _ _ _ _ _ _ _ 44 (.int .i64 c.MemBytes) (by rfl) (by rfl) (by kernel_rfl) (by rfl) (by exact fun s' W2 hW => srun_ld (by rfl) (by exact eval_look (by kernel_rfl) (by kernel_rfl)) (ldInt _ _ _ _ (hW.cell c3)) hW) ?_
    refine @schain _ _ _ _ _ _ _ _ _ _ _ _ _ _ 45 (.int .i64 (c.MaxDebt / c.MemBytes)) (by rfl) (by rfl) (by kernel_rfl) (by rfl) (by exact fun s' W2 hW => srun_bo (u := .int .i64 c.MaxDebt) (v := .int .i64 c.MemBytes) (by rfl) (by exact eval_look (by kernel_rfl) (by kernel_rfl)) (by exact eval_look (by kernel_rfl) (by kernel_rfl)) (fun W => quo_run _ _ _ _ _ n22 (p3) W) hW) ?_
    refine @schain _ _ _ _ _ _ _ _ _ _ _ _ _ _ 46 (.pointer (some ⟨w.heap.size, 4, none⟩)) (by rfl) (by rfl) (by kernel_rfl) (by rfl) (by exact fun s' W2 hW => srun_fa (p := .pointer (some ⟨w.heap.size, 0, none⟩)) (by rfl) (by exact eval_base (by kernel_rfl) (by rfl)) (fun W => by first | kernel_rfl | go_simp) hW) ?_
    refine @schain _ _ _ _ _ _ _ _ _ _ _ _ _ _ 47 (.int .i64 c.MaxImm) (by rfl) (by rfl) (by kernel_rfl) (by rfl) (by exact fun s' W2 hW => srun_ld (by rfl) (by exact eval_look (by kernel_rfl) (by kernel_rfl)) (ldInt _ _ _ _ (hW.cell c4)) hW) ?_
    refine @schain _ _ _ _ _ _ _ _ _ _ _ _ _ _ 48 (.int .i64 ((c.MaxDebt / c.MemBytes) + c.MaxImm)) (by rfl) (by rfl) (by kernel_rfl) (by rfl) (by exact fun s' W2 hW => srun_bo (u := .int .i64 (c.MaxDebt / c.MemBytes)) (v := .int .i64 c.MaxImm) (by rfl) (by exact eval_look (by kernel_rfl) (by kernel_rfl)) (by exact eval_look (by kernel_rfl) (by kernel_rfl)) (fun W => add_run _ _ _ _ _ z1 W) hW) ?_
    refine @schain _ _ _ _ _ _ _ _ _ _ _ _ _ _ 49 (.int .i64 (((c.MaxDebt / c.MemBytes) + c.MaxImm) + 2)) (by rfl) (by rfl) (by kernel_rfl) (by rfl) (by exact fun s' W2 hW => srun_bo (u := .int .i64 ((c.MaxDebt / c.MemBytes) + c.MaxImm)) (v := .int .i64 2) (by rfl) (by exact eval_look (by kernel_rfl) (by kernel_rfl)) (by rfl) (fun W => add_run _ _ _ _ _ z2 W) hW) ?_
    refine snil (fun V4 hV4 => ?_)
    refine Eq.mpr (congrArg (fun a => wpList _ _ _ _ a V4) (show _ = (⟨#[.agg (cfgC c), .int .i64 x, .pointer (some ⟨w.heap.size, 0, none⟩), undef, .int .i64 0, .int .i64 (ddL c (abv x)), .int .i64 (yL c (abv x)), .int .i64 (t0L c (yL c (abv x))), undef, undef, .agg (cfgC c), .bool true, .bool false, .int .i64 x, .int .i64 (abv x), .pointer (some ⟨w.heap.size, 22, none⟩), .int .i64 c.MaxDebt, .pointer (some ⟨w.heap.size, 0, none⟩), .int .i64 c.Clients, .int .i64 (c.Clients - 1), .int .i64 (smul (c.Clients - 1) 17408), .slice (some ⟨g1, 0, none⟩) 3 3, .int .i64 (sadd (sadd (abv x) c.MaxDebt) (smul (c.Clients - 1) 17408)), .agg (cfgC c), .int .i64 (debtCapR c), .int .i64 (ddL c (abv x)), .agg (cfgC c), .int .i64 (limitSumL c), .int .i64 (ddL c (abv x)), .int .i64 (yL c (abv x)), .agg (cfgC c), .agg (cfgC c), .int .i64 (fanL c), .int .i64 (tcL c (fanL c)), .int .i64 (smul 2 (tcL c (fanL c))), .agg (cfgC c), .int .i64 (yL c (abv x)), .int .i64 (tcL c (yL c (abv x))), .int .i64 (smul 2 (tcL c (yL c (abv x)))), .slice (some ⟨g2, 0, none⟩) 3 3, .int .i64 (t0L c (yL c (abv x))), .pointer (some ⟨w.heap.size, 22, none⟩), .int .i64 c.MaxDebt, .pointer (some ⟨w.heap.size, 3, none⟩), .int .i64 c.MemBytes, .int .i64 (c.MaxDebt / c.MemBytes), .pointer (some ⟨w.heap.size, 4, none⟩), .int .i64 c.MaxImm, .int .i64 ((c.MaxDebt / c.MemBytes) + c.MaxImm), .int .i64 (((c.MaxDebt / c.MemBytes) + c.MaxImm) + 2), undef, undef, undef, undef, undef, undef, undef, undef, undef, undef, undef, undef, undef, undef, undef, undef, undef, undef, undef, undef, undef, undef, undef, undef, undef, undef, undef, undef, undef, undef, undef, undef, undef, undef, undef, undef, undef, undef, undef, undef, undef, undef, undef, undef, undef, undef, undef, undef], []⟩ : Act) by kernel_rfl)) ?_
    have HW4 := Lib.hid (SumR.none hV4)
    clear hV4
    go_wp2_with fail
    refine wp_region_step (SumR wa) leL leL_refl leL_trans [] [0, 0, 0, 0, 0, 0, 0, 0, 0, 0, 0, 0, 0, 0, 0, 0, 0, 2, 1, 0] [.pointer (some ⟨w.heap.size, 8, none⟩), .int .i64 c.Levels, .int .i64 (yL c (abv x)), .int .i64 (smul c.Levels (yL c (abv x))), .int .i64 ((smul c.Levels (yL c (abv x))) / 450), .int .i64 (sadd ((smul c.Levels (yL c (abv x))) / 450) 2), .agg (cfgC c), .int .i64 (yL c (abv x)), .int .i64 (tcL c (yL c (abv x))), .agg (cfgC c), .agg (cfgC c), .int .i64 (fanL c), .int .i64 (tcL c (fanL c)), .agg (cfgC c), .agg (cfgC c), .int .i64 (memCapL c), .int .i64 (tfL c (memCapL c)), undef, undef, .int .i64 (smul (sadd ((smul c.Levels (yL c (abv x))) / 450) 2) (sadd (sadd (sadd (tcL c (yL c (abv x))) (tcL c (fanL c))) (tfL c (memCapL c))) 8))] 20 (by kernel_rfl) (by kernel_rfl) (SumR.drew HW4.out) ?_
    simp only [List.take_succ_cons, List.take_zero, List.drop_succ_cons, List.drop_zero]
    refine schain0 ?_
    refine @schain _ _ _ _ _ _ _ _ _ _ _ _ _ _ 50 (.pointer (some ⟨w.heap.size, 8, none⟩)) (by rfl) (by rfl) (by kernel_rfl) (by rfl) (by exact fun s' W2 hW => srun_fa (p := .pointer (some ⟨w.heap.size, 0, none⟩)) (by rfl) (by exact eval_base (by kernel_rfl) (by rfl)) (fun W => by first | kernel_rfl | go_simp) hW) ?_
    refine @schain _ _ _ _ _ _ _ _ _ _ _ _ _ _ 51 (.int .i64 c.Levels) (by rfl) (by rfl) (by kernel_rfl) (by rfl) (by exact fun s' W2 hW => srun_ld (by rfl) (by exact eval_look (by kernel_rfl) (by kernel_rfl)) (ldInt _ _ _ _ (hW.cell c8)) hW) ?_
    refine @schain _ _ _ _ _ _ _ _ _ _ _ _ _ _ 52 (.int .i64 (yL c (abv x))) (by rfl) (by rfl) (by kernel_rfl) (by rfl) (by exact fun s' W2 hW => srun_mv (by rfl) (by exact eval_base (by kernel_rfl) (by rfl)) hW) ?_
    refine @schain _ _ _ _ _ _ _ _ _ _ _ _ _ _ 53 (.int .i64 (smul c.Levels (yL c (abv x)))) (by rfl) (by rfl) (by kernel_rfl) (by rfl) (by exact fun s' W2 hW => srun_call (vs := #[.int .i64 c.Levels, .int .i64 (yL c (abv x))]) (by rfl) (by kernel_rfl) (enters_of Try.func37 (by kernel_rfl) (by rfl)) (scall_q hW (mulR_c _ _ (NI.i64 n8) (NI.i64 (yL_NI hr (abv_NI hx))) W2))) ?_
    refine @schain _ _ _ _ _ _ _ _ _ _ _ _ _ _ 54 (.int .i64 ((smul c.Levels (yL c (abv x))) / 450)) (by rfl) (by rfl) (by kernel_rfl) (by rfl) (by exact fun s' W2 hW => srun_bo (u := .int .i64 (smul c.Levels (yL c (abv x)))) (v := .int .i64 450) (by rfl) (by exact eval_look (by kernel_rfl) (by kernel_rfl)) (by rfl) (fun W => quo_run _ _ _ _ _ (NI.smul n8 (yL_NI hr (abv_NI hx))) ((by omega)) W) hW) ?_
    refine @schain _ _ _ _ _ _ _ _ _ _ _ _ _ _ 55 (.int .i64 (sadd ((smul c.Levels (yL c (abv x))) / 450) 2)) (by rfl) (by rfl) (by kernel_rfl) (by rfl) (by exact fun s' W2 hW => srun_call (vs := #[.int .i64 ((smul c.Levels (yL c (abv x))) / 450), .int .i64 2]) (by rfl) (by kernel_rfl) (enters_of Try.func35 (by kernel_rfl) (by rfl)) (scall_q hW (addR_c _ _ (NI.i64 (NI.div (NI.smul n8 (yL_NI hr (abv_NI hx))) ((by omega)))) (I64.lit (by omega) (by omega)) W2))) ?_
    refine @schain _ _ _ _ _ _ _ _ _ _ _ _ _ _ 56 (.agg (cfgC c)) (by rfl) (by rfl) (by kernel_rfl) (by rfl) (by exact fun s' W2 hW => srun_ld (by rfl) (by exact eval_base (by kernel_rfl) (by rfl)) (ldCfg c _ _ (hW.row HX.out)) hW) ?_
    refine @schain _ _ _ _ _ _ _ _ _ _ _ _ _ _ 57 (.int .i64 (yL c (abv x))) (by rfl) (by rfl) (by kernel_rfl) (by rfl) (by exact fun s' W2 hW => srun_mv (by rfl) (by exact eval_base (by kernel_rfl) (by rfl)) hW) ?_
    refine @schain _ _ _ _ _ _ _ _ _ _ _ _ _ _ 58 (.int .i64 (tcL c (yL c (abv x)))) (by rfl) (by rfl) (by kernel_rfl) (by rfl) (by exact fun s' W2 hW => srun_call (vs := #[.agg (cfgC c), .int .i64 (yL c (abv x))]) (by rfl) (by kernel_rfl) (enters_of Try.func44 (by kernel_rfl) (by rfl)) (scall_b hW (TCr_at c hc hr _ (yL_NI hr (abv_NI hx)) W2))) ?_
    refine @schain _ _ _ _ _ _ _ _ _ _ _ _ _ _ 59 (.agg (cfgC c)) (by rfl) (by rfl) (by kernel_rfl) (by rfl) (by exact fun s' W2 hW => srun_ld (by rfl) (by exact eval_base (by kernel_rfl) (by rfl)) (ldCfg c _ _ (hW.row HX.out)) hW) ?_
    refine @schain _ _ _ _ _ _ _ _ _ _ _ _ _ _ 60 (.agg (cfgC c)) (by rfl) (by rfl) (by kernel_rfl) (by rfl) (by exact fun s' W2 hW => srun_ld (by rfl) (by exact eval_base (by kernel_rfl) (by rfl)) (ldCfg c _ _ (hW.row HX.out)) hW) ?_
    refine @schain _ _ _ _ _ _ _ _ _ _ _ _ _ _ 61 (.int .i64 (fanL c)) (by rfl) (by rfl) (by kernel_rfl) (by rfl) (by exact fun s' W2 hW => srun_call (vs := #[.agg (cfgC c)]) (by rfl) (by kernel_rfl) (enters_of Try.func74 (by kernel_rfl) (by rfl)) (scall_b hW (jobMost_c c hc hr W2))) ?_
    refine @schain _ _ _ _ _ _ _ _ _ _ _ _ _ _ 62 (.int .i64 (tcL c (fanL c))) (by rfl) (by rfl) (by kernel_rfl) (by rfl) (by exact fun s' W2 hW => srun_call (vs := #[.agg (cfgC c), .int .i64 (fanL c)]) (by rfl) (by kernel_rfl) (enters_of Try.func44 (by kernel_rfl) (by rfl)) (scall_b hW (TCr_at c hc hr _ (fanL_NI hr) W2))) ?_
    refine @schain _ _ _ _ _ _ _ _ _ _ _ _ _ _ 63 (.agg (cfgC c)) (by rfl) (by rfl) (by kernel_rfl) (by rfl) (by exact fun s' W2 hW => srun_ld (by rfl) (by exact eval_base (by kernel_rfl) (by rfl)) (ldCfg c _ _ (hW.row HX.out)) hW) ?_
    refine @schain _ _ _ _ _ _ _ _ _ _ _ _ _ _ 64 (.agg (cfgC c)) (by rfl) (by rfl) (by kernel_rfl) (by rfl) (by exact fun s' W2 hW => srun_ld (by rfl) (by exact eval_base (by kernel_rfl) (by rfl)) (ldCfg c _ _ (hW.row HX.out)) hW) ?_
    refine @schain _ _ _ _ _ _ _ _ _ _ _ _ _ _ 65 (.int .i64 (memCapL c)) (by rfl) (by rfl) (by kernel_rfl) (by rfl) (by exact fun s' W2 hW => srun_call (vs := #[.agg (cfgC c)]) (by rfl) (by kernel_rfl) (enters_of Try.func29 (by kernel_rfl) (by rfl)) (scall_b hW (memCapR_at hc hr W2))) ?_
    refine @schain _ _ _ _ _ _ _ _ _ _ _ _ _ _ 66 (.int .i64 (tfL c (memCapL c))) (by rfl) (by rfl) (by kernel_rfl) (by rfl) (by exact fun s' W2 hW => srun_call (vs := #[.agg (cfgC c), .int .i64 (memCapL c)]) (by rfl) (by kernel_rfl) (enters_of Try.func43 (by kernel_rfl) (by rfl)) (scall_b hW (TFr_at c hc hr _ (memCapL_NI hr) W2))) ?_
    refine @schainT _ _ _ _ _ _ _ _ _ _ _ _ _ _ 67 (fun v s' => ∃ g, v = .slice (some ⟨g, 0, none⟩) 4 4 ∧ s' = (g, [(tcL c (yL c (abv x))), (tcL c (fanL c)), (tfL c (memCapL c)), 8]) :: []) (by rfl) (by kernel_rfl) (by rfl) ⟨_, _, 0, rfl, rfl⟩ (fun _ _ ⟨_, _, h⟩ => h ▸ fun _ hp => List.mem_cons_of_mem _ hp) (by exact fun W2 hW => srun_bs (e := 3) (vs := #[(0, .int .i64 (tcL c (yL c (abv x)))), (1, .int .i64 (tcL c (fanL c))), (2, .int .i64 (tfL c (memCapL c))), (3, .int .i64 8)]) (cells := #[.int .i64 (tcL c (yL c (abv x))), .int .i64 (tcL c (fanL c)), .int .i64 (tfL c (memCapL c)), .int .i64 8]) (by rfl) (by kernel_rfl) (fun W => by go_simp) (by rfl) (by show 4 ≤ 9223372036854775807; omega) hW) (fun x s' hx => ?_)
    obtain ⟨g3, rfl, rfl⟩ := hx
    refine @schain1 _ _ _ _ _ _ _ _ _ _ _ _ _ _ 68 (.int .i64 (sadd (sadd (sadd (tcL c (yL c (abv x))) (tcL c (fanL c))) (tfL c (memCapL c))) 8)) (by rfl) (by kernel_rfl) (by rfl) (by exact fun s' hs W2 hW => srun_call (vs := #[.slice (some ⟨g3, 0, none⟩) 4 4]) (by rfl) (by kernel_rfl) (enters_of Try.func73 (by kernel_rfl) (by rfl)) (sum_at hW (hs _ List.mem_cons_self) (allI_cons (NI.i64 (tcL_NI hr (yL_NI hr (abv_NI hx)))) (allI_cons (NI.i64 (tcL_NI hr (fanL_NI hr))) (allI_cons (NI.i64 (tfL_NI hr (memCapL_NI hr))) (allI_cons (I64.lit (by omega) (by omega)) allI_nil)))))) ?_
    refine @schain _ _ _ _ _ _ _ _ _ _ _ _ _ _ 69 (.int .i64 (smul (sadd ((smul c.Levels (yL c (abv x))) / 450) 2) (sadd (sadd (sadd (tcL c (yL c (abv x))) (tcL c (fanL c))) (tfL c (memCapL c))) 8))) (by rfl) (by rfl) (by kernel_rfl) (by rfl) (by exact fun s' W2 hW => srun_call (vs := #[.int .i64 (sadd ((smul c.Levels (yL c (abv x))) / 450) 2), .int .i64 (sadd (sadd (sadd (tcL c (yL c (abv x))) (tcL c (fanL c))) (tfL c (memCapL c))) 8)]) (by rfl) (by kernel_rfl) (enters_of Try.func37 (by kernel_rfl) (by rfl)) (scall_q hW (mulR_c _ _ (sadd_I64 _ _) (sadd_I64 _ _) W2))) ?_
    refine snil (fun V5 hV5 => ?_)
    refine Eq.mpr (congrArg (fun a => wpList _ _ _ _ a V5) (show _ = (⟨#[.agg (cfgC c), .int .i64 x, .pointer (some ⟨w.heap.size, 0, none⟩), undef, .int .i64 0, .int .i64 (ddL c (abv x)), .int .i64 (yL c (abv x)), .int .i64 (t0L c (yL c (abv x))), .int .i64 (((c.MaxDebt / c.MemBytes) + c.MaxImm) + 2), undef, .agg (cfgC c), .bool true, .bool false, .int .i64 x, .int .i64 (abv x), .pointer (some ⟨w.heap.size, 22, none⟩), .int .i64 c.MaxDebt, .pointer (some ⟨w.heap.size, 0, none⟩), .int .i64 c.Clients, .int .i64 (c.Clients - 1), .int .i64 (smul (c.Clients - 1) 17408), .slice (some ⟨g1, 0, none⟩) 3 3, .int .i64 (sadd (sadd (abv x) c.MaxDebt) (smul (c.Clients - 1) 17408)), .agg (cfgC c), .int .i64 (debtCapR c), .int .i64 (ddL c (abv x)), .agg (cfgC c), .int .i64 (limitSumL c), .int .i64 (ddL c (abv x)), .int .i64 (yL c (abv x)), .agg (cfgC c), .agg (cfgC c), .int .i64 (fanL c), .int .i64 (tcL c (fanL c)), .int .i64 (smul 2 (tcL c (fanL c))), .agg (cfgC c), .int .i64 (yL c (abv x)), .int .i64 (tcL c (yL c (abv x))), .int .i64 (smul 2 (tcL c (yL c (abv x)))), .slice (some ⟨g2, 0, none⟩) 3 3, .int .i64 (t0L c (yL c (abv x))), .pointer (some ⟨w.heap.size, 22, none⟩), .int .i64 c.MaxDebt, .pointer (some ⟨w.heap.size, 3, none⟩), .int .i64 c.MemBytes, .int .i64 (c.MaxDebt / c.MemBytes), .pointer (some ⟨w.heap.size, 4, none⟩), .int .i64 c.MaxImm, .int .i64 ((c.MaxDebt / c.MemBytes) + c.MaxImm), .int .i64 (((c.MaxDebt / c.MemBytes) + c.MaxImm) + 2), .pointer (some ⟨w.heap.size, 8, none⟩), .int .i64 c.Levels, .int .i64 (yL c (abv x)), .int .i64 (smul c.Levels (yL c (abv x))), .int .i64 ((smul c.Levels (yL c (abv x))) / 450), .int .i64 (sadd ((smul c.Levels (yL c (abv x))) / 450) 2), .agg (cfgC c), .int .i64 (yL c (abv x)), .int .i64 (tcL c (yL c (abv x))), .agg (cfgC c), .agg (cfgC c), .int .i64 (fanL c), .int .i64 (tcL c (fanL c)), .agg (cfgC c), .agg (cfgC c), .int .i64 (memCapL c), .int .i64 (tfL c (memCapL c)), .slice (some ⟨g3, 0, none⟩) 4 4, .int .i64 (sadd (sadd (sadd (tcL c (yL c (abv x))) (tcL c (fanL c))) (tfL c (memCapL c))) 8), .int .i64 (tdL c (yL c (abv x))), undef, undef, undef, undef, undef, undef, undef, undef, undef, undef, undef, undef, undef, undef, undef, undef, undef, undef, undef, undef, undef, undef, undef, undef, undef, undef, undef, undef], []⟩ : Act) by kernel_rfl)) ?_
    have HW5 := Lib.hid (SumR.none hV5)
    clear hV5
    go_wp2_with fail
    refine wp_region_step (SumR wa) leL leL_refl leL_trans [] [0, 0, 0, 0, 0, 0, 0, 0, 0, 0, 0, 0, 0, 0, 0, 0, 2, 1, 0, 0, 0, 0, 0, 0, 0, 2, 1, 0] [.pointer (some ⟨w.heap.size, 0, none⟩), .int .i64 c.Clients, .int .i64 (((c.MaxDebt / c.MemBytes) + c.MaxImm) + 2), .int .i64 ((((c.MaxDebt / c.MemBytes) + c.MaxImm) + 2) + 2), .int .i64 (t0L c (yL c (abv x))), .int .i64 (sadd (t0L c (yL c (abv x))) 2), .int .i64 (smul ((((c.MaxDebt / c.MemBytes) + c.MaxImm) + 2) + 2) (sadd (t0L c (yL c (abv x))) 2)), .int .i64 (tdL c (yL c (abv x))), .pointer (some ⟨w.heap.size, 4, none⟩), .int .i64 c.MaxImm, .int .i64 (c.MaxImm + 1), .int .i64 (t0L c (yL c (abv x))), .agg (cfgC c), .agg (cfgC c), .int .i64 (memCapL c), .int .i64 (tfL c (memCapL c)), undef, undef, .int .i64 (smul (c.MaxImm + 1) (sadd (sadd (t0L c (yL c (abv x))) (tfL c (memCapL c))) 2)), .pointer (some ⟨w.heap.size, 19, none⟩), .int .i64 c.SlowRate, .int .i64 (17408 / c.SlowRate), .pointer (some ⟨w.heap.size, 0, none⟩), .int .i64 c.Clients, .int .i64 (18 * c.Clients), undef, undef, .int .i64 (smul c.Clients (sadd (sadd (sadd (sadd (sadd (smul ((((c.MaxDebt / c.MemBytes) + c.MaxImm) + 2) + 2) (sadd (t0L c (yL c (abv x))) 2)) (tdL c (yL c (abv x)))) (smul (c.MaxImm + 1) (sadd (sadd (t0L c (yL c (abv x))) (tfL c (memCapL c))) 2))) (17408 / c.SlowRate)) (18 * c.Clients)) 24))] 28 (by kernel_rfl) (by kernel_rfl) (SumR.drew HW5.out) ?_
    simp only [List.take_succ_cons, List.take_zero, List.drop_succ_cons, List.drop_zero]
    refine schain0 ?_
    refine @schain _ _ _ _ _ _ _ _ _ _ _ _ _ _ 70 (.pointer (some ⟨w.heap.size, 0, none⟩)) (by rfl) (by rfl) (by kernel_rfl) (by rfl) (by exact fun s' W2 hW => srun_fa (p := .pointer (some ⟨w.heap.size, 0, none⟩)) (by rfl) (by exact eval_base (by kernel_rfl) (by rfl)) (fun W => by first | kernel_rfl | go_simp) hW) ?_
    refine @schain _ _ _ _ _ _ _ _ _ _ _ _ _ _ 71 (.int .i64 c.Clients) (by rfl) (by rfl) (by kernel_rfl) (by rfl) (by exact fun s' W2 hW => srun_ld (by rfl) (by exact eval_look (by kernel_rfl) (by kernel_rfl)) (ldInt _ _ _ _ (hW.cell c0)) hW) ?_
    refine @schain _ _ _ _ _ _ _ _ _ _ _ _ _ _ 72 (.int .i64 (((c.MaxDebt / c.MemBytes) + c.MaxImm) + 2)) (by rfl) (by rfl) (by kernel_rfl) (by rfl) (by exact fun s' W2 hW => srun_mv (by rfl) (by exact eval_base (by kernel_rfl) (by rfl)) hW) ?_
    refine @schain _ _ _ _ _ _ _ _ _ _ _ _ _ _ 73 (.int .i64 ((((c.MaxDebt / c.MemBytes) + c.MaxImm) + 2) + 2)) (by rfl) (by rfl) (by kernel_rfl) (by rfl) (by exact fun s' W2 hW => srun_bo (u := .int .i64 (((c.MaxDebt / c.MemBytes) + c.MaxImm) + 2)) (v := .int .i64 2) (by rfl) (by exact eval_look (by kernel_rfl) (by kernel_rfl)) (by rfl) (fun W => add_run _ _ _ _ _ z3 W) hW) ?_
    refine @schain _ _ _ _ _ _ _ _ _ _ _ _ _ _ 74 (.int .i64 (t0L c (yL c (abv x)))) (by rfl) (by rfl) (by kernel_rfl) (by rfl) (by exact fun s' W2 hW => srun_mv (by rfl) (by exact eval_base (by kernel_rfl) (by rfl)) hW) ?_
    refine @schain _ _ _ _ _ _ _ _ _ _ _ _ _ _ 75 (.int .i64 (sadd (t0L c (yL c (abv x))) 2)) (by rfl) (by rfl) (by kernel_rfl) (by rfl) (by exact fun s' W2 hW => srun_call (vs := #[.int .i64 (t0L c (yL c (abv x))), .int .i64 2]) (by rfl) (by kernel_rfl) (enters_of Try.func35 (by kernel_rfl) (by rfl)) (scall_q hW (addR_c _ _ (NI.i64 (t0L_NI hr (yL_NI hr (abv_NI hx)))) (I64.lit (by omega) (by omega)) W2))) ?_
    refine @schain _ _ _ _ _ _ _ _ _ _ _ _ _ _ 76 (.int .i64 (smul ((((c.MaxDebt / c.MemBytes) + c.MaxImm) + 2) + 2) (sadd (t0L c (yL c (abv x))) 2))) (by rfl) (by rfl) (by kernel_rfl) (by rfl) (by exact fun s' W2 hW => srun_call (vs := #[.int .i64 ((((c.MaxDebt / c.MemBytes) + c.MaxImm) + 2) + 2), .int .i64 (sadd (t0L c (yL c (abv x))) 2)]) (by rfl) (by kernel_rfl) (enters_of Try.func37 (by kernel_rfl) (by rfl)) (scall_q hW (mulR_c _ _ (NI.i64 z3) (sadd_I64 _ _) W2))) ?_
    refine @schain _ _ _ _ _ _ _ _ _ _ _ _ _ _ 77 (.int .i64 (tdL c (yL c (abv x)))) (by rfl) (by rfl) (by kernel_rfl) (by rfl) (by exact fun s' W2 hW => srun_mv (by rfl) (by exact eval_base (by kernel_rfl) (by rfl)) hW) ?_
    refine @schain _ _ _ _ _ _ _ _ _ _ _ _ _ _ 78 (.pointer (some ⟨w.heap.size, 4, none⟩)) (by rfl) (by rfl) (by kernel_rfl) (by rfl) (by exact fun s' W2 hW => srun_fa (p := .pointer (some ⟨w.heap.size, 0, none⟩)) (by rfl) (by exact eval_base (by kernel_rfl) (by rfl)) (fun W => by first | kernel_rfl | go_simp) hW) ?_
    refine @schain _ _ _ _ _ _ _ _ _ _ _ _ _ _ 79 (.int .i64 c.MaxImm) (by rfl) (by rfl) (by kernel_rfl) (by rfl) (by exact fun s' W2 hW => srun_ld (by rfl) (by exact eval_look (by kernel_rfl) (by kernel_rfl)) (ldInt _ _ _ _ (hW.cell c4)) hW) ?_
    refine @schain _ _ _ _ _ _ _ _ _ _ _ _ _ _ 80 (.int .i64 (c.MaxImm + 1)) (by rfl) (by rfl) (by kernel_rfl) (by rfl) (by exact fun s' W2 hW => srun_bo (u := .int .i64 c.MaxImm) (v := .int .i64 1) (by rfl) (by exact eval_look (by kernel_rfl) (by kernel_rfl)) (by rfl) (fun W => add_run _ _ _ _ _ z4 W) hW) ?_
    refine @schain _ _ _ _ _ _ _ _ _ _ _ _ _ _ 81 (.int .i64 (t0L c (yL c (abv x)))) (by rfl) (by rfl) (by kernel_rfl) (by rfl) (by exact fun s' W2 hW => srun_mv (by rfl) (by exact eval_base (by kernel_rfl) (by rfl)) hW) ?_
    refine @schain _ _ _ _ _ _ _ _ _ _ _ _ _ _ 82 (.agg (cfgC c)) (by rfl) (by rfl) (by kernel_rfl) (by rfl) (by exact fun s' W2 hW => srun_ld (by rfl) (by exact eval_base (by kernel_rfl) (by rfl)) (ldCfg c _ _ (hW.row HX.out)) hW) ?_
    refine @schain _ _ _ _ _ _ _ _ _ _ _ _ _ _ 83 (.agg (cfgC c)) (by rfl) (by rfl) (by kernel_rfl) (by rfl) (by exact fun s' W2 hW => srun_ld (by rfl) (by exact eval_base (by kernel_rfl) (by rfl)) (ldCfg c _ _ (hW.row HX.out)) hW) ?_
    refine @schain _ _ _ _ _ _ _ _ _ _ _ _ _ _ 84 (.int .i64 (memCapL c)) (by rfl) (by rfl) (by kernel_rfl) (by rfl) (by exact fun s' W2 hW => srun_call (vs := #[.agg (cfgC c)]) (by rfl) (by kernel_rfl) (enters_of Try.func29 (by kernel_rfl) (by rfl)) (scall_b hW (memCapR_at hc hr W2))) ?_
    refine @schain _ _ _ _ _ _ _ _ _ _ _ _ _ _ 85 (.int .i64 (tfL c (memCapL c))) (by rfl) (by rfl) (by kernel_rfl) (by rfl) (by exact fun s' W2 hW => srun_call (vs := #[.agg (cfgC c), .int .i64 (memCapL c)]) (by rfl) (by kernel_rfl) (enters_of Try.func43 (by kernel_rfl) (by rfl)) (scall_b hW (TFr_at c hc hr _ (memCapL_NI hr) W2))) ?_
    refine @schainT _ _ _ _ _ _ _ _ _ _ _ _ _ _ 86 (fun v s' => ∃ g, v = .slice (some ⟨g, 0, none⟩) 3 3 ∧ s' = (g, [(t0L c (yL c (abv x))), (tfL c (memCapL c)), 2]) :: []) (by rfl) (by kernel_rfl) (by rfl) ⟨_, _, 0, rfl, rfl⟩ (fun _ _ ⟨_, _, h⟩ => h ▸ fun _ hp => List.mem_cons_of_mem _ hp) (by exact fun W2 hW => srun_bs (e := 3) (vs := #[(0, .int .i64 (t0L c (yL c (abv x)))), (1, .int .i64 (tfL c (memCapL c))), (2, .int .i64 2)]) (cells := #[.int .i64 (t0L c (yL c (abv x))), .int .i64 (tfL c (memCapL c)), .int .i64 2]) (by rfl) (by kernel_rfl) (fun W => by go_simp) (by rfl) (by show 3 ≤ 9223372036854775807; omega) hW) (fun x s' hx => ?_)
    obtain ⟨g4, rfl, rfl⟩ := hx
    refine @schain1 _ _ _ _ _ _ _ _ _ _ _ _ _ _ 87 (.int .i64 (sadd (sadd (t0L c (yL c (abv x))) (tfL c (memCapL c))) 2)) (by rfl) (by kernel_rfl) (by rfl) (by exact fun s' hs W2 hW => srun_call (vs := #[.slice (some ⟨g4, 0, none⟩) 3 3]) (by rfl) (by kernel_rfl) (enters_of Try.func73 (by kernel_rfl) (by rfl)) (sum_at hW (hs _ List.mem_cons_self) (allI_cons (NI.i64 (t0L_NI hr (yL_NI hr (abv_NI hx)))) (allI_cons (NI.i64 (tfL_NI hr (memCapL_NI hr))) (allI_cons (I64.lit (by omega) (by omega)) allI_nil))))) ?_
    refine @schain _ _ _ _ _ _ _ _ _ _ _ _ _ _ 88 (.int .i64 (smul (c.MaxImm + 1) (sadd (sadd (t0L c (yL c (abv x))) (tfL c (memCapL c))) 2))) (by rfl) (by rfl) (by kernel_rfl) (by rfl) (by exact fun s' W2 hW => srun_call (vs := #[.int .i64 (c.MaxImm + 1), .int .i64 (sadd (sadd (t0L c (yL c (abv x))) (tfL c (memCapL c))) 2)]) (by rfl) (by kernel_rfl) (enters_of Try.func37 (by kernel_rfl) (by rfl)) (scall_q hW (mulR_c _ _ (NI.i64 z4) (sadd_I64 _ _) W2))) ?_
    refine @schain _ _ _ _ _ _ _ _ _ _ _ _ _ _ 89 (.pointer (some ⟨w.heap.size, 19, none⟩)) (by rfl) (by rfl) (by kernel_rfl) (by rfl) (by exact fun s' W2 hW => srun_fa (p := .pointer (some ⟨w.heap.size, 0, none⟩)) (by rfl) (by exact eval_base (by kernel_rfl) (by rfl)) (fun W => by first | kernel_rfl | go_simp) hW) ?_
    refine @schain _ _ _ _ _ _ _ _ _ _ _ _ _ _ 90 (.int .i64 c.SlowRate) (by rfl) (by rfl) (by kernel_rfl) (by rfl) (by exact fun s' W2 hW => srun_ld (by rfl) (by exact eval_look (by kernel_rfl) (by kernel_rfl)) (ldInt _ _ _ _ (hW.cell c19)) hW) ?_
    refine @schain _ _ _ _ _ _ _ _ _ _ _ _ _ _ 91 (.int .i64 (17408 / c.SlowRate)) (by rfl) (by rfl) (by kernel_rfl) (by rfl) (by exact fun s' W2 hW => srun_bo (u := .int .i64 17408) (v := .int .i64 c.SlowRate) (by rfl) (by rfl) (by exact eval_look (by kernel_rfl) (by kernel_rfl)) (fun W => quo_run _ _ _ _ _ (NI.lit (by omega) (by omega)) (p19) W) hW) ?_
    refine @schain _ _ _ _ _ _ _ _ _ _ _ _ _ _ 92 (.pointer (some ⟨w.heap.size, 0, none⟩)) (by rfl) (by rfl) (by kernel_rfl) (by rfl) (by exact fun s' W2 hW => srun_fa (p := .pointer (some ⟨w.heap.size, 0, none⟩)) (by rfl) (by exact eval_base (by kernel_rfl) (by rfl)) (fun W => by first | kernel_rfl | go_simp) hW) ?_
    refine @schain _ _ _ _ _ _ _ _ _ _ _ _ _ _ 93 (.int .i64 c.Clients) (by rfl) (by rfl) (by kernel_rfl) (by rfl) (by exact fun s' W2 hW => srun_ld (by rfl) (by exact eval_look (by kernel_rfl) (by kernel_rfl)) (ldInt _ _ _ _ (hW.cell c0)) hW) ?_
    refine @schain _ _ _ _ _ _ _ _ _ _ _ _ _ _ 94 (.int .i64 (18 * c.Clients)) (by rfl) (by rfl) (by kernel_rfl) (by rfl) (by exact fun s' W2 hW => srun_bo (u := .int .i64 18) (v := .int .i64 c.Clients) (by rfl) (by rfl) (by exact eval_look (by kernel_rfl) (by kernel_rfl)) (fun W => mul_run _ _ _ _ _ z5 W) hW) ?_
    refine @schainT _ _ _ _ _ _ _ _ _ _ _ _ _ _ 95 (fun v s' => ∃ g, v = .slice (some ⟨g, 0, none⟩) 6 6 ∧ s' = (g, [(smul ((((c.MaxDebt / c.MemBytes) + c.MaxImm) + 2) + 2) (sadd (t0L c (yL c (abv x))) 2)), (tdL c (yL c (abv x))), (smul (c.MaxImm + 1) (sadd (sadd (t0L c (yL c (abv x))) (tfL c (memCapL c))) 2)), (17408 / c.SlowRate), (18 * c.Clients), 24]) :: ((g4, [(t0L c (yL c (abv x))), (tfL c (memCapL c)), 2]) :: [])) (by rfl) (by kernel_rfl) (by rfl) ⟨_, _, 0, rfl, rfl⟩ (fun _ _ ⟨_, _, h⟩ => h ▸ fun _ hp => List.mem_cons_of_mem _ hp) (by exact fun W2 hW => srun_bs (e := 3) (vs := #[(0, .int .i64 (smul ((((c.MaxDebt / c.MemBytes) + c.MaxImm) + 2) + 2) (sadd (t0L c (yL c (abv x))) 2))), (1, .int .i64 (tdL c (yL c (abv x)))), (2, .int .i64 (smul (c.MaxImm + 1) (sadd (sadd (t0L c (yL c (abv x))) (tfL c (memCapL c))) 2))), (3, .int .i64 (17408 / c.SlowRate)), (4, .int .i64 (18 * c.Clients)), (5, .int .i64 24)]) (cells := #[.int .i64 (smul ((((c.MaxDebt / c.MemBytes) + c.MaxImm) + 2) + 2) (sadd (t0L c (yL c (abv x))) 2)), .int .i64 (tdL c (yL c (abv x))), .int .i64 (smul (c.MaxImm + 1) (sadd (sadd (t0L c (yL c (abv x))) (tfL c (memCapL c))) 2)), .int .i64 (17408 / c.SlowRate), .int .i64 (18 * c.Clients), .int .i64 24]) (by rfl) (by kernel_rfl) (fun W => by go_simp) (by rfl) (by show 6 ≤ 9223372036854775807; omega) hW) (fun x s' hx => ?_)
    obtain ⟨g5, rfl, rfl⟩ := hx
    refine @schain1 _ _ _ _ _ _ _ _ _ _ _ _ _ _ 96 (.int .i64 (sadd (sadd (sadd (sadd (sadd (smul ((((c.MaxDebt / c.MemBytes) + c.MaxImm) + 2) + 2) (sadd (t0L c (yL c (abv x))) 2)) (tdL c (yL c (abv x)))) (smul (c.MaxImm + 1) (sadd (sadd (t0L c (yL c (abv x))) (tfL c (memCapL c))) 2))) (17408 / c.SlowRate)) (18 * c.Clients)) 24)) (by rfl) (by kernel_rfl) (by rfl) (by exact fun s' hs W2 hW => srun_call (vs := #[.slice (some ⟨g5, 0, none⟩) 6 6]) (by rfl) (by kernel_rfl) (enters_of Try.func73 (by kernel_rfl) (by rfl)) (sum_at hW (hs _ List.mem_cons_self) (allI_cons (smul_I64 _ _) (allI_cons (NI.i64 (tdL_NI hr (yL_NI hr (abv_NI hx)))) (allI_cons (smul_I64 _ _) (allI_cons (NI.i64 (NI.div (NI.lit (by omega) (by omega)) (p19))) (allI_cons (NI.i64 z5) (allI_cons (I64.lit (by omega) (by omega)) allI_nil)))))))) ?_
    refine @schain _ _ _ _ _ _ _ _ _ _ _ _ _ _ 97 (.int .i64 (smul c.Clients (sadd (sadd (sadd (sadd (sadd (smul ((((c.MaxDebt / c.MemBytes) + c.MaxImm) + 2) + 2) (sadd (t0L c (yL c (abv x))) 2)) (tdL c (yL c (abv x)))) (smul (c.MaxImm + 1) (sadd (sadd (t0L c (yL c (abv x))) (tfL c (memCapL c))) 2))) (17408 / c.SlowRate)) (18 * c.Clients)) 24))) (by rfl) (by rfl) (by kernel_rfl) (by rfl) (by exact fun s' W2 hW => srun_call (vs := #[.int .i64 c.Clients, .int .i64 (sadd (sadd (sadd (sadd (sadd (smul ((((c.MaxDebt / c.MemBytes) + c.MaxImm) + 2) + 2) (sadd (t0L c (yL c (abv x))) 2)) (tdL c (yL c (abv x)))) (smul (c.MaxImm + 1) (sadd (sadd (t0L c (yL c (abv x))) (tfL c (memCapL c))) 2))) (17408 / c.SlowRate)) (18 * c.Clients)) 24)]) (by rfl) (by kernel_rfl) (enters_of Try.func37 (by kernel_rfl) (by rfl)) (scall_q hW (mulR_c _ _ (NI.i64 n0) (sadd_I64 _ _) W2))) ?_
    refine snil (fun V6 hV6 => ?_)
    refine Eq.mpr (congrArg (fun a => wpList _ _ _ _ a V6) (show _ = (⟨#[.agg (cfgC c), .int .i64 x, .pointer (some ⟨w.heap.size, 0, none⟩), undef, .int .i64 0, .int .i64 (ddL c (abv x)), .int .i64 (yL c (abv x)), .int .i64 (t0L c (yL c (abv x))), .int .i64 (((c.MaxDebt / c.MemBytes) + c.MaxImm) + 2), .int .i64 (tdL c (yL c (abv x))), .agg (cfgC c), .bool true, .bool false, .int .i64 x, .int .i64 (abv x), .pointer (some ⟨w.heap.size, 22, none⟩), .int .i64 c.MaxDebt, .pointer (some ⟨w.heap.size, 0, none⟩), .int .i64 c.Clients, .int .i64 (c.Clients - 1), .int .i64 (smul (c.Clients - 1) 17408), .slice (some ⟨g1, 0, none⟩) 3 3, .int .i64 (sadd (sadd (abv x) c.MaxDebt) (smul (c.Clients - 1) 17408)), .agg (cfgC c), .int .i64 (debtCapR c), .int .i64 (ddL c (abv x)), .agg (cfgC c), .int .i64 (limitSumL c), .int .i64 (ddL c (abv x)), .int .i64 (yL c (abv x)), .agg (cfgC c), .agg (cfgC c), .int .i64 (fanL c), .int .i64 (tcL c (fanL c)), .int .i64 (smul 2 (tcL c (fanL c))), .agg (cfgC c), .int .i64 (yL c (abv x)), .int .i64 (tcL c (yL c (abv x))), .int .i64 (smul 2 (tcL c (yL c (abv x)))), .slice (some ⟨g2, 0, none⟩) 3 3, .int .i64 (t0L c (yL c (abv x))), .pointer (some ⟨w.heap.size, 22, none⟩), .int .i64 c.MaxDebt, .pointer (some ⟨w.heap.size, 3, none⟩), .int .i64 c.MemBytes, .int .i64 (c.MaxDebt / c.MemBytes), .pointer (some ⟨w.heap.size, 4, none⟩), .int .i64 c.MaxImm, .int .i64 ((c.MaxDebt / c.MemBytes) + c.MaxImm), .int .i64 (((c.MaxDebt / c.MemBytes) + c.MaxImm) + 2), .pointer (some ⟨w.heap.size, 8, none⟩), .int .i64 c.Levels, .int .i64 (yL c (abv x)), .int .i64 (smul c.Levels (yL c (abv x))), .int .i64 ((smul c.Levels (yL c (abv x))) / 450), .int .i64 (sadd ((smul c.Levels (yL c (abv x))) / 450) 2), .agg (cfgC c), .int .i64 (yL c (abv x)), .int .i64 (tcL c (yL c (abv x))), .agg (cfgC c), .agg (cfgC c), .int .i64 (fanL c), .int .i64 (tcL c (fanL c)), .agg (cfgC c), .agg (cfgC c), .int .i64 (memCapL c), .int .i64 (tfL c (memCapL c)), .slice (some ⟨g3, 0, none⟩) 4 4, .int .i64 (sadd (sadd (sadd (tcL c (yL c (abv x))) (tcL c (fanL c))) (tfL c (memCapL c))) 8), .int .i64 (tdL c (yL c (abv x))), .pointer (some ⟨w.heap.size, 0, none⟩), .int .i64 c.Clients, .int .i64 (((c.MaxDebt / c.MemBytes) + c.MaxImm) + 2), .int .i64 ((((c.MaxDebt / c.MemBytes) + c.MaxImm) + 2) + 2), .int .i64 (t0L c (yL c (abv x))), .int .i64 (sadd (t0L c (yL c (abv x))) 2), .int .i64 (smul ((((c.MaxDebt / c.MemBytes) + c.MaxImm) + 2) + 2) (sadd (t0L c (yL c (abv x))) 2)), .int .i64 (tdL c (yL c (abv x))), .pointer (some ⟨w.heap.size, 4, none⟩), .int .i64 c.MaxImm, .int .i64 (c.MaxImm + 1), .int .i64 (t0L c (yL c (abv x))), .agg (cfgC c), .agg (cfgC c), .int .i64 (memCapL c), .int .i64 (tfL c (memCapL c)), .slice (some ⟨g4, 0, none⟩) 3 3, .int .i64 (sadd (sadd (t0L c (yL c (abv x))) (tfL c (memCapL c))) 2), .int .i64 (smul (c.MaxImm + 1) (sadd (sadd (t0L c (yL c (abv x))) (tfL c (memCapL c))) 2)), .pointer (some ⟨w.heap.size, 19, none⟩), .int .i64 c.SlowRate, .int .i64 (17408 / c.SlowRate), .pointer (some ⟨w.heap.size, 0, none⟩), .int .i64 c.Clients, .int .i64 (18 * c.Clients), .slice (some ⟨g5, 0, none⟩) 6 6, .int .i64 (sadd (sadd (sadd (sadd (sadd (smul ((((c.MaxDebt / c.MemBytes) + c.MaxImm) + 2) + 2) (sadd (t0L c (yL c (abv x))) 2)) (tdL c (yL c (abv x)))) (smul (c.MaxImm + 1) (sadd (sadd (t0L c (yL c (abv x))) (tfL c (memCapL c))) 2))) (17408 / c.SlowRate)) (18 * c.Clients)) 24), .int .i64 (smul c.Clients (sadd (sadd (sadd (sadd (sadd (smul ((((c.MaxDebt / c.MemBytes) + c.MaxImm) + 2) + 2) (sadd (t0L c (yL c (abv x))) 2)) (tdL c (yL c (abv x)))) (smul (c.MaxImm + 1) (sadd (sadd (t0L c (yL c (abv x))) (tfL c (memCapL c))) 2))) (17408 / c.SlowRate)) (18 * c.Clients)) 24))], []⟩ : Act) by kernel_rfl)) ?_
    have HW6 := Lib.hid (SumR.none hV6)
    clear hV6
    clear HX
    go_wp2
    go_ret
    exact ⟨by rw [HE.out]; rfl, HBA.out.trans (HW6.out.1.mono HBA.out.size)⟩
theorem B1r_x (c : Cfg) (hc : CfgOk c) (hr : rightL c = true) (x : Int) (hx : I64 x) (w : World) : Calls Try.prog 45 #[cfgV c, .int .i64 x] w fun e w' => e = .returned (.int .i64 (b1L c (abv x))) ∧ Below w.heap.size w w' := by
  have := B1r_c c hc x hx w
  rwa [iR_pos hr] at this
set_option maxHeartbeats 3200000 in
set_option maxRecDepth 100000 in
theorem B2r_c (c : Cfg) (hc : CfgOk c) (x : Int) (hx : I64 x) (w : World) : Calls Try.prog 46 #[cfgV c, .int .i64 x] w fun e w' => e = .returned (.int .i64 (iR c (b2L c (abv x)))) ∧ Below w.heap.size w w' := by
  have c22 : (w.alloc (.cells (cfgC c) 23)).cell? ⟨w.heap.size, 22, none⟩ = some (.int .i64 c.MaxDebt) := (blk_cell (cfgBlk c w) 22).trans rfl
  have c0 : (w.alloc (.cells (cfgC c) 23)).cell? ⟨w.heap.size, 0, none⟩ = some (.int .i64 c.Clients) := (blk_cell (cfgBlk c w) 0).trans rfl
  have c4 : (w.alloc (.cells (cfgC c) 23)).cell? ⟨w.heap.size, 4, none⟩ = some (.int .i64 c.MaxImm) := (blk_cell (cfgBlk c w) 4).trans rfl
  have c8 : (w.alloc (.cells (cfgC c) 23)).cell? ⟨w.heap.size, 8, none⟩ = some (.int .i64 c.Levels) := (blk_cell (cfgBlk c w) 8).trans rfl
  have c16 : (w.alloc (.cells (cfgC c) 23)).cell? ⟨w.heap.size, 16, none⟩ = some (.int .i64 c.MaxChunk) := (blk_cell (cfgBlk c w) 16).trans rfl
  have HBX := Lib.hid (cfgBlk c w)
  have HBA := Lib.hid ((Below.refl w.heap.size w).alloc (Nat.le_refl _) (.cells (cfgC c) 23))
  have HSZ := Lib.hid (World.size_alloc w (.cells (cfgC c) 23))
  unfold cfgV at *
  go_enter Try.func46, Try.ntmps46
  go_wp2_with (refine wpList_load_row rfl 23 (.tmp 2) rfl _ rfl _ _ _ _ HBX.out Try.underlying23 rfl (iCfg c) ?_)
  generalize w.alloc (.cells (cfgC c) 23) = wa at *
  refine (rightR_c c hc _).mono ?_
  rintro e w1 ⟨rfl, hb1⟩
  have HB1 := Lib.hid (HBA.out.trans (hb1.mono HBA.out.size))
  have HX := HBX
  have HW0 := Lib.hid ((SumR.start' wa).later hb1)
  clear hb1
  rcases hr : rightL c with _ | _
  · have HE := Lib.hid (iR_neg hr (b2L c (abv x)))
    clear hr
    go_wp2
    go_ret
    exact ⟨by rw [HE.out]; rfl, HB1.out⟩
  · skip
    have q22 := r_MaxDebt hr
    have p22 : 0 < c.MaxDebt := by omega
    have n22 : NI c.MaxDebt := ⟨by omega, by omega⟩
    have q0 := r_Clients hr
    have p0 : 0 < c.Clients := by omega
    have n0 : NI c.Clients := ⟨by omega, by omega⟩
    have q4 := r_MaxImm hr
    have p4 : 0 < c.MaxImm := by omega
    have n4 : NI c.MaxImm := ⟨by omega, by omega⟩
    have q8 := r_Levels hr
    have p8 : 0 < c.Levels := by omega
    have n8 : NI c.Levels := ⟨by omega, by omega⟩
    have q16 := r_MaxChunk hr
    have p16 : 0 < c.MaxChunk := by omega
    have n16 : NI c.MaxChunk := ⟨by omega, by omega⟩
    have z0 : NI (c.MaxImm + 2) := ⟨by omega, by omega⟩
    have HE := Lib.hid ((iR_pos hr (b2L c (abv x))).trans (show b2L c (abv x) = (sadd (sadd (sadd (sadd (sadd (b1L c (abv x)) (smul (c.MaxImm + 2) (sadd (sadd (tfL c (memCapL c)) (sadd (tcL c (allL c (abv x))) (tcL c (fanL c)))) 8))) (smul (sadd ((smul c.Levels (allL c (abv x))) / 450) 2) (sadd (sadd (tcL c (allL c (abv x))) (tcL c (fanL c))) 2))) ((allL c (abv x)) / c.MaxChunk)) c.Levels) 40) from by unfold b2L; rw [sadd_assoc (tfL_NI hr (memCapL_NI hr)) (tcL_NI hr (allL_NI hr (abv_NI hx))) (tcL_NI hr (fanL_NI hr)), (imm_eq hr).2.1]))
    clear q22
    clear q0
    clear q4
    clear q8
    clear q16
    go_wp2_with fail
    refine wp_region_step (SumR wa) leL leL_refl leL_trans [] [0, 0, 0, 0, 0, 0, 0, 2, 1] [.int .i64 x, .int .i64 (abv x), .pointer (some ⟨w.heap.size, 22, none⟩), .int .i64 c.MaxDebt, .pointer (some ⟨w.heap.size, 0, none⟩), .int .i64 c.Clients, .int .i64 (smul c.Clients 17408), undef, undef] 9 (by kernel_rfl) (by kernel_rfl) (SumR.drew HW0.out) ?_
    simp only [List.take_succ_cons, List.take_zero, List.drop_succ_cons, List.drop_zero]
    refine schain0 ?_
    refine @schain _ _ _ _ _ _ _ _ _ _ _ _ _ _ 10 (.int .i64 x) (by rfl) (by rfl) (by kernel_rfl) (by rfl) (by exact fun s' W2 hW => srun_mv (by rfl) (by exact eval_base (by kernel_rfl) (by rfl)) hW) ?_
    refine @schain _ _ _ _ _ _ _ _ _ _ _ _ _ _ 11 (.int .i64 (abv x)) (by rfl) (by rfl) (by kernel_rfl) (by rfl) (by exact fun s' W2 hW => srun_call (vs := #[.int .i64 x]) (by rfl) (by kernel_rfl) (enters_of Try.func52 (by kernel_rfl) (by rfl)) (scall_q hW (above_c _ W2))) ?_
    refine @schain _ _ _ _ _ _ _ _ _ _ _ _ _ _ 12 (.pointer (some ⟨w.heap.size, 22, none⟩)) (by rfl) (by rfl) (by kernel_rfl) (by rfl) (by exact fun s' W2 hW => srun_fa (p := .pointer (some ⟨w.heap.size, 0, none⟩)) (by rfl) (by exact eval_base (by kernel_rfl) (by rfl)) (fun W => by first | kernel_rfl | go_simp) hW) ?_
    refine @schain _ _ _ _ _ _ _ _ _ _ _ _ _ _ 13 (.int .i64 c.MaxDebt) (by rfl) (by rfl) (by kernel_rfl) (by rfl) (by exact fun s' W2 hW => srun_ld (by rfl) (by exact eval_look (by kernel_rfl) (by kernel_rfl)) (ldInt _ _ _ _ (hW.cell c22)) hW) ?_
    refine @schain _ _ _ _ _ _ _ _ _ _ _ _ _ _ 14 (.pointer (some ⟨w.heap.size, 0, none⟩)) (by rfl) (by rfl) (by kernel_rfl) (by rfl) (by exact fun s' W2 hW => srun_fa (p := .pointer (some ⟨w.heap.size, 0, none⟩)) (by rfl) (by exact eval_base (by kernel_rfl) (by rfl)) (fun W => by first | kernel_rfl | go_simp) hW) ?_
    refine @schain _ _ _ _ _ _ _ _ _ _ _ _ _ _ 15 (.int .i64 c.Clients) (by rfl) (by rfl) (by kernel_rfl) (by rfl) (by exact fun s' W2 hW => srun_ld (by rfl) (by exact eval_look (by kernel_rfl) (by kernel_rfl)) (ldInt _ _ _ _ (hW.cell c0)) hW) ?_
    refine @schain _ _ _ _ _ _ _ _ _ _ _ _ _ _ 16 (.int .i64 (smul c.Clients 17408)) (by rfl) (by rfl) (by kernel_rfl) (by rfl) (by exact fun s' W2 hW => srun_call (vs := #[.int .i64 c.Clients, .int .i64 17408]) (by rfl) (by kernel_rfl) (enters_of Try.func37 (by kernel_rfl) (by rfl)) (scall_q hW (mulR_c _ _ (NI.i64 n0) (I64.lit (by omega) (by omega)) W2))) ?_
    refine @schainT _ _ _ _ _ _ _ _ _ _ _ _ _ _ 17 (fun v s' => ∃ g, v = .slice (some ⟨g, 0, none⟩) 3 3 ∧ s' = (g, [(abv x), c.MaxDebt, (smul c.Clients 17408)]) :: []) (by rfl) (by kernel_rfl) (by rfl) ⟨_, _, 0, rfl, rfl⟩ (fun _ _ ⟨_, _, h⟩ => h ▸ fun _ hp => List.mem_cons_of_mem _ hp) (by exact fun W2 hW => srun_bs (e := 3) (vs := #[(0, .int .i64 (abv x)), (1, .int .i64 c.MaxDebt), (2, .int .i64 (smul c.Clients 17408))]) (cells := #[.int .i64 (abv x), .int .i64 c.MaxDebt, .int .i64 (smul c.Clients 17408)]) (by rfl) (by kernel_rfl) (fun W => by go_simp) (by rfl) (by show 3 ≤ 9223372036854775807; omega) hW) (fun x s' hx => ?_)
    obtain ⟨g1, rfl, rfl⟩ := hx
    refine @schain1 _ _ _ _ _ _ _ _ _ _ _ _ _ _ 18 (.int .i64 (sadd (sadd (abv x) c.MaxDebt) (smul c.Clients 17408))) (by rfl) (by kernel_rfl) (by rfl) (by exact fun s' hs W2 hW => srun_call (vs := #[.slice (some ⟨g1, 0, none⟩) 3 3]) (by rfl) (by kernel_rfl) (enters_of Try.func73 (by kernel_rfl) (by rfl)) (sum_at hW (hs _ List.mem_cons_self) (allI_cons (NI.i64 (abv_NI hx)) (allI_cons (NI.i64 n22) (allI_cons (smul_I64 _ _) allI_nil))))) ?_
    refine snil (fun V1 hV1 => ?_)
    refine Eq.mpr (congrArg (fun a => wpList _ _ _ _ a V1) (show _ = (⟨#[.agg (cfgC c), .int .i64 x, .pointer (some ⟨w.heap.size, 0, none⟩), undef, .int .i64 0, undef, undef, .agg (cfgC c), .bool true, .bool false, .int .i64 x, .int .i64 (abv x), .pointer (some ⟨w.heap.size, 22, none⟩), .int .i64 c.MaxDebt, .pointer (some ⟨w.heap.size, 0, none⟩), .int .i64 c.Clients, .int .i64 (smul c.Clients 17408), .slice (some ⟨g1, 0, none⟩) 3 3, .int .i64 (allL c (abv x)), undef, undef, undef, undef, undef, undef, undef, undef, undef, undef, undef, undef, undef, undef, undef, undef, undef, undef, undef, undef, undef, undef, undef, undef, undef, undef, undef, undef, undef, undef, undef, undef, undef, undef, undef, undef, undef, undef, undef], []⟩ : Act) by kernel_rfl)) ?_
    have HW1 := Lib.hid (SumR.none hV1)
    clear hV1
    go_wp2_with fail
    refine wp_region_step (SumR wa) leL leL_refl leL_trans [] [0, 0, 0, 0, 0, 0, 0, 0] [.agg (cfgC c), .int .i64 (allL c (abv x)), .int .i64 (tcL c (allL c (abv x))), .agg (cfgC c), .agg (cfgC c), .int .i64 (fanL c), .int .i64 (tcL c (fanL c)), .int .i64 (sadd (tcL c (allL c (abv x))) (tcL c (fanL c)))] 8 (by kernel_rfl) (by kernel_rfl) (SumR.drew HW1.out) ?_
    simp only [List.take_succ_cons, List.take_zero, List.drop_succ_cons, List.drop_zero]
    refine schain0 ?_
    refine @schain _ _ _ _ _ _ _ _ _ _ _ _ _ _ 19 (.agg (cfgC c)) (by rfl) (by rfl) (by kernel_rfl) (by rfl) (by exact fun s' W2 hW => srun_ld (by rfl) (by exact eval_base (by kernel_rfl) (by rfl)) (ldCfg c _ _ (hW.row HX.out)) hW) ?_
    refine @schain _ _ _ _ _ _ _ _ _ _ _ _ _ _ 20 (.int .i64 (allL c (abv x))) (by rfl) (by rfl) (by kernel_rfl) (by rfl) (by exact fun s' W2 hW => srun_mv (by rfl) (by exact eval_base (by kernel_rfl) (by rfl)) hW) ?_
    refine @schain _ _ _ _ _ _ _ _ _ _ _ _ _ _ 21 (.int .i64 (tcL c (allL c (abv x)))) (by rfl) (by rfl) (by kernel_rfl) (by rfl) (by exact fun s' W2 hW => srun_call (vs := #[.agg (cfgC c), .int .i64 (allL c (abv x))]) (by rfl) (by kernel_rfl) (enters_of Try.func44 (by kernel_rfl) (by rfl)) (scall_b hW (TCr_at c hc hr _ (allL_NI hr (abv_NI hx)) W2))) ?_
    refine @schain _ _ _ _ _ _ _ _ _ _ _ _ _ _ 22 (.agg (cfgC c)) (by rfl) (by rfl) (by kernel_rfl) (by rfl) (by exact fun s' W2 hW => srun_ld (by rfl) (by exact eval_base (by kernel_rfl) (by rfl)) (ldCfg c _ _ (hW.row HX.out)) hW) ?_
    refine @schain _ _ _ _ _ _ _ _ _ _ _ _ _ _ 23 (.agg (cfgC c)) (by rfl) (by rfl) (by kernel_rfl) (by rfl) (by exact fun s' W2 hW => srun_ld (by rfl) (by exact eval_base (by kernel_rfl) (by rfl)) (ldCfg c _ _ (hW.row HX.out)) hW) ?_
    refine @schain _ _ _ _ _ _ _ _ _ _ _ _ _ _ 24 (.int .i64 (fanL c)) (by rfl) (by rfl) (by kernel_rfl) (by rfl) (by exact fun s' W2 hW => srun_call (vs := #[.agg (cfgC c)]) (by rfl) (by kernel_rfl) (enters_of Try.func74 (by kernel_rfl) (by rfl)) (scall_b hW (jobMost_c c hc hr W2))) ?_
    refine @schain _ _ _ _ _ _ _ _ _ _ _ _ _ _ 25 (.int .i64 (tcL c (fanL c))) (by rfl) (by rfl) (by kernel_rfl) (by rfl) (by exact fun s' W2 hW => srun_call (vs := #[.agg (cfgC c), .int .i64 (fanL c)]) (by rfl) (by kernel_rfl) (enters_of Try.func44 (by kernel_rfl) (by rfl)) (scall_b hW (TCr_at c hc hr _ (fanL_NI hr) W2))) ?_
    refine @schain _ _ _ _ _ _ _ _ _ _ _ _ _ _ 26 (.int .i64 (sadd (tcL c (allL c (abv x))) (tcL c (fanL c)))) (by rfl) (by rfl) (by kernel_rfl) (by rfl) (by exact fun s' W2 hW => srun_call (vs := #[.int .i64 (tcL c (allL c (abv x))), .int .i64 (tcL c (fanL c))]) (by rfl) (by kernel_rfl) (enters_of Try.func35 (by kernel_rfl) (by rfl)) (scall_q hW (addR_c _ _ (NI.i64 (tcL_NI hr (allL_NI hr (abv_NI hx)))) (NI.i64 (tcL_NI hr (fanL_NI hr))) W2))) ?_
    refine snil (fun V2 hV2 => ?_)
    refine Eq.mpr (congrArg (fun a => wpList _ _ _ _ a V2) (show _ = (⟨#[.agg (cfgC c), .int .i64 x, .pointer (some ⟨w.heap.size, 0, none⟩), undef, .int .i64 0, .int .i64 (allL c (abv x)), undef, .agg (cfgC c), .bool true, .bool false, .int .i64 x, .int .i64 (abv x), .pointer (some ⟨w.heap.size, 22, none⟩), .int .i64 c.MaxDebt, .pointer (some ⟨w.heap.size, 0, none⟩), .int .i64 c.Clients, .int .i64 (smul c.Clients 17408), .slice (some ⟨g1, 0, none⟩) 3 3, .int .i64 (allL c (abv x)), .agg (cfgC c), .int .i64 (allL c (abv x)), .int .i64 (tcL c (allL c (abv x))), .agg (cfgC c), .agg (cfgC c), .int .i64 (fanL c), .int .i64 (tcL c (fanL c)), .int .i64 (sadd (tcL c (allL c (abv x))) (tcL c (fanL c))), undef, undef, undef, undef, undef, undef, undef, undef, undef, undef, undef, undef, undef, undef, undef, undef, undef, undef, undef, undef, undef, undef, undef, undef, undef, undef, undef, undef, undef, undef, undef], []⟩ : Act) by kernel_rfl)) ?_
    have HW2 := Lib.hid (SumR.none hV2)
    clear hV2
    go_wp2_with fail
    refine wp_region_step (SumR wa) leL leL_refl leL_trans [] [0, 0, 0, 0, 0, 0, 0, 0, 0, 0, 0, 2, 1, 0, 0, 0, 0, 0, 0, 0, 0, 0, 0, 0, 0, 0, 0, 0, 0, 2, 1] [.agg (cfgC c), .int .i64 x, .int .i64 (b1L c (abv x)), .pointer (some ⟨w.heap.size, 4, none⟩), .int .i64 c.MaxImm, .int .i64 (c.MaxImm + 2), .agg (cfgC c), .agg (cfgC c), .int .i64 (memCapL c), .int .i64 (tfL c (memCapL c)), .int .i64 (sadd (tcL c (allL c (abv x))) (tcL c (fanL c))), undef, undef, .int .i64 (smul (c.MaxImm + 2) (sadd (sadd (tfL c (memCapL c)) (sadd (tcL c (allL c (abv x))) (tcL c (fanL c)))) 8)), .pointer (some ⟨w.heap.size, 8, none⟩), .int .i64 c.Levels, .int .i64 (allL c (abv x)), .int .i64 (smul c.Levels (allL c (abv x))), .int .i64 ((smul c.Levels (allL c (abv x))) / 450), .int .i64 (sadd ((smul c.Levels (allL c (abv x))) / 450) 2), .int .i64 (sadd (tcL c (allL c (abv x))) (tcL c (fanL c))), .int .i64 (sadd (sadd (tcL c (allL c (abv x))) (tcL c (fanL c))) 2), .int .i64 (smul (sadd ((smul c.Levels (allL c (abv x))) / 450) 2) (sadd (sadd (tcL c (allL c (abv x))) (tcL c (fanL c))) 2)), .int .i64 (allL c (abv x)), .pointer (some ⟨w.heap.size, 16, none⟩), .int .i64 c.MaxChunk, .int .i64 ((allL c (abv x)) / c.MaxChunk), .pointer (some ⟨w.heap.size, 8, none⟩), .int .i64 c.Levels, undef, undef] 31 (by kernel_rfl) (by kernel_rfl) (SumR.drew HW2.out) ?_
    simp only [List.take_succ_cons, List.take_zero, List.drop_succ_cons, List.drop_zero]
    refine schain0 ?_
    refine @schain _ _ _ _ _ _ _ _ _ _ _ _ _ _ 27 (.agg (cfgC c)) (by rfl) (by rfl) (by kernel_rfl) (by rfl) (by exact fun s' W2 hW => srun_ld (by rfl) (by exact eval_base (by kernel_rfl) (by rfl)) (ldCfg c _ _ (hW.row HX.out)) hW) ?_
    refine @schain _ _ _ _ _ _ _ _ _ _ _ _ _ _ 28 (.int .i64 x) (by rfl) (by rfl) (by kernel_rfl) (by rfl) (by exact fun s' W2 hW => srun_mv (by rfl) (by exact eval_base (by kernel_rfl) (by rfl)) hW) ?_
    refine @schain _ _ _ _ _ _ _ _ _ _ _ _ _ _ 29 (.int .i64 (b1L c (abv x))) (by rfl) (by rfl) (by kernel_rfl) (by rfl) (by exact fun s' W2 hW => srun_call (vs := #[.agg (cfgC c), .int .i64 x]) (by rfl) (by kernel_rfl) (enters_of Try.func45 (by kernel_rfl) (by rfl)) (scall_b hW (B1r_x c hc hr _ hx W2))) ?_
    refine @schain _ _ _ _ _ _ _ _ _ _ _ _ _ _ 30 (.pointer (some ⟨w.heap.size, 4, none⟩)) (by rfl) (by rfl) (by kernel_rfl) (by rfl) (by exact fun s' W2 hW => srun_fa (p := .pointer (some ⟨w.heap.size, 0, none⟩)) (by rfl) (by exact eval_base (by kernel_rfl) (by rfl)) (fun W => by first | kernel_rfl | go_simp) hW) ?_
    refine @schain _ _ _ _ _ _ _ _ _ _ _ _ _ _ 31 (.int .i64 c.MaxImm) (by rfl) (by rfl) (by kernel_rfl) (by rfl) (by exact fun s' W2 hW => srun_ld (by rfl) (by exact eval_look (by kernel_rfl) (by kernel_rfl)) (ldInt _ _ _ _ (hW.cell c4)) hW) ?_
    refine @schain _ _ _ _ _ _ _ _ _ _ _ _ _ _ 32 (.int .i64 (c.MaxImm + 2)) (by rfl) (by rfl) (by kernel_rfl) (by rfl) (by exact fun s' W2 hW => srun_bo (u := .int .i64 c.MaxImm) (v := .int .i64 2) (by rfl) (by exact eval_look (by kernel_rfl) (by kernel_rfl)) (by rfl) (fun W => add_run _ _ _ _ _ z0 W) hW) ?_
    refine @schain _ _ _ _ _ _ _ _ _ _ _ _ _ _ 33 (.agg (cfgC c)) (by rfl) (by rfl) (by kernel_rfl) (by rfl) (by exact fun s' W2 hW => srun_ld (by rfl) (by exact eval_base (by kernel_rfl) (by rfl)) (ldCfg c _ _ (hW.row HX.out)) hW) ?_
    refine @schain _ _ _ _ _ _ _ _ _ _ _ _ _ _ 34 (.agg (cfgC c)) (by rfl) (by rfl) (by kernel_rfl) (by rfl) (by exact fun s' W2 hW => srun_ld (by rfl) (by exact eval_base (by kernel_rfl) (by rfl)) (ldCfg c _ _ (hW.row HX.out)) hW) ?_
    refine @schain _ _ _ _ _ _ _ _ _ _ _ _ _ _ 35 (.int .i64 (memCapL c)) (by rfl) (by rfl) (by kernel_rfl) (by rfl) (by exact fun s' W2 hW => srun_call (vs := #[.agg (cfgC c)]) (by rfl) (by kernel_rfl) (enters_of Try.func29 (by kernel_rfl) (by rfl)) (scall_b hW (memCapR_at hc hr W2))) ?_
    refine @schain _ _ _ _ _ _ _ _ _ _ _ _ _ _ 36 (.int .i64 (tfL c (memCapL c))) (by rfl) (by rfl) (by kernel_rfl) (by rfl) (by exact fun s' W2 hW => srun_call (vs := #[.agg (cfgC c), .int .i64 (memCapL c)]) (by rfl) (by kernel_rfl) (enters_of Try.func43 (by kernel_rfl) (by rfl)) (scall_b hW (TFr_at c hc hr _ (memCapL_NI hr) W2))) ?_
    refine @schain _ _ _ _ _ _ _ _ _ _ _ _ _ _ 37 (.int .i64 (sadd (tcL c (allL c (abv x))) (tcL c (fanL c)))) (by rfl) (by rfl) (by kernel_rfl) (by rfl) (by exact fun s' W2 hW => srun_mv (by rfl) (by exact eval_base (by kernel_rfl) (by rfl)) hW) ?_
    refine @schainT _ _ _ _ _ _ _ _ _ _ _ _ _ _ 38 (fun v s' => ∃ g, v = .slice (some ⟨g, 0, none⟩) 3 3 ∧ s' = (g, [(tfL c (memCapL c)), (sadd (tcL c (allL c (abv x))) (tcL c (fanL c))), 8]) :: []) (by rfl) (by kernel_rfl) (by rfl) ⟨_, _, 0, rfl, rfl⟩ (fun _ _ ⟨_, _, h⟩ => h ▸ fun _ hp => List.mem_cons_of_mem _ hp) (by exact fun W2 hW => srun_bs (e := 3) (vs := #[(0, .int .i64 (tfL c (memCapL c))), (1, .int .i64 (sadd (tcL c (allL c (abv x))) (tcL c (fanL c)))), (2, .int .i64 8)]) (cells := #[.int .i64 (tfL c (memCapL c)), .int .i64 (sadd (tcL c (allL c (abv x))) (tcL c (fanL c))), .int .i64 8]) (by rfl) (by kernel_rfl) (fun W => by go_simp) (by rfl) (by show 3 ≤ 9223372036854775807; omega) hW) (fun x s' hx => ?_)
    obtain ⟨g2, rfl, rfl⟩ := hx
    refine @schain1 _ _ _ _ _ _ _ _ _ _ _ _ _ _ 39 (.int .i64 (sadd (sadd (tfL c (memCapL c)) (sadd (tcL c (allL c (abv x))) (tcL c (fanL c)))) 8)) (by rfl) (by kernel_rfl) (by rfl) (by exact fun s' hs W2 hW => srun_call (vs := #[.slice (some ⟨g2, 0, none⟩) 3 3]) (by rfl) (by kernel_rfl) (enters_of Try.func73 (by kernel_rfl) (by rfl)) (sum_at hW (hs _ List.mem_cons_self) (allI_cons (NI.i64 (tfL_NI hr (memCapL_NI hr))) (allI_cons (sadd_I64 _ _) (allI_cons (I64.lit (by omega) (by omega)) allI_nil))))) ?_
    refine @schain _ _ _ _ _ _ _ _ _ _ _ _ _ _ 40 (.int .i64 (smul (c.MaxImm + 2) (sadd (sadd (tfL c (memCapL c)) (sadd (tcL c (allL c (abv x))) (tcL c (fanL c)))) 8))) (by rfl) (by rfl) (by kernel_rfl) (by rfl) (by exact fun s' W2 hW => srun_call (vs := #[.int .i64 (c.MaxImm + 2), .int .i64 (sadd (sadd (tfL c (memCapL c)) (sadd (tcL c (allL c (abv x))) (tcL c (fanL c)))) 8)]) (by rfl) (by kernel_rfl) (enters_of Try.func37 (by kernel_rfl) (by rfl)) (scall_q hW (mulR_c _ _ (NI.i64 z0) (sadd_I64 _ _) W2))) ?_
    refine @schain _ _ _ _ _ _ _ _ _ _ _ _ _ _ 41 (.pointer (some ⟨w.heap.size, 8, none⟩)) (by rfl) (by rfl) (by kernel_rfl) (by rfl) (by exact fun s' W2 hW => srun_fa (p := .pointer (some ⟨w.heap.size, 0, none⟩)) (by rfl) (by exact eval_base (by kernel_rfl) (by rfl)) (fun W => by first | kernel_rfl | go_simp) hW) ?_
    refine @schain _ _ _ _ _ _ _ _ _ _ _ _ _ _ 42 (.int .i64 c.Levels) (by rfl) (by rfl) (by kernel_rfl) (by rfl) (by exact fun s' W2 hW => srun_ld (by rfl) (by exact eval_look (by kernel_rfl) (by kernel_rfl)) (ldInt _ _ _ _ (hW.cell c8)) hW) ?_
    refine @schain _ _ _ _ _ _ _ _ _ _ _ _ _ _ 43 (.int .i64 (allL c (abv x))) (by rfl) (by rfl) (by kernel_rfl) (by rfl) (by exact fun s' W2 hW => srun_mv (by rfl) (by exact eval_base (by kernel_rfl) (by rfl)) hW) ?_
    refine @schain _ _ _ _ _ _ _ _ _ _ _ _ _ _ 44 (.int .i64 (smul c.Levels (allL c (abv x)))) (by rfl) (by rfl) (by kernel_rfl) (by rfl) (by exact fun s' W2 hW => srun_call (vs := #[.int .i64 c.Levels, .int .i64 (allL c (abv x))]) (by rfl) (by kernel_rfl) (enters_of Try.func37 (by kernel_rfl) (by rfl)) (scall_q hW (mulR_c _ _ (NI.i64 n8) (NI.i64 (allL_NI hr (abv_NI hx))) W2))) ?_
    refine @schain _ _ _ _ _ _ _ _ _ _ _ _ _ _ 45 (.int .i64 ((smul c.Levels (allL c (abv x))) / 450)) (by rfl) (by rfl) (by kernel_rfl) (by rfl) (by exact fun s' W2 hW => srun_bo (u := .int .i64 (smul c.Levels (allL c (abv x)))) (v := .int .i64 450) (by rfl) (by exact eval_look (by kernel_rfl) (by kernel_rfl)) (by rfl) (fun W => quo_run _ _ _ _ _ (NI.smul n8 (allL_NI hr (abv_NI hx))) ((by omega)) W) hW) ?_
    refine @schain _ _ _ _ _ _ _ _ _ _ _ _ _ _ 46 (.int .i64 (sadd ((smul c.Levels (allL c (abv x))) / 450) 2)) (by rfl) (by rfl) (by kernel_rfl) (by rfl) (by exact fun s' W2 hW => srun_call (vs := #[.int .i64 ((smul c.Levels (allL c (abv x))) / 450), .int .i64 2]) (by rfl) (by kernel_rfl) (enters_of Try.func35 (by kernel_rfl) (by rfl)) (scall_q hW (addR_c _ _ (NI.i64 (NI.div (NI.smul n8 (allL_NI hr (abv_NI hx))) ((by omega)))) (I64.lit (by omega) (by omega)) W2))) ?_
    refine @schain _ _ _ _ _ _ _ _ _ _ _ _ _ _ 47 (.int .i64 (sadd (tcL c (allL c (abv x))) (tcL c (fanL c)))) (by rfl) (by rfl) (by kernel_rfl) (by rfl) (by exact fun s' W2 hW => srun_mv (by rfl) (by exact eval_base (by kernel_rfl) (by rfl)) hW) ?_
    refine @schain _ _ _ _ _ _ _ _ _ _ _ _ _ _ 48 (.int .i64 (sadd (sadd (tcL c (allL c (abv x))) (tcL c (fanL c))) 2)) (by rfl) (by rfl) (by kernel_rfl) (by rfl) (by exact fun s' W2 hW => srun_call (vs := #[.int .i64 (sadd (tcL c (allL c (abv x))) (tcL c (fanL c))), .int .i64 2]) (by rfl) (by kernel_rfl) (enters_of Try.func35 (by kernel_rfl) (by rfl)) (scall_q hW (addR_c _ _ (sadd_I64 _ _) (I64.lit (by omega) (by omega)) W2))) ?_
    refine @schain _ _ _ _ _ _ _ _ _ _ _ _ _ _ 49 (.int .i64 (smul (sadd ((smul c.Levels (allL c (abv x))) / 450) 2) (sadd (sadd (tcL c (allL c (abv x))) (tcL c (fanL c))) 2))) (by rfl) (by rfl) (by kernel_rfl) (by rfl) (by exact fun s' W2 hW => srun_call (vs := #[.int .i64 (sadd ((smul c.Levels (allL c (abv x))) / 450) 2), .int .i64 (sadd (sadd (tcL c (allL c (abv x))) (tcL c (fanL c))) 2)]) (by rfl) (by kernel_rfl) (enters_of Try.func37 (by kernel_rfl) (by rfl)) (scall_q hW (mulR_c _ _ (sadd_I64 _ _) (sadd_I64 _ _) W2))) ?_
    refine @schain _ _ _ _ _ _ _ _ _ _ _ _ _ _ 50 (.int .i64 (allL c (abv x))) (by rfl) (by rfl) (by kernel_rfl) (by rfl) (by exact fun s' W2 hW => srun_mv (by rfl) (by exact eval_base (by kernel_rfl) (by rfl)) hW) ?_
    refine @schain _ _ _ _ _ _ _ _ _ _ _ _ _ _ 51 (.pointer (some ⟨w.heap.size, 16, none⟩)) (by rfl) (by rfl) (by kernel_rfl) (by rfl) (by exact fun s' W2 hW => srun_fa (p := .pointer (some ⟨w.heap.size, 0, none⟩)) (by rfl) (by exact eval_base (by kernel_rfl) (by rfl)) (fun W => by first | kernel_rfl | go_simp) hW) ?_
    refine @schain _ _ _ _ _ _ _ _ _ _ _ _ _ _ 52 (.int .i64 c.MaxChunk) (by rfl) (by rfl) (by kernel_rfl) (by rfl) (by exact fun s' W2 hW => srun_ld (by rfl) (by exact eval_look (by kernel_rfl) (by kernel_rfl)) (ldInt _ _ _ _ (hW.cell c16)) hW) ?_
    refine @schain _ _ _ _ _ _ _ _ _ _ _ _ _ _ 53 (.int .i64 ((allL c (abv x)) / c.MaxChunk)) (by rfl) (by rfl) (by kernel_rfl) (by rfl) (by exact fun s' W2 hW => srun_bo (u := .int .i64 (allL c (abv x))) (v := .int .i64 c.MaxChunk) (by rfl) (by exact eval_look (by kernel_rfl) (by kernel_rfl)) (by exact eval_look (by kernel_rfl) (by kernel_rfl)) (fun W => quo_run _ _ _ _ _ (allL_NI hr (abv_NI hx)) (p16) W) hW) ?_
    refine @schain _ _ _ _ _ _ _ _ _ _ _ _ _ _ 54 (.pointer (some ⟨w.heap.size, 8, none⟩)) (by rfl) (by rfl) (by kernel_rfl) (by rfl) (by exact fun s' W2 hW => srun_fa (p := .pointer (some ⟨w.heap.size, 0, none⟩)) (by rfl) (by exact eval_base (by kernel_rfl) (by rfl)) (fun W => by first | kernel_rfl | go_simp) hW) ?_
    refine @schain _ _ _ _ _ _ _ _ _ _ _ _ _ _ 55 (.int .i64 c.Levels) (by rfl) (by rfl) (by kernel_rfl) (by rfl) (by exact fun s' W2 hW => srun_ld (by rfl) (by exact eval_look (by kernel_rfl) (by kernel_rfl)) (ldInt _ _ _ _ (hW.cell c8)) hW) ?_
    refine @schainT _ _ _ _ _ _ _ _ _ _ _ _ _ _ 56 (fun v s' => ∃ g, v = .slice (some ⟨g, 0, none⟩) 6 6 ∧ s' = (g, [(b1L c (abv x)), (smul (c.MaxImm + 2) (sadd (sadd (tfL c (memCapL c)) (sadd (tcL c (allL c (abv x))) (tcL c (fanL c)))) 8)), (smul (sadd ((smul c.Levels (allL c (abv x))) / 450) 2) (sadd (sadd (tcL c (allL c (abv x))) (tcL c (fanL c))) 2)), ((allL c (abv x)) / c.MaxChunk), c.Levels, 40]) :: ((g2, [(tfL c (memCapL c)), (sadd (tcL c (allL c (abv x))) (tcL c (fanL c))), 8]) :: [])) (by rfl) (by kernel_rfl) (by rfl) ⟨_, _, 0, rfl, rfl⟩ (fun _ _ ⟨_, _, h⟩ => h ▸ fun _ hp => List.mem_cons_of_mem _ hp) (by exact fun W2 hW => srun_bs (e := 3) (vs := #[(0, .int .i64 (b1L c (abv x))), (1, .int .i64 (smul (c.MaxImm + 2) (sadd (sadd (tfL c (memCapL c)) (sadd (tcL c (allL c (abv x))) (tcL c (fanL c)))) 8))), (2, .int .i64 (smul (sadd ((smul c.Levels (allL c (abv x))) / 450) 2) (sadd (sadd (tcL c (allL c (abv x))) (tcL c (fanL c))) 2))), (3, .int .i64 ((allL c (abv x)) / c.MaxChunk)), (4, .int .i64 c.Levels), (5, .int .i64 40)]) (cells := #[.int .i64 (b1L c (abv x)), .int .i64 (smul (c.MaxImm + 2) (sadd (sadd (tfL c (memCapL c)) (sadd (tcL c (allL c (abv x))) (tcL c (fanL c)))) 8)), .int .i64 (smul (sadd ((smul c.Levels (allL c (abv x))) / 450) 2) (sadd (sadd (tcL c (allL c (abv x))) (tcL c (fanL c))) 2)), .int .i64 ((allL c (abv x)) / c.MaxChunk), .int .i64 c.Levels, .int .i64 40]) (by rfl) (by kernel_rfl) (fun W => by go_simp) (by rfl) (by show 6 ≤ 9223372036854775807; omega) hW) (fun x s' hx => ?_)
    obtain ⟨g3, rfl, rfl⟩ := hx
    refine @schain1 _ _ _ _ _ _ _ _ _ _ _ _ _ _ 57 (.int .i64 (sadd (sadd (sadd (sadd (sadd (b1L c (abv x)) (smul (c.MaxImm + 2) (sadd (sadd (tfL c (memCapL c)) (sadd (tcL c (allL c (abv x))) (tcL c (fanL c)))) 8))) (smul (sadd ((smul c.Levels (allL c (abv x))) / 450) 2) (sadd (sadd (tcL c (allL c (abv x))) (tcL c (fanL c))) 2))) ((allL c (abv x)) / c.MaxChunk)) c.Levels) 40)) (by rfl) (by kernel_rfl) (by rfl) (by exact fun s' hs W2 hW => srun_call (vs := #[.slice (some ⟨g3, 0, none⟩) 6 6]) (by rfl) (by kernel_rfl) (enters_of Try.func73 (by kernel_rfl) (by rfl)) (sum_at hW (hs _ List.mem_cons_self) (allI_cons (NI.i64 (b1L_NI hr (abv_NI hx))) (allI_cons (smul_I64 _ _) (allI_cons (smul_I64 _ _) (allI_cons (NI.i64 (NI.div (allL_NI hr (abv_NI hx)) (p16))) (allI_cons (NI.i64 n8) (allI_cons (I64.lit (by omega) (by omega)) allI_nil)))))))) ?_
    refine snil (fun V3 hV3 => ?_)
    refine Eq.mpr (congrArg (fun a => wpList _ _ _ _ a V3) (show _ = (⟨#[.agg (cfgC c), .int .i64 x, .pointer (some ⟨w.heap.size, 0, none⟩), undef, .int .i64 0, .int .i64 (allL c (abv x)), .int .i64 (sadd (tcL c (allL c (abv x))) (tcL c (fanL c))), .agg (cfgC c), .bool true, .bool false, .int .i64 x, .int .i64 (abv x), .pointer (some ⟨w.heap.size, 22, none⟩), .int .i64 c.MaxDebt, .pointer (some ⟨w.heap.size, 0, none⟩), .int .i64 c.Clients, .int .i64 (smul c.Clients 17408), .slice (some ⟨g1, 0, none⟩) 3 3, .int .i64 (allL c (abv x)), .agg (cfgC c), .int .i64 (allL c (abv x)), .int .i64 (tcL c (allL c (abv x))), .agg (cfgC c), .agg (cfgC c), .int .i64 (fanL c), .int .i64 (tcL c (fanL c)), .int .i64 (sadd (tcL c (allL c (abv x))) (tcL c (fanL c))), .agg (cfgC c), .int .i64 x, .int .i64 (b1L c (abv x)), .pointer (some ⟨w.heap.size, 4, none⟩), .int .i64 c.MaxImm, .int .i64 (c.MaxImm + 2), .agg (cfgC c), .agg (cfgC c), .int .i64 (memCapL c), .int .i64 (tfL c (memCapL c)), .int .i64 (sadd (tcL c (allL c (abv x))) (tcL c (fanL c))), .slice (some ⟨g2, 0, none⟩) 3 3, .int .i64 (sadd (sadd (tfL c (memCapL c)) (sadd (tcL c (allL c (abv x))) (tcL c (fanL c)))) 8), .int .i64 (smul (c.MaxImm + 2) (sadd (sadd (tfL c (memCapL c)) (sadd (tcL c (allL c (abv x))) (tcL c (fanL c)))) 8)), .pointer (some ⟨w.heap.size, 8, none⟩), .int .i64 c.Levels, .int .i64 (allL c (abv x)), .int .i64 (smul c.Levels (allL c (abv x))), .int .i64 ((smul c.Levels (allL c (abv x))) / 450), .int .i64 (sadd ((smul c.Levels (allL c (abv x))) / 450) 2), .int .i64 (sadd (tcL c (allL c (abv x))) (tcL c (fanL c))), .int .i64 (sadd (sadd (tcL c (allL c (abv x))) (tcL c (fanL c))) 2), .int .i64 (smul (sadd ((smul c.Levels (allL c (abv x))) / 450) 2) (sadd (sadd (tcL c (allL c (abv x))) (tcL c (fanL c))) 2)), .int .i64 (allL c (abv x)), .pointer (some ⟨w.heap.size, 16, none⟩), .int .i64 c.MaxChunk, .int .i64 ((allL c (abv x)) / c.MaxChunk), .pointer (some ⟨w.heap.size, 8, none⟩), .int .i64 c.Levels, .slice (some ⟨g3, 0, none⟩) 6 6, .int .i64 (sadd (sadd (sadd (sadd (sadd (b1L c (abv x)) (smul (c.MaxImm + 2) (sadd (sadd (tfL c (memCapL c)) (sadd (tcL c (allL c (abv x))) (tcL c (fanL c)))) 8))) (smul (sadd ((smul c.Levels (allL c (abv x))) / 450) 2) (sadd (sadd (tcL c (allL c (abv x))) (tcL c (fanL c))) 2))) ((allL c (abv x)) / c.MaxChunk)) c.Levels) 40)], []⟩ : Act) by kernel_rfl)) ?_
    have HW3 := Lib.hid (SumR.none hV3)
    clear hV3
    clear HX
    go_wp2
    go_ret
    exact ⟨by rw [HE.out]; rfl, HBA.out.trans (HW3.out.1.mono HBA.out.size)⟩
set_option maxHeartbeats 3200000 in
set_option maxRecDepth 100000 in
theorem Roomr_c (c : Cfg) (hc : CfgOk c) (x : Int) (hx : I64 x) (y : Int) (hy : I64 y) (w : World) : Calls Try.prog 47 #[cfgV c, .int .i64 x, .int .i64 y] w fun e w' => e = .returned (.int .i64 (iR c (roomL c (abv x) (abv y)))) ∧ Below w.heap.size w w' := by
  have c4 : (w.alloc (.cells (cfgC c) 23)).cell? ⟨w.heap.size, 4, none⟩ = some (.int .i64 c.MaxImm) := (blk_cell (cfgBlk c w) 4).trans rfl
  have c26 : (w.alloc (.cells (cfgC c) 23)).cell? ⟨w.heap.size, 26, none⟩ = some (.int .i64 c.MaxManifest) := (blk_cell (cfgBlk c w) 26).trans rfl
  have HBX := Lib.hid (cfgBlk c w)
  have HBA := Lib.hid ((Below.refl w.heap.size w).alloc (Nat.le_refl _) (.cells (cfgC c) 23))
  have HSZ := Lib.hid (World.size_alloc w (.cells (cfgC c) 23))
  unfold cfgV at *
  go_enter Try.func47, Try.ntmps47
  go_wp2_with (refine wpList_load_row rfl 23 (.tmp 3) rfl _ rfl _ _ _ _ HBX.out Try.underlying23 rfl (iCfg c) ?_)
  generalize w.alloc (.cells (cfgC c) 23) = wa at *
  refine (rightR_c c hc _).mono ?_
  rintro e w1 ⟨rfl, hb1⟩
  have HB1 := Lib.hid (HBA.out.trans (hb1.mono HBA.out.size))
  have HX := HBX
  have HW0 := Lib.hid ((SumR.start' wa).later hb1)
  clear hb1
  rcases hr : rightL c with _ | _
  · have HE := Lib.hid (iR_neg hr (roomL c (abv x) (abv y)))
    clear hr
    go_wp2
    go_ret
    exact ⟨by rw [HE.out]; rfl, HB1.out⟩
  · skip
    have q4 := r_MaxImm hr
    have p4 : 0 < c.MaxImm := by omega
    have n4 : NI c.MaxImm := ⟨by omega, by omega⟩
    have q26 := r_MaxManifest hr
    have p26 : 0 < c.MaxManifest := by omega
    have n26 : NI c.MaxManifest := ⟨by omega, by omega⟩
    have z0 : NI (c.MaxImm + 4) := ⟨by omega, by omega⟩
    have HE := Lib.hid ((iR_pos hr (roomL c (abv x) (abv y))).trans (show roomL c (abv x) (abv y) = (sadd (sadd (sadd (sadd (sadd (smul 4 (abv x)) (abv y)) (smul 16 (sadd (limitSumL c) (debtCapR c)))) (smul (c.MaxImm + 4) (memCapL c))) (smul 2 c.MaxManifest)) 131072) from by unfold roomL; rw [(imm_eq hr).2.2.1]))
    clear q4
    clear q26
    go_wp2_with fail
    refine wp_region_step (SumR wa) leL leL_refl leL_trans [] [0, 0, 0, 0, 0, 0, 0, 0, 0, 0, 0, 0, 0, 0, 0, 0, 0, 0, 0, 0, 2, 1] [.int .i64 x, .int .i64 (abv x), .int .i64 (smul 4 (abv x)), .int .i64 y, .int .i64 (abv y), .agg (cfgC c), .int .i64 (limitSumL c), .agg (cfgC c), .int .i64 (debtCapR c), .int .i64 (sadd (limitSumL c) (debtCapR c)), .int .i64 (smul 16 (sadd (limitSumL c) (debtCapR c))), .pointer (some ⟨w.heap.size, 4, none⟩), .int .i64 c.MaxImm, .int .i64 (c.MaxImm + 4), .agg (cfgC c), .int .i64 (memCapL c), .int .i64 (smul (c.MaxImm + 4) (memCapL c)), .pointer (some ⟨w.heap.size, 26, none⟩), .int .i64 c.MaxManifest, .int .i64 (smul 2 c.MaxManifest), undef, undef] 22 (by kernel_rfl) (by kernel_rfl) (SumR.drew HW0.out) ?_
    simp only [List.take_succ_cons, List.take_zero, List.drop_succ_cons, List.drop_zero]
    refine schain0 ?_
    refine @schain _ _ _ _ _ _ _ _ _ _ _ _ _ _ 10 (.int .i64 x) (by rfl) (by rfl) (by kernel_rfl) (by rfl) (by exact fun s' W2 hW => srun_mv (by rfl) (by exact eval_base (by kernel_rfl) (by rfl)) hW) ?_
    refine @schain _ _ _ _ _ _ _ _ _ _ _ _ _ _ 11 (.int .i64 (abv x)) (by rfl) (by rfl) (by kernel_rfl) (by rfl) (by exact fun s' W2 hW => srun_call (vs := #[.int .i64 x]) (by rfl) (by kernel_rfl) (enters_of Try.func52 (by kernel_rfl) (by rfl)) (scall_q hW (above_c _ W2))) ?_
    refine @schain _ _ _ _ _ _ _ _ _ _ _ _ _ _ 12 (.int .i64 (smul 4 (abv x))) (by rfl) (by rfl) (by kernel_rfl) (by rfl) (by exact fun s' W2 hW => srun_call (vs := #[.int .i64 4, .int .i64 (abv x)]) (by rfl) (by kernel_rfl) (enters_of Try.func37 (by kernel_rfl) (by rfl)) (scall_q hW (mulR_c _ _ (I64.lit (by omega) (by omega)) (NI.i64 (abv_NI hx)) W2))) ?_
    refine @schain _ _ _ _ _ _ _ _ _ _ _ _ _ _ 13 (.int .i64 y) (by rfl) (by rfl) (by kernel_rfl) (by rfl) (by exact fun s' W2 hW => srun_mv (by rfl) (by exact eval_base (by kernel_rfl) (by rfl)) hW) ?_
    refine @schain _ _ _ _ _ _ _ _ _ _ _ _ _ _ 14 (.int .i64 (abv y)) (by rfl) (by rfl) (by kernel_rfl) (by rfl) (by exact fun s' W2 hW => srun_call (vs := #[.int .i64 y]) (by rfl) (by kernel_rfl) (enters_of Try.func52 (by kernel_rfl) (by rfl)) (scall_q hW (above_c _ W2))) ?_
    refine @schain _ _ _ _ _ _ _ _ _ _ _ _ _ _ 15 (.agg (cfgC c)) (by rfl) (by rfl) (by kernel_rfl) (by rfl) (by exact fun s' W2 hW => srun_ld (by rfl) (by exact eval_base (by kernel_rfl) (by rfl)) (ldCfg c _ _ (hW.row HX.out)) hW) ?_
    refine @schain _ _ _ _ _ _ _ _ _ _ _ _ _ _ 16 (.int .i64 (limitSumL c)) (by rfl) (by rfl) (by kernel_rfl) (by rfl) (by exact fun s' W2 hW => srun_call (vs := #[.agg (cfgC c)]) (by rfl) (by kernel_rfl) (enters_of Try.func27 (by kernel_rfl) (by rfl)) (scall_b hW (LimitSumR_c c hc W2))) ?_
    refine @schain _ _ _ _ _ _ _ _ _ _ _ _ _ _ 17 (.agg (cfgC c)) (by rfl) (by rfl) (by kernel_rfl) (by rfl) (by exact fun s' W2 hW => srun_ld (by rfl) (by exact eval_base (by kernel_rfl) (by rfl)) (ldCfg c _ _ (hW.row HX.out)) hW) ?_
    refine @schain _ _ _ _ _ _ _ _ _ _ _ _ _ _ 18 (.int .i64 (debtCapR c)) (by rfl) (by rfl) (by kernel_rfl) (by rfl) (by exact fun s' W2 hW => srun_call (vs := #[.agg (cfgC c)]) (by rfl) (by kernel_rfl) (enters_of Try.func33 (by kernel_rfl) (by rfl)) (scall_b hW (DebtCapR_c c hc W2))) ?_
    refine @schain _ _ _ _ _ _ _ _ _ _ _ _ _ _ 19 (.int .i64 (sadd (limitSumL c) (debtCapR c))) (by rfl) (by rfl) (by kernel_rfl) (by rfl) (by exact fun s' W2 hW => srun_call (vs := #[.int .i64 (limitSumL c), .int .i64 (debtCapR c)]) (by rfl) (by kernel_rfl) (enters_of Try.func35 (by kernel_rfl) (by rfl)) (scall_q hW (addR_c _ _ (NI.i64 (limitSumL_NI c)) (NI.i64 (debtCapR_NI hr)) W2))) ?_
    refine @schain _ _ _ _ _ _ _ _ _ _ _ _ _ _ 20 (.int .i64 (smul 16 (sadd (limitSumL c) (debtCapR c)))) (by rfl) (by rfl) (by kernel_rfl) (by rfl) (by exact fun s' W2 hW => srun_call (vs := #[.int .i64 16, .int .i64 (sadd (limitSumL c) (debtCapR c))]) (by rfl) (by kernel_rfl) (enters_of Try.func37 (by kernel_rfl) (by rfl)) (scall_q hW (mulR_c _ _ (I64.lit (by omega) (by omega)) (sadd_I64 _ _) W2))) ?_
    refine @schain _ _ _ _ _ _ _ _ _ _ _ _ _ _ 21 (.pointer (some ⟨w.heap.size, 4, none⟩)) (by rfl) (by rfl) (by kernel_rfl) (by rfl) (by exact fun s' W2 hW => srun_fa (p := .pointer (some ⟨w.heap.size, 0, none⟩)) (by rfl) (by exact eval_base (by kernel_rfl) (by rfl)) (fun W => by first | kernel_rfl | go_simp) hW) ?_
    refine @schain _ _ _ _ _ _ _ _ _ _ _ _ _ _ 22 (.int .i64 c.MaxImm) (by rfl) (by rfl) (by kernel_rfl) (by rfl) (by exact fun s' W2 hW => srun_ld (by rfl) (by exact eval_look (by kernel_rfl) (by kernel_rfl)) (ldInt _ _ _ _ (hW.cell c4)) hW) ?_
    refine @schain _ _ _ _ _ _ _ _ _ _ _ _ _ _ 23 (.int .i64 (c.MaxImm + 4)) (by rfl) (by rfl) (by kernel_rfl) (by rfl) (by exact fun s' W2 hW => srun_bo (u := .int .i64 c.MaxImm) (v := .int .i64 4) (by rfl) (by exact eval_look (by kernel_rfl) (by kernel_rfl)) (by rfl) (fun W => add_run _ _ _ _ _ z0 W) hW) ?_
    refine @schain _ _ _ _ _ _ _ _ _ _ _ _ _ _ 24 (.agg (cfgC c)) (by rfl) (by rfl) (by kernel_rfl) (by rfl) (by exact fun s' W2 hW => srun_ld (by rfl) (by exact eval_base (by kernel_rfl) (by rfl)) (ldCfg c _ _ (hW.row HX.out)) hW) ?_
    refine @schain _ _ _ _ _ _ _ _ _ _ _ _ _ _ 25 (.int .i64 (memCapL c)) (by rfl) (by rfl) (by kernel_rfl) (by rfl) (by exact fun s' W2 hW => srun_call (vs := #[.agg (cfgC c)]) (by rfl) (by kernel_rfl) (enters_of Try.func29 (by kernel_rfl) (by rfl)) (scall_b hW (memCapR_at hc hr W2))) ?_
    refine @schain _ _ _ _ _ _ _ _ _ _ _ _ _ _ 26 (.int .i64 (smul (c.MaxImm + 4) (memCapL c))) (by rfl) (by rfl) (by kernel_rfl) (by rfl) (by exact fun s' W2 hW => srun_call (vs := #[.int .i64 (c.MaxImm + 4), .int .i64 (memCapL c)]) (by rfl) (by kernel_rfl) (enters_of Try.func37 (by kernel_rfl) (by rfl)) (scall_q hW (mulR_c _ _ (NI.i64 z0) (NI.i64 (memCapL_NI hr)) W2))) ?_
    refine @schain _ _ _ _ _ _ _ _ _ _ _ _ _ _ 27 (.pointer (some ⟨w.heap.size, 26, none⟩)) (by rfl) (by rfl) (by kernel_rfl) (by rfl) (by exact fun s' W2 hW => srun_fa (p := .pointer (some ⟨w.heap.size, 0, none⟩)) (by rfl) (by exact eval_base (by kernel_rfl) (by rfl)) (fun W => by first | kernel_rfl | go_simp) hW) ?_
    refine @schain _ _ _ _ _ _ _ _ _ _ _ _ _ _ 28 (.int .i64 c.MaxManifest) (by rfl) (by rfl) (by kernel_rfl) (by rfl) (by exact fun s' W2 hW => srun_ld (by rfl) (by exact eval_look (by kernel_rfl) (by kernel_rfl)) (ldInt _ _ _ _ (hW.cell c26)) hW) ?_
    refine @schain _ _ _ _ _ _ _ _ _ _ _ _ _ _ 29 (.int .i64 (smul 2 c.MaxManifest)) (by rfl) (by rfl) (by kernel_rfl) (by rfl) (by exact fun s' W2 hW => srun_call (vs := #[.int .i64 2, .int .i64 c.MaxManifest]) (by rfl) (by kernel_rfl) (enters_of Try.func37 (by kernel_rfl) (by rfl)) (scall_q hW (mulR_c _ _ (I64.lit (by omega) (by omega)) (NI.i64 n26) W2))) ?_
    refine @schainT _ _ _ _ _ _ _ _ _ _ _ _ _ _ 30 (fun v s' => ∃ g, v = .slice (some ⟨g, 0, none⟩) 6 6 ∧ s' = (g, [(smul 4 (abv x)), (abv y), (smul 16 (sadd (limitSumL c) (debtCapR c))), (smul (c.MaxImm + 4) (memCapL c)), (smul 2 c.MaxManifest), 131072]) :: []) (by rfl) (by kernel_rfl) (by rfl) ⟨_, _, 0, rfl, rfl⟩ (fun _ _ ⟨_, _, h⟩ => h ▸ fun _ hp => List.mem_cons_of_mem _ hp) (by exact fun W2 hW => srun_bs (e := 3) (vs := #[(0, .int .i64 (smul 4 (abv x))), (1, .int .i64 (abv y)), (2, .int .i64 (smul 16 (sadd (limitSumL c) (debtCapR c)))), (3, .int .i64 (smul (c.MaxImm + 4) (memCapL c))), (4, .int .i64 (smul 2 c.MaxManifest)), (5, .int .i64 131072)]) (cells := #[.int .i64 (smul 4 (abv x)), .int .i64 (abv y), .int .i64 (smul 16 (sadd (limitSumL c) (debtCapR c))), .int .i64 (smul (c.MaxImm + 4) (memCapL c)), .int .i64 (smul 2 c.MaxManifest), .int .i64 131072]) (by rfl) (by kernel_rfl) (fun W => by go_simp) (by rfl) (by show 6 ≤ 9223372036854775807; omega) hW) (fun x s' hx => ?_)
    obtain ⟨g1, rfl, rfl⟩ := hx
    refine @schain1 _ _ _ _ _ _ _ _ _ _ _ _ _ _ 31 (.int .i64 (sadd (sadd (sadd (sadd (sadd (smul 4 (abv x)) (abv y)) (smul 16 (sadd (limitSumL c) (debtCapR c)))) (smul (c.MaxImm + 4) (memCapL c))) (smul 2 c.MaxManifest)) 131072)) (by rfl) (by kernel_rfl) (by rfl) (by exact fun s' hs W2 hW => srun_call (vs := #[.slice (some ⟨g1, 0, none⟩) 6 6]) (by rfl) (by kernel_rfl) (enters_of Try.func73 (by kernel_rfl) (by rfl)) (sum_at hW (hs _ List.mem_cons_self) (allI_cons (smul_I64 _ _) (allI_cons (NI.i64 (abv_NI hy)) (allI_cons (smul_I64 _ _) (allI_cons (smul_I64 _ _) (allI_cons (smul_I64 _ _) (allI_cons (I64.lit (by omega) (by omega)) allI_nil)))))))) ?_
    refine snil (fun V1 hV1 => ?_)
    refine Eq.mpr (congrArg (fun a => wpList _ _ _ _ a V1) (show _ = (⟨#[.agg (cfgC c), .int .i64 x, .int .i64 y, .pointer (some ⟨w.heap.size, 0, none⟩), undef, undef, .int .i64 0, .agg (cfgC c), .bool true, .bool false, .int .i64 x, .int .i64 (abv x), .int .i64 (smul 4 (abv x)), .int .i64 y, .int .i64 (abv y), .agg (cfgC c), .int .i64 (limitSumL c), .agg (cfgC c), .int .i64 (debtCapR c), .int .i64 (sadd (limitSumL c) (debtCapR c)), .int .i64 (smul 16 (sadd (limitSumL c) (debtCapR c))), .pointer (some ⟨w.heap.size, 4, none⟩), .int .i64 c.MaxImm, .int .i64 (c.MaxImm + 4), .agg (cfgC c), .int .i64 (memCapL c), .int .i64 (smul (c.MaxImm + 4) (memCapL c)), .pointer (some ⟨w.heap.size, 26, none⟩), .int .i64 c.MaxManifest, .int .i64 (smul 2 c.MaxManifest), .slice (some ⟨g1, 0, none⟩) 6 6, .int .i64 (sadd (sadd (sadd (sadd (sadd (smul 4 (abv x)) (abv y)) (smul 16 (sadd (limitSumL c) (debtCapR c)))) (smul (c.MaxImm + 4) (memCapL c))) (smul 2 c.MaxManifest)) 131072)], []⟩ : Act) by kernel_rfl)) ?_
    have HW1 := Lib.hid (SumR.none hV1)
    clear hV1
    clear HX
    go_wp2
    go_ret
    exact ⟨by rw [HE.out]; rfl, HBA.out.trans (HW1.out.1.mono HBA.out.size)⟩
end Go.Proofs.Ytjgpcbednhoplaa.H
