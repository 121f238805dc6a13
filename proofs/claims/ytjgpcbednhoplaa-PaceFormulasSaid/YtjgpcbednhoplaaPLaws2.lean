/- PaceFormulas, PaceRises: the walks (printed by genlaws2.py). Conditions: the numbers are ints. -/
import Derived.Test.YtjgpcbednhoplaaPFm3
namespace Go.Proofs.Ytjgpcbednhoplaa.H
open Go.RowKit Go.Deep Go.Shelf Go.Proofs Go.Proofs.YtjgpcbednhoplaaW.PrintWords
set_option linter.unusedVariables false
set_option linter.unusedSimpArgs false
theorem sat_mono {a b : Int} (h : a ≤ b) : sat a ≤ sat b := by unfold sat; repeat' split <;> omega
theorem sadd_mono {a b a' b' : Int} (h : a ≤ a') (h' : b ≤ b') : sadd a b ≤ sadd a' b' := sat_mono (by omega)
theorem smul_mono {a b a' b' : Int} (ha : 0 ≤ a) (hb : 0 ≤ b) (h : a ≤ a') (h' : b ≤ b') : smul a b ≤ smul a' b' := sat_mono (Int.mul_le_mul h h' hb (by omega))
theorem mni_mono {a b a' : Int} (h : a ≤ a') : mni a b ≤ mni a' b := by unfold mni; repeat' split <;> omega
theorem div_mono {a b c : Int} (hc : 0 < c) (h : a ≤ b) : a / c ≤ b / c := Int.ediv_le_ediv hc h
theorem abv_mono {a b : Int} (h : a ≤ b) : abv a ≤ abv b := by unfold abv; repeat' split <;> omega
theorem iR_mono {c : Cfg} {v v' : Int} (h : rightL c = true → v ≤ v') : iR c v ≤ iR c v' := by
  unfold iR
  split
  · rename_i hr; exact h hr
  · exact Int.le_refl _
theorem tfL_mono {c : Cfg} (hr : rightL c = true) {x y : Int} (hx : NI x) (hy : NI y) (h : x ≤ y) : tfL c x ≤ tfL c y := by
  have h1 := r_MaxChunk hr
  unfold tfL
  exact sadd_mono (smul_mono (by omega) (NI.sadd (NI.div hx (by omega)) ⟨by omega, by omega⟩).1 (Int.le_refl _) (sadd_mono (div_mono (by omega) h) (Int.le_refl _))) (Int.le_refl _)
theorem tcL_mono {c : Cfg} (hr : rightL c = true) {x y : Int} (hx : NI x) (hy : NI y) (h : x ≤ y) : tcL c x ≤ tcL c y := by
  have h1 := r_MaxChunk hr
  have h2 := r_FileBytes hr
  have hg := gL_NI hr
  have hd := div_mono (c := c.MaxChunk) (by omega) h
  have hf := div_mono (c := c.FileBytes) (by omega) h
  have nd := NI.div hx (y := c.MaxChunk) (by omega)
  have nf := NI.div hx (y := c.FileBytes) (by omega)
  have n3 : NI 3 := ⟨by omega, by omega⟩
  unfold tcL
  exact sadd_mono (sadd_mono (sadd_mono (sadd_mono hd (Int.le_refl _)) (smul_mono (NI.sadd (NI.sadd nd nf) n3).1 hg.1 (sadd_mono (sadd_mono hd hf) (Int.le_refl _)) (Int.le_refl _)))
    (smul_mono (by omega) (NI.sadd nf n3).1 (Int.le_refl _) (sadd_mono hf (Int.le_refl _)))) (Int.le_refl _)
theorem yL_mono {c : Cfg} (hr : rightL c = true) {x y : Int} (hx : NI x) (hy : NI y) (h : x ≤ y) : yL c x ≤ yL c y := by
  unfold yL ddL
  exact sadd_mono (Int.le_refl _) (mni_mono (sadd_mono (sadd_mono h (Int.le_refl _)) (Int.le_refl _)))
theorem t0L_mono {c : Cfg} (hr : rightL c = true) {x y : Int} (hx : NI x) (hy : NI y) (h : x ≤ y) : t0L c x ≤ t0L c y := by
  unfold t0L
  exact sadd_mono (sadd_mono (Int.le_refl _) (smul_mono (by omega) (tcL_NI hr hx).1 (Int.le_refl _) (tcL_mono hr hx hy h))) (Int.le_refl _)
theorem mv_mono {c : Cfg} (hr : rightL c = true) {x y : Int} (hx : NI x) (hy : NI y) (h : x ≤ y) : sadd ((smul c.Levels x) / 450) 2 ≤ sadd ((smul c.Levels y) / 450) 2 := by
  have h1 := r_Levels hr
  exact sadd_mono (div_mono (by omega) (smul_mono (by omega) hx.1 (Int.le_refl _) h)) (Int.le_refl _)
theorem mv_NI {c : Cfg} (hr : rightL c = true) {x y : Int} (hx : NI x) (hy : NI y) (h : x ≤ y) : NI (sadd ((smul c.Levels x) / 450) 2) := by
  have h1 := r_Levels hr
  exact NI.sadd (NI.div (NI.smul ⟨by omega, by omega⟩ hx) (by omega)) ⟨by omega, by omega⟩
theorem tdL_mono {c : Cfg} (hr : rightL c = true) {x y : Int} (hx : NI x) (hy : NI y) (h : x ≤ y) : tdL c x ≤ tdL c y := by
  unfold tdL
  have n8 : NI 8 := ⟨by omega, by omega⟩
  exact smul_mono (mv_NI hr hx hy h).1 (NI.sadd (NI.sadd (NI.sadd (tcL_NI hr hx) (tcL_NI hr (fanL_NI hr))) (tfL_NI hr (memCapL_NI hr))) n8).1 (mv_mono hr hx hy h)
    (sadd_mono (sadd_mono (sadd_mono (tcL_mono hr hx hy h) (Int.le_refl _)) (Int.le_refl _)) (Int.le_refl _))
theorem nL_mono {c : Cfg} (hr : rightL c = true) {x y : Int} (hx : NI x) (hy : NI y) (h : x ≤ y) : nL c x ≤ nL c y := by
  unfold nL
  have n2 : NI 2 := ⟨by omega, by omega⟩
  exact sadd_mono (smul_mono (NI.sadd (qL_NI hr) n2).1 (NI.sadd (t0L_NI hr hx) n2).1 (Int.le_refl _) (sadd_mono (t0L_mono hr hx hy h) (Int.le_refl _))) (tdL_mono hr hx hy h)
theorem b1L_mono {c : Cfg} (hr : rightL c = true) {x y : Int} (hx : NI x) (hy : NI y) (h : x ≤ y) : b1L c x ≤ b1L c y := by
  have h1 := r_Clients hr
  have h2 := r_MaxImm hr
  have h3 := r_SlowRate hr
  have hyx := yL_NI hr hx
  have hyy := yL_NI hr hy
  have hm := yL_mono hr hx hy h
  have n1 : NI c.MaxImm := ⟨by omega, by omega⟩
  have n2 : NI 1 := ⟨by omega, by omega⟩
  have n3 : NI 2 := ⟨by omega, by omega⟩
  have nq : NI (17408 / c.SlowRate) := NI.div ⟨by omega, by omega⟩ (by omega)
  have nc : NI c.Clients := ⟨by omega, by omega⟩
  have nt := t0L_NI hr hyx
  have na := NI.sadd n1 n2
  have nb := NI.sadd (NI.sadd nt (tfL_NI hr (memCapL_NI hr))) n3
  unfold b1L
  exact smul_mono (by omega) (NI.sadd (NI.sadd (NI.sadd (NI.sadd (nL_NI hr hyx) (NI.smul na nb)) nq) (NI.smul ⟨by omega, by omega⟩ nc)) ⟨by omega, by omega⟩).1 (Int.le_refl _)
    (sadd_mono (sadd_mono (sadd_mono (sadd_mono (nL_mono hr hyx hyy hm) (smul_mono na.1 nb.1 (Int.le_refl _) (sadd_mono (sadd_mono (t0L_mono hr hyx hyy hm) (Int.le_refl _)) (Int.le_refl _)))) (Int.le_refl _)) (Int.le_refl _)) (Int.le_refl _))
theorem b2L_mono {c : Cfg} (hr : rightL c = true) {x y : Int} (hx : NI x) (hy : NI y) (h : x ≤ y) : b2L c x ≤ b2L c y := by
  have h1 := r_Clients hr
  have h2 := r_MaxImm hr
  have h4 := r_MaxChunk hr
  have hax := allL_NI hr hx
  have hay := allL_NI hr hy
  have hm : allL c x ≤ allL c y := by unfold allL; exact sadd_mono (sadd_mono h (Int.le_refl _)) (Int.le_refl _)
  have n1 : NI c.MaxImm := ⟨by omega, by omega⟩
  have n2 : NI 2 := ⟨by omega, by omega⟩
  have n8 : NI 8 := ⟨by omega, by omega⟩
  have nt := tcL_NI hr hax
  have nf := tcL_NI hr (fanL_NI hr)
  have nm := tfL_NI hr (memCapL_NI hr)
  have ht := tcL_mono hr hax hay hm
  unfold b2L
  exact sadd_mono (sadd_mono (sadd_mono (sadd_mono (sadd_mono (b1L_mono hr hx hy h) (smul_mono (NI.sadd n1 n2).1 (NI.sadd (NI.sadd (NI.sadd nm nt) nf) n8).1 (Int.le_refl _) (sadd_mono (sadd_mono (sadd_mono (Int.le_refl _) ht) (Int.le_refl _)) (Int.le_refl _))))
    (smul_mono (mv_NI hr hax hay hm).1 (NI.sadd (NI.sadd nt nf) n2).1 (mv_mono hr hax hay hm) (sadd_mono (sadd_mono ht (Int.le_refl _)) (Int.le_refl _)))) (div_mono (by omega) hm)) (Int.le_refl _)) (Int.le_refl _)
theorem roomL_mono1 {c : Cfg} (hr : rightL c = true) {x y : Int} (hx : NI x) (hy : NI y) (h : x ≤ y) (z : Int) : roomL c x z ≤ roomL c y z := by
  unfold roomL
  exact sadd_mono (sadd_mono (sadd_mono (sadd_mono (sadd_mono (smul_mono (by omega) hx.1 (Int.le_refl _) h) (Int.le_refl _)) (Int.le_refl _)) (Int.le_refl _)) (Int.le_refl _)) (Int.le_refl _)
theorem roomL_mono2 {c : Cfg} (hr : rightL c = true) {x y : Int} (hx : NI x) (hy : NI y) (h : x ≤ y) (z : Int) : roomL c z x ≤ roomL c z y := by
  unfold roomL
  exact sadd_mono (sadd_mono (sadd_mono (sadd_mono (sadd_mono (Int.le_refl _) h) (Int.le_refl _)) (Int.le_refl _)) (Int.le_refl _)) (Int.le_refl _)
theorem leq_run (t : TypeId) (x y : Operand) (a b : Int) (h : a ≤ b) (W : World) : (do eqGuard .leq t x y (.int .i64 a) (.int .i64 b); binOp .leq t (.int .i64 a) (.int .i64 b) : Sem Value).run Try.prog W = .ok (.bool true) W := by
  go_simp
  try simpa using h
set_option maxHeartbeats 3200000 in
set_option maxRecDepth 100000 in
theorem paceFormulas_c (c : Cfg) (hc : CfgOk c) (x y : Int) (hx : I64 x) (hy : I64 y) (w : World) : Calls Try.prog 10 #[cfgV c, .int .i64 x, .int .i64 y] w fun e w' => e = .returned (.bool true) ∧ Below w.heap.size w w' := by
  have HBX := Lib.hid (cfgBlk c w)
  have HBA := Lib.hid ((Below.refl w.heap.size w).alloc (Nat.le_refl _) (.cells (cfgC c) 23))
  have HSZ := Lib.hid (World.size_alloc w (.cells (cfgC c) 23))
  unfold cfgV at *
  go_enter Try.func10, Try.ntmps10
  go_wp2_with fail
  generalize w.alloc (.cells (cfgC c) 23) = wa at *
  refine (known_c _).mono ?_
  rintro e w1 ⟨rfl, hb1⟩
  have HB1 := Lib.hid (HBA.out.trans (hb1.mono HBA.out.size))
  have HX1 := Lib.hid ((hb1.block w.heap.size (by rw [HSZ.out]; omega)).trans HBX.out)
  clear hb1
  go_wp2_with fail
  refine wp_region_calmB 45 (by kernel_rfl) (by kernel_rfl) ?_
  simp only [List.take_succ_cons, List.take_zero, List.drop_succ_cons, List.drop_zero]
  refine chain0 ?_
  refine @chain _ _ _ _ _ _ _ _ 11 (.agg (cfgC c)) (by rfl) (by rfl) (by exact fun W2 hW => run_row (by rfl) (by exact eval_base (by kernel_rfl) (by rfl)) HX1.out (fun W h => ldCfg c _ W h) hW) ?_
  refine @chain _ _ _ _ _ _ _ _ 12 (.int .i64 x) (by rfl) (by rfl) (by exact fun W2 hW => run_mv (by rfl) (by exact eval_base (by kernel_rfl) (by rfl)) hW) ?_
  refine @chain _ _ _ _ _ _ _ _ 13 (.int .i64 (iR c (tfL c (abv x)))) (by rfl) (by rfl) (by exact fun W2 hW => run_call (vs := #[.agg (cfgC c), .int .i64 x]) (by rfl) (by kernel_rfl) (enters_of Try.func38 (by kernel_rfl) (by rfl)) (calm_b hW (TF_c c hc _ hx W2))) ?_
  refine @chain _ _ _ _ _ _ _ _ 14 (.agg (cfgC c)) (by rfl) (by rfl) (by exact fun W2 hW => run_row (by rfl) (by exact eval_base (by kernel_rfl) (by rfl)) HX1.out (fun W h => ldCfg c _ W h) hW) ?_
  refine @chain _ _ _ _ _ _ _ _ 15 (.int .i64 x) (by rfl) (by rfl) (by exact fun W2 hW => run_mv (by rfl) (by exact eval_base (by kernel_rfl) (by rfl)) hW) ?_
  refine @chain _ _ _ _ _ _ _ _ 16 (.int .i64 (iR c (tfL c (abv x)))) (by rfl) (by rfl) (by exact fun W2 hW => run_call (vs := #[.agg (cfgC c), .int .i64 x]) (by rfl) (by kernel_rfl) (enters_of Try.func43 (by kernel_rfl) (by rfl)) (calm_b hW (TFr_c c hc _ hx W2))) ?_
  refine @chain _ _ _ _ _ _ _ _ 17 (.bool true) (by rfl) (by rfl) (by exact fun W2 hW => run_bo (u := .int .i64 (iR c (tfL c (abv x)))) (v := .int .i64 (iR c (tfL c (abv x)))) (by rfl) (by exact eval_look (by kernel_rfl) (by kernel_rfl)) (by exact eval_look (by kernel_rfl) (by kernel_rfl)) (fun W => by go_simp) hW) ?_
  refine @chain _ _ _ _ _ _ _ _ 18 (.bool true) (by rfl) (by rfl) (by exact fun W2 hW => run_mv (by rfl) (by exact eval_look (by kernel_rfl) (by kernel_rfl)) hW) ?_
  refine @chainG _ _ _ _ _ _ _ _ 19 (.agg (cfgC c)) (by kernel_rfl) (by rfl) (by exact fun W2 hW => run_row (by rfl) (by exact eval_base (by kernel_rfl) (by rfl)) HX1.out (fun W h => ldCfg c _ W h) hW) ?_
  refine @chainG _ _ _ _ _ _ _ _ 20 (.int .i64 x) (by kernel_rfl) (by rfl) (by exact fun W2 hW => run_mv (by rfl) (by exact eval_base (by kernel_rfl) (by rfl)) hW) ?_
  refine @chainG _ _ _ _ _ _ _ _ 21 (.int .i64 (iR c (tcL c (abv x)))) (by kernel_rfl) (by rfl) (by exact fun W2 hW => run_call (vs := #[.agg (cfgC c), .int .i64 x]) (by rfl) (by kernel_rfl) (enters_of Try.func39 (by kernel_rfl) (by rfl)) (calm_b hW (TC_c c hc _ hx W2))) ?_
  refine @chainG _ _ _ _ _ _ _ _ 22 (.agg (cfgC c)) (by kernel_rfl) (by rfl) (by exact fun W2 hW => run_row (by rfl) (by exact eval_base (by kernel_rfl) (by rfl)) HX1.out (fun W h => ldCfg c _ W h) hW) ?_
  refine @chainG _ _ _ _ _ _ _ _ 23 (.int .i64 x) (by kernel_rfl) (by rfl) (by exact fun W2 hW => run_mv (by rfl) (by exact eval_base (by kernel_rfl) (by rfl)) hW) ?_
  refine @chainG _ _ _ _ _ _ _ _ 24 (.int .i64 (iR c (tcL c (abv x)))) (by kernel_rfl) (by rfl) (by exact fun W2 hW => run_call (vs := #[.agg (cfgC c), .int .i64 x]) (by rfl) (by kernel_rfl) (enters_of Try.func44 (by kernel_rfl) (by rfl)) (calm_b hW (TCr_c c hc _ hx W2))) ?_
  refine @chainG _ _ _ _ _ _ _ _ 25 (.bool true) (by kernel_rfl) (by rfl) (by exact fun W2 hW => run_bo (u := .int .i64 (iR c (tcL c (abv x)))) (v := .int .i64 (iR c (tcL c (abv x)))) (by rfl) (by exact eval_look (by kernel_rfl) (by kernel_rfl)) (by exact eval_look (by kernel_rfl) (by kernel_rfl)) (fun W => by go_simp) hW) ?_
  refine @chain _ _ _ _ _ _ _ _ 26 (.bool true) (by rfl) (by rfl) (by exact fun W2 hW => run_pkT (by rfl) (by exact eval_look (by kernel_rfl) (by kernel_rfl)) (by exact eval_look (by kernel_rfl) (by kernel_rfl)) hW) ?_
  refine @chain _ _ _ _ _ _ _ _ 27 (.bool true) (by rfl) (by rfl) (by exact fun W2 hW => run_mv (by rfl) (by exact eval_look (by kernel_rfl) (by kernel_rfl)) hW) ?_
  refine @chainG _ _ _ _ _ _ _ _ 28 (.agg (cfgC c)) (by kernel_rfl) (by rfl) (by exact fun W2 hW => run_row (by rfl) (by exact eval_base (by kernel_rfl) (by rfl)) HX1.out (fun W h => ldCfg c _ W h) hW) ?_
  refine @chainG _ _ _ _ _ _ _ _ 29 (.int .i64 x) (by kernel_rfl) (by rfl) (by exact fun W2 hW => run_mv (by rfl) (by exact eval_base (by kernel_rfl) (by rfl)) hW) ?_
  refine @chainG _ _ _ _ _ _ _ _ 30 (.int .i64 (iR c (b1L c (abv x)))) (by kernel_rfl) (by rfl) (by exact fun W2 hW => run_call (vs := #[.agg (cfgC c), .int .i64 x]) (by rfl) (by kernel_rfl) (enters_of Try.func40 (by kernel_rfl) (by rfl)) (calm_b hW (B1_c c hc _ hx W2))) ?_
  refine @chainG _ _ _ _ _ _ _ _ 31 (.agg (cfgC c)) (by kernel_rfl) (by rfl) (by exact fun W2 hW => run_row (by rfl) (by exact eval_base (by kernel_rfl) (by rfl)) HX1.out (fun W h => ldCfg c _ W h) hW) ?_
  refine @chainG _ _ _ _ _ _ _ _ 32 (.int .i64 x) (by kernel_rfl) (by rfl) (by exact fun W2 hW => run_mv (by rfl) (by exact eval_base (by kernel_rfl) (by rfl)) hW) ?_
  refine @chainG _ _ _ _ _ _ _ _ 33 (.int .i64 (iR c (b1L c (abv x)))) (by kernel_rfl) (by rfl) (by exact fun W2 hW => run_call (vs := #[.agg (cfgC c), .int .i64 x]) (by rfl) (by kernel_rfl) (enters_of Try.func45 (by kernel_rfl) (by rfl)) (calm_b hW (B1r_c c hc _ hx W2))) ?_
  refine @chainG _ _ _ _ _ _ _ _ 34 (.bool true) (by kernel_rfl) (by rfl) (by exact fun W2 hW => run_bo (u := .int .i64 (iR c (b1L c (abv x)))) (v := .int .i64 (iR c (b1L c (abv x)))) (by rfl) (by exact eval_look (by kernel_rfl) (by kernel_rfl)) (by exact eval_look (by kernel_rfl) (by kernel_rfl)) (fun W => by go_simp) hW) ?_
  refine @chain _ _ _ _ _ _ _ _ 35 (.bool true) (by rfl) (by rfl) (by exact fun W2 hW => run_pkT (by rfl) (by exact eval_look (by kernel_rfl) (by kernel_rfl)) (by exact eval_look (by kernel_rfl) (by kernel_rfl)) hW) ?_
  refine @chain _ _ _ _ _ _ _ _ 36 (.bool true) (by rfl) (by rfl) (by exact fun W2 hW => run_mv (by rfl) (by exact eval_look (by kernel_rfl) (by kernel_rfl)) hW) ?_
  refine @chainG _ _ _ _ _ _ _ _ 37 (.agg (cfgC c)) (by kernel_rfl) (by rfl) (by exact fun W2 hW => run_row (by rfl) (by exact eval_base (by kernel_rfl) (by rfl)) HX1.out (fun W h => ldCfg c _ W h) hW) ?_
  refine @chainG _ _ _ _ _ _ _ _ 38 (.int .i64 x) (by kernel_rfl) (by rfl) (by exact fun W2 hW => run_mv (by rfl) (by exact eval_base (by kernel_rfl) (by rfl)) hW) ?_
  refine @chainG _ _ _ _ _ _ _ _ 39 (.int .i64 (iR c (b2L c (abv x)))) (by kernel_rfl) (by rfl) (by exact fun W2 hW => run_call (vs := #[.agg (cfgC c), .int .i64 x]) (by rfl) (by kernel_rfl) (enters_of Try.func41 (by kernel_rfl) (by rfl)) (calm_b hW (B2_c c hc _ hx W2))) ?_
  refine @chainG _ _ _ _ _ _ _ _ 40 (.agg (cfgC c)) (by kernel_rfl) (by rfl) (by exact fun W2 hW => run_row (by rfl) (by exact eval_base (by kernel_rfl) (by rfl)) HX1.out (fun W h => ldCfg c _ W h) hW) ?_
  refine @chainG _ _ _ _ _ _ _ _ 41 (.int .i64 x) (by kernel_rfl) (by rfl) (by exact fun W2 hW => run_mv (by rfl) (by exact eval_base (by kernel_rfl) (by rfl)) hW) ?_
  refine @chainG _ _ _ _ _ _ _ _ 42 (.int .i64 (iR c (b2L c (abv x)))) (by kernel_rfl) (by rfl) (by exact fun W2 hW => run_call (vs := #[.agg (cfgC c), .int .i64 x]) (by rfl) (by kernel_rfl) (enters_of Try.func46 (by kernel_rfl) (by rfl)) (calm_b hW (B2r_c c hc _ hx W2))) ?_
  refine @chainG _ _ _ _ _ _ _ _ 43 (.bool true) (by kernel_rfl) (by rfl) (by exact fun W2 hW => run_bo (u := .int .i64 (iR c (b2L c (abv x)))) (v := .int .i64 (iR c (b2L c (abv x)))) (by rfl) (by exact eval_look (by kernel_rfl) (by kernel_rfl)) (by exact eval_look (by kernel_rfl) (by kernel_rfl)) (fun W => by go_simp) hW) ?_
  refine @chain _ _ _ _ _ _ _ _ 44 (.bool true) (by rfl) (by rfl) (by exact fun W2 hW => run_pkT (by rfl) (by exact eval_look (by kernel_rfl) (by kernel_rfl)) (by exact eval_look (by kernel_rfl) (by kernel_rfl)) hW) ?_
  refine @chain _ _ _ _ _ _ _ _ 45 (.bool true) (by rfl) (by rfl) (by exact fun W2 hW => run_mv (by rfl) (by exact eval_look (by kernel_rfl) (by kernel_rfl)) hW) ?_
  refine @chainG _ _ _ _ _ _ _ _ 46 (.agg (cfgC c)) (by kernel_rfl) (by rfl) (by exact fun W2 hW => run_row (by rfl) (by exact eval_base (by kernel_rfl) (by rfl)) HX1.out (fun W h => ldCfg c _ W h) hW) ?_
  refine @chainG _ _ _ _ _ _ _ _ 47 (.int .i64 x) (by kernel_rfl) (by rfl) (by exact fun W2 hW => run_mv (by rfl) (by exact eval_base (by kernel_rfl) (by rfl)) hW) ?_
  refine @chainG _ _ _ _ _ _ _ _ 48 (.int .i64 y) (by kernel_rfl) (by rfl) (by exact fun W2 hW => run_mv (by rfl) (by exact eval_base (by kernel_rfl) (by rfl)) hW) ?_
  refine @chainG _ _ _ _ _ _ _ _ 49 (.int .i64 (iR c (roomL c (abv x) (abv y)))) (by kernel_rfl) (by rfl) (by exact fun W2 hW => run_call (vs := #[.agg (cfgC c), .int .i64 x, .int .i64 y]) (by rfl) (by kernel_rfl) (enters_of Try.func42 (by kernel_rfl) (by rfl)) (calm_b hW (Room_c c hc _ hx _ hy W2))) ?_
  refine @chainG _ _ _ _ _ _ _ _ 50 (.agg (cfgC c)) (by kernel_rfl) (by rfl) (by exact fun W2 hW => run_row (by rfl) (by exact eval_base (by kernel_rfl) (by rfl)) HX1.out (fun W h => ldCfg c _ W h) hW) ?_
  refine @chainG _ _ _ _ _ _ _ _ 51 (.int .i64 x) (by kernel_rfl) (by rfl) (by exact fun W2 hW => run_mv (by rfl) (by exact eval_base (by kernel_rfl) (by rfl)) hW) ?_
  refine @chainG _ _ _ _ _ _ _ _ 52 (.int .i64 y) (by kernel_rfl) (by rfl) (by exact fun W2 hW => run_mv (by rfl) (by exact eval_base (by kernel_rfl) (by rfl)) hW) ?_
  refine @chainG _ _ _ _ _ _ _ _ 53 (.int .i64 (iR c (roomL c (abv x) (abv y)))) (by kernel_rfl) (by rfl) (by exact fun W2 hW => run_call (vs := #[.agg (cfgC c), .int .i64 x, .int .i64 y]) (by rfl) (by kernel_rfl) (enters_of Try.func47 (by kernel_rfl) (by rfl)) (calm_b hW (Roomr_c c hc _ hx _ hy W2))) ?_
  refine @chainG _ _ _ _ _ _ _ _ 54 (.bool true) (by kernel_rfl) (by rfl) (by exact fun W2 hW => run_bo (u := .int .i64 (iR c (roomL c (abv x) (abv y)))) (v := .int .i64 (iR c (roomL c (abv x) (abv y)))) (by rfl) (by exact eval_look (by kernel_rfl) (by kernel_rfl)) (by exact eval_look (by kernel_rfl) (by kernel_rfl)) (fun W => by go_simp) hW) ?_
  refine @chain _ _ _ _ _ _ _ _ 55 (.bool true) (by rfl) (by rfl) (by exact fun W2 hW => run_pkT (by rfl) (by exact eval_look (by kernel_rfl) (by kernel_rfl)) (by exact eval_look (by kernel_rfl) (by kernel_rfl)) hW) ?_
  refine calm_nil (fun W2 hW2 => ?_)
  refine Eq.mpr (congrArg (fun a => wpList _ _ _ _ a W2) (show _ = (⟨#[.agg (cfgC c), .int .i64 x, .int .i64 y, .pointer (some ⟨w.heap.size, 0, none⟩), undef, undef, .bool false, .bool true, .bool true, .bool true, .bool false, .agg (cfgC c), .int .i64 x, .int .i64 (iR c (tfL c (abv x))), .agg (cfgC c), .int .i64 x, .int .i64 (iR c (tfL c (abv x))), .bool true, .bool true, .agg (cfgC c), .int .i64 x, .int .i64 (iR c (tcL c (abv x))), .agg (cfgC c), .int .i64 x, .int .i64 (iR c (tcL c (abv x))), .bool true, .bool true, .bool true, .agg (cfgC c), .int .i64 x, .int .i64 (iR c (b1L c (abv x))), .agg (cfgC c), .int .i64 x, .int .i64 (iR c (b1L c (abv x))), .bool true, .bool true, .bool true, .agg (cfgC c), .int .i64 x, .int .i64 (iR c (b2L c (abv x))), .agg (cfgC c), .int .i64 x, .int .i64 (iR c (b2L c (abv x))), .bool true, .bool true, .bool true, .agg (cfgC c), .int .i64 x, .int .i64 y, .int .i64 (iR c (roomL c (abv x) (abv y))), .agg (cfgC c), .int .i64 x, .int .i64 y, .int .i64 (iR c (roomL c (abv x) (abv y))), .bool true, .bool true], []⟩ : Act) by kernel_rfl)) ?_
  have HW := Lib.hid hW2
  clear hW2
  go_wp2
  go_ret
  exact ⟨by rfl, HB1.out.trans (HW.out.mono HB1.out.size)⟩
set_option maxHeartbeats 3200000 in
set_option maxRecDepth 100000 in
theorem paceRises_c (c : Cfg) (hc : CfgOk c) (x more : Int) (hx : I64 x) (hmore : I64 more) (w : World) : Calls Try.prog 9 #[cfgV c, .int .i64 x, .int .i64 more] w fun e w' => e = .returned (.bool true) ∧ Below w.heap.size w w' := by
  have HBX := Lib.hid (cfgBlk c w)
  have HBA := Lib.hid ((Below.refl w.heap.size w).alloc (Nat.le_refl _) (.cells (cfgC c) 23))
  have HSZ := Lib.hid (World.size_alloc w (.cells (cfgC c) 23))
  unfold cfgV at *
  go_enter Try.func9, Try.ntmps9
  go_wp2_with fail
  generalize w.alloc (.cells (cfgC c) 23) = wa at *
  refine (known_c _).mono ?_
  rintro e w1 ⟨rfl, hb1⟩
  have HB1 := Lib.hid (HBA.out.trans (hb1.mono HBA.out.size))
  have HX1 := Lib.hid ((hb1.block w.heap.size (by rw [HSZ.out]; omega)).trans HBX.out)
  clear hb1
  by_cases g1 : more < 0
  · clear hx hmore
    go_wp2
    go_ret
    exact ⟨by rfl, HB1.out⟩
  by_cases g2 : x > 4611686018427387904
  · clear hx hmore
    go_wp2
    go_ret
    exact ⟨by rfl, HB1.out⟩
  have hxy : x ≤ sadd x more := by have := hx.1; have := hx.2; unfold sadd sat; repeat' split <;> omega
  go_wp2_with fail
  refine (addX_c _ _ hx hmore _).mono ?_
  obtain ⟨y, hyy⟩ : ∃ y, sadd x more = y := ⟨_, rfl⟩
  have hy : I64 y := hyy ▸ sadd_I64 _ _
  rw [hyy] at hxy ⊢
  rintro e w' ⟨rfl, rfl⟩
  have m0 := Lib.hid (iR_mono (c := c) (v := tfL c (abv x)) (v' := tfL c (abv y)) fun hr => tfL_mono hr (abv_NI hx) (abv_NI hy) (abv_mono hxy))
  have m1 := Lib.hid (iR_mono (c := c) (v := tcL c (abv x)) (v' := tcL c (abv y)) fun hr => tcL_mono hr (abv_NI hx) (abv_NI hy) (abv_mono hxy))
  have m2 := Lib.hid (iR_mono (c := c) (v := b1L c (abv x)) (v' := b1L c (abv y)) fun hr => b1L_mono hr (abv_NI hx) (abv_NI hy) (abv_mono hxy))
  have m3 := Lib.hid (iR_mono (c := c) (v := b2L c (abv x)) (v' := b2L c (abv y)) fun hr => b2L_mono hr (abv_NI hx) (abv_NI hy) (abv_mono hxy))
  have m4 := Lib.hid (iR_mono (c := c) (v := roomL c (abv x) (abv 5)) (v' := roomL c (abv y) (abv 5)) fun hr => roomL_mono1 hr (abv_NI hx) (abv_NI hy) (abv_mono hxy) _)
  have m5 := Lib.hid (iR_mono (c := c) (v := roomL c (abv 5) (abv x)) (v' := roomL c (abv 5) (abv y)) fun hr => roomL_mono2 hr (abv_NI hx) (abv_NI hy) (abv_mono hxy) _)
  clear hxy hyy
  go_wp2_with fail
  refine wp_region_calmB 52 (by kernel_rfl) (by kernel_rfl) ?_
  simp only [List.take_succ_cons, List.take_zero, List.drop_succ_cons, List.drop_zero]
  refine chain0 ?_
  refine @chain _ _ _ _ _ _ _ _ 24 (.agg (cfgC c)) (by rfl) (by rfl) (by exact fun W2 hW => run_row (by rfl) (by exact eval_base (by kernel_rfl) (by rfl)) HX1.out (fun W h => ldCfg c _ W h) hW) ?_
  refine @chain _ _ _ _ _ _ _ _ 25 (.int .i64 x) (by rfl) (by rfl) (by exact fun W2 hW => run_mv (by rfl) (by exact eval_base (by kernel_rfl) (by rfl)) hW) ?_
  refine @chain _ _ _ _ _ _ _ _ 26 (.int .i64 (iR c (tfL c (abv x)))) (by rfl) (by rfl) (by exact fun W2 hW => run_call (vs := #[.agg (cfgC c), .int .i64 x]) (by rfl) (by kernel_rfl) (enters_of Try.func38 (by kernel_rfl) (by rfl)) (calm_b hW (TF_c c hc _ hx W2))) ?_
  refine @chain _ _ _ _ _ _ _ _ 27 (.agg (cfgC c)) (by rfl) (by rfl) (by exact fun W2 hW => run_row (by rfl) (by exact eval_base (by kernel_rfl) (by rfl)) HX1.out (fun W h => ldCfg c _ W h) hW) ?_
  refine @chain _ _ _ _ _ _ _ _ 28 (.int .i64 y) (by rfl) (by rfl) (by exact fun W2 hW => run_mv (by rfl) (by exact eval_base (by kernel_rfl) (by rfl)) hW) ?_
  refine @chain _ _ _ _ _ _ _ _ 29 (.int .i64 (iR c (tfL c (abv y)))) (by rfl) (by rfl) (by exact fun W2 hW => run_call (vs := #[.agg (cfgC c), .int .i64 y]) (by rfl) (by kernel_rfl) (enters_of Try.func38 (by kernel_rfl) (by rfl)) (calm_b hW (TF_c c hc _ hy W2))) ?_
  refine @chain _ _ _ _ _ _ _ _ 30 (.bool true) (by rfl) (by rfl) (by exact fun W2 hW => run_bo (u := .int .i64 (iR c (tfL c (abv x)))) (v := .int .i64 (iR c (tfL c (abv y)))) (by rfl) (by exact eval_look (by kernel_rfl) (by kernel_rfl)) (by exact eval_look (by kernel_rfl) (by kernel_rfl)) (fun W => leq_run _ _ _ _ _ m0.out W) hW) ?_
  refine @chain _ _ _ _ _ _ _ _ 31 (.bool true) (by rfl) (by rfl) (by exact fun W2 hW => run_mv (by rfl) (by exact eval_look (by kernel_rfl) (by kernel_rfl)) hW) ?_
  refine @chainG _ _ _ _ _ _ _ _ 32 (.agg (cfgC c)) (by kernel_rfl) (by rfl) (by exact fun W2 hW => run_row (by rfl) (by exact eval_base (by kernel_rfl) (by rfl)) HX1.out (fun W h => ldCfg c _ W h) hW) ?_
  refine @chainG _ _ _ _ _ _ _ _ 33 (.int .i64 x) (by kernel_rfl) (by rfl) (by exact fun W2 hW => run_mv (by rfl) (by exact eval_base (by kernel_rfl) (by rfl)) hW) ?_
  refine @chainG _ _ _ _ _ _ _ _ 34 (.int .i64 (iR c (tcL c (abv x)))) (by kernel_rfl) (by rfl) (by exact fun W2 hW => run_call (vs := #[.agg (cfgC c), .int .i64 x]) (by rfl) (by kernel_rfl) (enters_of Try.func39 (by kernel_rfl) (by rfl)) (calm_b hW (TC_c c hc _ hx W2))) ?_
  refine @chainG _ _ _ _ _ _ _ _ 35 (.agg (cfgC c)) (by kernel_rfl) (by rfl) (by exact fun W2 hW => run_row (by rfl) (by exact eval_base (by kernel_rfl) (by rfl)) HX1.out (fun W h => ldCfg c _ W h) hW) ?_
  refine @chainG _ _ _ _ _ _ _ _ 36 (.int .i64 y) (by kernel_rfl) (by rfl) (by exact fun W2 hW => run_mv (by rfl) (by exact eval_base (by kernel_rfl) (by rfl)) hW) ?_
  refine @chainG _ _ _ _ _ _ _ _ 37 (.int .i64 (iR c (tcL c (abv y)))) (by kernel_rfl) (by rfl) (by exact fun W2 hW => run_call (vs := #[.agg (cfgC c), .int .i64 y]) (by rfl) (by kernel_rfl) (enters_of Try.func39 (by kernel_rfl) (by rfl)) (calm_b hW (TC_c c hc _ hy W2))) ?_
  refine @chainG _ _ _ _ _ _ _ _ 38 (.bool true) (by kernel_rfl) (by rfl) (by exact fun W2 hW => run_bo (u := .int .i64 (iR c (tcL c (abv x)))) (v := .int .i64 (iR c (tcL c (abv y)))) (by rfl) (by exact eval_look (by kernel_rfl) (by kernel_rfl)) (by exact eval_look (by kernel_rfl) (by kernel_rfl)) (fun W => leq_run _ _ _ _ _ m1.out W) hW) ?_
  refine @chain _ _ _ _ _ _ _ _ 39 (.bool true) (by rfl) (by rfl) (by exact fun W2 hW => run_pkT (by rfl) (by exact eval_look (by kernel_rfl) (by kernel_rfl)) (by exact eval_look (by kernel_rfl) (by kernel_rfl)) hW) ?_
  refine @chain _ _ _ _ _ _ _ _ 40 (.bool true) (by rfl) (by rfl) (by exact fun W2 hW => run_mv (by rfl) (by exact eval_look (by kernel_rfl) (by kernel_rfl)) hW) ?_
  refine @chainG _ _ _ _ _ _ _ _ 41 (.agg (cfgC c)) (by kernel_rfl) (by rfl) (by exact fun W2 hW => run_row (by rfl) (by exact eval_base (by kernel_rfl) (by rfl)) HX1.out (fun W h => ldCfg c _ W h) hW) ?_
  refine @chainG _ _ _ _ _ _ _ _ 42 (.int .i64 x) (by kernel_rfl) (by rfl) (by exact fun W2 hW => run_mv (by rfl) (by exact eval_base (by kernel_rfl) (by rfl)) hW) ?_
  refine @chainG _ _ _ _ _ _ _ _ 43 (.int .i64 (iR c (b1L c (abv x)))) (by kernel_rfl) (by rfl) (by exact fun W2 hW => run_call (vs := #[.agg (cfgC c), .int .i64 x]) (by rfl) (by kernel_rfl) (enters_of Try.func40 (by kernel_rfl) (by rfl)) (calm_b hW (B1_c c hc _ hx W2))) ?_
  refine @chainG _ _ _ _ _ _ _ _ 44 (.agg (cfgC c)) (by kernel_rfl) (by rfl) (by exact fun W2 hW => run_row (by rfl) (by exact eval_base (by kernel_rfl) (by rfl)) HX1.out (fun W h => ldCfg c _ W h) hW) ?_
  refine @chainG _ _ _ _ _ _ _ _ 45 (.int .i64 y) (by kernel_rfl) (by rfl) (by exact fun W2 hW => run_mv (by rfl) (by exact eval_base (by kernel_rfl) (by rfl)) hW) ?_
  refine @chainG _ _ _ _ _ _ _ _ 46 (.int .i64 (iR c (b1L c (abv y)))) (by kernel_rfl) (by rfl) (by exact fun W2 hW => run_call (vs := #[.agg (cfgC c), .int .i64 y]) (by rfl) (by kernel_rfl) (enters_of Try.func40 (by kernel_rfl) (by rfl)) (calm_b hW (B1_c c hc _ hy W2))) ?_
  refine @chainG _ _ _ _ _ _ _ _ 47 (.bool true) (by kernel_rfl) (by rfl) (by exact fun W2 hW => run_bo (u := .int .i64 (iR c (b1L c (abv x)))) (v := .int .i64 (iR c (b1L c (abv y)))) (by rfl) (by exact eval_look (by kernel_rfl) (by kernel_rfl)) (by exact eval_look (by kernel_rfl) (by kernel_rfl)) (fun W => leq_run _ _ _ _ _ m2.out W) hW) ?_
  refine @chain _ _ _ _ _ _ _ _ 48 (.bool true) (by rfl) (by rfl) (by exact fun W2 hW => run_pkT (by rfl) (by exact eval_look (by kernel_rfl) (by kernel_rfl)) (by exact eval_look (by kernel_rfl) (by kernel_rfl)) hW) ?_
  refine @chain _ _ _ _ _ _ _ _ 49 (.bool true) (by rfl) (by rfl) (by exact fun W2 hW => run_mv (by rfl) (by exact eval_look (by kernel_rfl) (by kernel_rfl)) hW) ?_
  refine @chainG _ _ _ _ _ _ _ _ 50 (.agg (cfgC c)) (by kernel_rfl) (by rfl) (by exact fun W2 hW => run_row (by rfl) (by exact eval_base (by kernel_rfl) (by rfl)) HX1.out (fun W h => ldCfg c _ W h) hW) ?_
  refine @chainG _ _ _ _ _ _ _ _ 51 (.int .i64 x) (by kernel_rfl) (by rfl) (by exact fun W2 hW => run_mv (by rfl) (by exact eval_base (by kernel_rfl) (by rfl)) hW) ?_
  refine @chainG _ _ _ _ _ _ _ _ 52 (.int .i64 (iR c (b2L c (abv x)))) (by kernel_rfl) (by rfl) (by exact fun W2 hW => run_call (vs := #[.agg (cfgC c), .int .i64 x]) (by rfl) (by kernel_rfl) (enters_of Try.func41 (by kernel_rfl) (by rfl)) (calm_b hW (B2_c c hc _ hx W2))) ?_
  refine @chainG _ _ _ _ _ _ _ _ 53 (.agg (cfgC c)) (by kernel_rfl) (by rfl) (by exact fun W2 hW => run_row (by rfl) (by exact eval_base (by kernel_rfl) (by rfl)) HX1.out (fun W h => ldCfg c _ W h) hW) ?_
  refine @chainG _ _ _ _ _ _ _ _ 54 (.int .i64 y) (by kernel_rfl) (by rfl) (by exact fun W2 hW => run_mv (by rfl) (by exact eval_base (by kernel_rfl) (by rfl)) hW) ?_
  refine @chainG _ _ _ _ _ _ _ _ 55 (.int .i64 (iR c (b2L c (abv y)))) (by kernel_rfl) (by rfl) (by exact fun W2 hW => run_call (vs := #[.agg (cfgC c), .int .i64 y]) (by rfl) (by kernel_rfl) (enters_of Try.func41 (by kernel_rfl) (by rfl)) (calm_b hW (B2_c c hc _ hy W2))) ?_
  refine @chainG _ _ _ _ _ _ _ _ 56 (.bool true) (by kernel_rfl) (by rfl) (by exact fun W2 hW => run_bo (u := .int .i64 (iR c (b2L c (abv x)))) (v := .int .i64 (iR c (b2L c (abv y)))) (by rfl) (by exact eval_look (by kernel_rfl) (by kernel_rfl)) (by exact eval_look (by kernel_rfl) (by kernel_rfl)) (fun W => leq_run _ _ _ _ _ m3.out W) hW) ?_
  refine @chain _ _ _ _ _ _ _ _ 57 (.bool true) (by rfl) (by rfl) (by exact fun W2 hW => run_pkT (by rfl) (by exact eval_look (by kernel_rfl) (by kernel_rfl)) (by exact eval_look (by kernel_rfl) (by kernel_rfl)) hW) ?_
  refine @chain _ _ _ _ _ _ _ _ 58 (.bool true) (by rfl) (by rfl) (by exact fun W2 hW => run_mv (by rfl) (by exact eval_look (by kernel_rfl) (by kernel_rfl)) hW) ?_
  refine @chainG _ _ _ _ _ _ _ _ 59 (.agg (cfgC c)) (by kernel_rfl) (by rfl) (by exact fun W2 hW => run_row (by rfl) (by exact eval_base (by kernel_rfl) (by rfl)) HX1.out (fun W h => ldCfg c _ W h) hW) ?_
  refine @chainG _ _ _ _ _ _ _ _ 60 (.int .i64 x) (by kernel_rfl) (by rfl) (by exact fun W2 hW => run_mv (by rfl) (by exact eval_base (by kernel_rfl) (by rfl)) hW) ?_
  refine @chainG _ _ _ _ _ _ _ _ 61 (.int .i64 (iR c (roomL c (abv x) (abv 5)))) (by kernel_rfl) (by rfl) (by exact fun W2 hW => run_call (vs := #[.agg (cfgC c), .int .i64 x, .int .i64 5]) (by rfl) (by kernel_rfl) (enters_of Try.func42 (by kernel_rfl) (by rfl)) (calm_b hW (Room_c c hc _ hx _ (I64.lit (by omega) (by omega)) W2))) ?_
  refine @chainG _ _ _ _ _ _ _ _ 62 (.agg (cfgC c)) (by kernel_rfl) (by rfl) (by exact fun W2 hW => run_row (by rfl) (by exact eval_base (by kernel_rfl) (by rfl)) HX1.out (fun W h => ldCfg c _ W h) hW) ?_
  refine @chainG _ _ _ _ _ _ _ _ 63 (.int .i64 y) (by kernel_rfl) (by rfl) (by exact fun W2 hW => run_mv (by rfl) (by exact eval_base (by kernel_rfl) (by rfl)) hW) ?_
  refine @chainG _ _ _ _ _ _ _ _ 64 (.int .i64 (iR c (roomL c (abv y) (abv 5)))) (by kernel_rfl) (by rfl) (by exact fun W2 hW => run_call (vs := #[.agg (cfgC c), .int .i64 y, .int .i64 5]) (by rfl) (by kernel_rfl) (enters_of Try.func42 (by kernel_rfl) (by rfl)) (calm_b hW (Room_c c hc _ hy _ (I64.lit (by omega) (by omega)) W2))) ?_
  refine @chainG _ _ _ _ _ _ _ _ 65 (.bool true) (by kernel_rfl) (by rfl) (by exact fun W2 hW => run_bo (u := .int .i64 (iR c (roomL c (abv x) (abv 5)))) (v := .int .i64 (iR c (roomL c (abv y) (abv 5)))) (by rfl) (by exact eval_look (by kernel_rfl) (by kernel_rfl)) (by exact eval_look (by kernel_rfl) (by kernel_rfl)) (fun W => leq_run _ _ _ _ _ m4.out W) hW) ?_
  refine @chain _ _ _ _ _ _ _ _ 66 (.bool true) (by rfl) (by rfl) (by exact fun W2 hW => run_pkT (by rfl) (by exact eval_look (by kernel_rfl) (by kernel_rfl)) (by exact eval_look (by kernel_rfl) (by kernel_rfl)) hW) ?_
  refine @chain _ _ _ _ _ _ _ _ 67 (.bool true) (by rfl) (by rfl) (by exact fun W2 hW => run_mv (by rfl) (by exact eval_look (by kernel_rfl) (by kernel_rfl)) hW) ?_
  refine @chainG _ _ _ _ _ _ _ _ 68 (.agg (cfgC c)) (by kernel_rfl) (by rfl) (by exact fun W2 hW => run_row (by rfl) (by exact eval_base (by kernel_rfl) (by rfl)) HX1.out (fun W h => ldCfg c _ W h) hW) ?_
  refine @chainG _ _ _ _ _ _ _ _ 69 (.int .i64 x) (by kernel_rfl) (by rfl) (by exact fun W2 hW => run_mv (by rfl) (by exact eval_base (by kernel_rfl) (by rfl)) hW) ?_
  refine @chainG _ _ _ _ _ _ _ _ 70 (.int .i64 (iR c (roomL c (abv 5) (abv x)))) (by kernel_rfl) (by rfl) (by exact fun W2 hW => run_call (vs := #[.agg (cfgC c), .int .i64 5, .int .i64 x]) (by rfl) (by kernel_rfl) (enters_of Try.func42 (by kernel_rfl) (by rfl)) (calm_b hW (Room_c c hc _ (I64.lit (by omega) (by omega)) _ hx W2))) ?_
  refine @chainG _ _ _ _ _ _ _ _ 71 (.agg (cfgC c)) (by kernel_rfl) (by rfl) (by exact fun W2 hW => run_row (by rfl) (by exact eval_base (by kernel_rfl) (by rfl)) HX1.out (fun W h => ldCfg c _ W h) hW) ?_
  refine @chainG _ _ _ _ _ _ _ _ 72 (.int .i64 y) (by kernel_rfl) (by rfl) (by exact fun W2 hW => run_mv (by rfl) (by exact eval_base (by kernel_rfl) (by rfl)) hW) ?_
  refine @chainG _ _ _ _ _ _ _ _ 73 (.int .i64 (iR c (roomL c (abv 5) (abv y)))) (by kernel_rfl) (by rfl) (by exact fun W2 hW => run_call (vs := #[.agg (cfgC c), .int .i64 5, .int .i64 y]) (by rfl) (by kernel_rfl) (enters_of Try.func42 (by kernel_rfl) (by rfl)) (calm_b hW (Room_c c hc _ (I64.lit (by omega) (by omega)) _ hy W2))) ?_
  refine @chainG _ _ _ _ _ _ _ _ 74 (.bool true) (by kernel_rfl) (by rfl) (by exact fun W2 hW => run_bo (u := .int .i64 (iR c (roomL c (abv 5) (abv x)))) (v := .int .i64 (iR c (roomL c (abv 5) (abv y)))) (by rfl) (by exact eval_look (by kernel_rfl) (by kernel_rfl)) (by exact eval_look (by kernel_rfl) (by kernel_rfl)) (fun W => leq_run _ _ _ _ _ m5.out W) hW) ?_
  refine @chain _ _ _ _ _ _ _ _ 75 (.bool true) (by rfl) (by rfl) (by exact fun W2 hW => run_pkT (by rfl) (by exact eval_look (by kernel_rfl) (by kernel_rfl)) (by exact eval_look (by kernel_rfl) (by kernel_rfl)) hW) ?_
  refine calm_nil (fun W2 hW2 => ?_)
  refine Eq.mpr (congrArg (fun a => wpList _ _ _ _ a W2) (show _ = (⟨#[.agg (cfgC c), .int .i64 x, .int .i64 more, .pointer (some ⟨w.heap.size, 0, none⟩), undef, undef, .bool false, .bool true, .int .i64 y, .bool true, .bool true, .bool false, .bool false, .int .i64 more, .bool (decide (more < 0)), .bool (decide (more < 0)), .bool (decide (more < 0)), .int .i64 x, .bool (decide (4611686018427387904 < x)), .bool (decide (more < 0) || decide (4611686018427387904 < x)), undef, .int .i64 x, .int .i64 more, .int .i64 y, .agg (cfgC c), .int .i64 x, .int .i64 (iR c (tfL c (abv x))), .agg (cfgC c), .int .i64 y, .int .i64 (iR c (tfL c (abv y))), .bool true, .bool true, .agg (cfgC c), .int .i64 x, .int .i64 (iR c (tcL c (abv x))), .agg (cfgC c), .int .i64 y, .int .i64 (iR c (tcL c (abv y))), .bool true, .bool true, .bool true, .agg (cfgC c), .int .i64 x, .int .i64 (iR c (b1L c (abv x))), .agg (cfgC c), .int .i64 y, .int .i64 (iR c (b1L c (abv y))), .bool true, .bool true, .bool true, .agg (cfgC c), .int .i64 x, .int .i64 (iR c (b2L c (abv x))), .agg (cfgC c), .int .i64 y, .int .i64 (iR c (b2L c (abv y))), .bool true, .bool true, .bool true, .agg (cfgC c), .int .i64 x, .int .i64 (iR c (roomL c (abv x) (abv 5))), .agg (cfgC c), .int .i64 y, .int .i64 (iR c (roomL c (abv y) (abv 5))), .bool true, .bool true, .bool true, .agg (cfgC c), .int .i64 x, .int .i64 (iR c (roomL c (abv 5) (abv x))), .agg (cfgC c), .int .i64 y, .int .i64 (iR c (roomL c (abv 5) (abv y))), .bool true, .bool true], []⟩ : Act) by kernel_rfl)) ?_
  have HW := Lib.hid hW2
  clear hW2
  go_wp2
  go_ret
  exact ⟨by rfl, HB1.out.trans (HW.out.mono HB1.out.size)⟩
end Go.Proofs.Ytjgpcbednhoplaa.H
