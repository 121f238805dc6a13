/- pace's reference: Check (under way). Conditions: the fields are ints. -/
import Derived.Test.YtjgpcbednhoplaaPRef
import Derived.Test.YtjgpcbednhoplaaCalmL
namespace Go.Proofs.Ytjgpcbednhoplaa.H
open Go.RowKit Go.Deep Go.Shelf Go.Proofs Go.Proofs.YtjgpcbednhoplaaW.PrintWords
set_option linter.unusedVariables false
set_option linter.unusedSimpArgs false
def debtRL (c : Cfg) : Int := wrap64 (wrap64 (wrap64 (wrap64 (c.L0Trigger + c.MaxImm) + 2) * memRL c) + 1)
def spansR (c : Cfg) : List (Int × Int × Int) := spansM c (mxi c.L0Slow (wrap64 (c.Flushers + 1))) (debtRL c)
theorem spCell {w : World} {B k : Nat} {l : List (Int × Int × Int)} {t : TypeId} {x lo hi : Int} (h : w.heap[B]? = some (.cells (l.flatMap encSp).toArray t (0, 0))) (hm : l.length ≤ 9223372036854775807) (hx : l[k]? = some (x, lo, hi)) :
    w.cell? ⟨B, k * 3, none⟩ = some (.int .i64 x) ∧ w.cell? ⟨B, k * 3 + 1, none⟩ = some (.int .i64 lo) ∧ w.cell? ⟨B, k * 3 + 2, none⟩ = some (.int .i64 hi) := by
  obtain ⟨b', o', hA, hbl, hcs⟩ := (Sl.of_block (enc := encSp) (sz := 3) (fun _ => rfl) h (by simp) hm).at hx
  injection hA with hA; injection hA with hA1 hA2 hA3
  subst hA1; subst hA2
  exact ⟨by simpa using hcs 0 _ rfl, by simpa using hcs 1 _ rfl, by simpa using hcs 2 _ rfl⟩
theorem spansM_ne (c : Cfg) (m d d' : Int) {k : Nat} (h : k ≠ 23) : (spansM c m d)[k]? = (spansM c m d')[k]? := by
  have e : spansM c m d = (spansM c m d').set 23 (c.DebtStop, d, 1073741824) := rfl
  rw [e, List.getElem?_set_ne (Ne.symm h)]
set_option maxHeartbeats 6400000 in
set_option maxRecDepth 100000 in
theorem CheckR_c (c : Cfg) (hc : CfgOk c) (w : World) : Calls Try.prog 13 #[cfgV c] w (ChkE w (firstBad 0 (spansR c))) := by
  have HM := Lib.hid (fun W => memR_c c hc W)
  generalize hR : firstBad 0 (spansR c) = R
  have HR := Lib.hid hR
  clear hR
  have c0 : (w.alloc (.cells (cfgC c) 23)).cell? ⟨w.heap.size, 0, none⟩ = some (.int .i64 c.Clients) := (blk_cell (cfgBlk c w) 0).trans rfl
  have c1 : (w.alloc (.cells (cfgC c) 23)).cell? ⟨w.heap.size, 1, none⟩ = some (.int .i64 c.Flushers) := (blk_cell (cfgBlk c w) 1).trans rfl
  have c2 : (w.alloc (.cells (cfgC c) 23)).cell? ⟨w.heap.size, 2, none⟩ = some (.int .i64 c.Compactors) := (blk_cell (cfgBlk c w) 2).trans rfl
  have c3 : (w.alloc (.cells (cfgC c) 23)).cell? ⟨w.heap.size, 3, none⟩ = some (.int .i64 c.MemBytes) := (blk_cell (cfgBlk c w) 3).trans rfl
  have c4 : (w.alloc (.cells (cfgC c) 23)).cell? ⟨w.heap.size, 4, none⟩ = some (.int .i64 c.MaxImm) := (blk_cell (cfgBlk c w) 4).trans rfl
  have c5 : (w.alloc (.cells (cfgC c) 23)).cell? ⟨w.heap.size, 5, none⟩ = some (.int .i64 c.L0Trigger) := (blk_cell (cfgBlk c w) 5).trans rfl
  have c6 : (w.alloc (.cells (cfgC c) 23)).cell? ⟨w.heap.size, 6, none⟩ = some (.int .i64 c.L0Slow) := (blk_cell (cfgBlk c w) 6).trans rfl
  have c7 : (w.alloc (.cells (cfgC c) 23)).cell? ⟨w.heap.size, 7, none⟩ = some (.int .i64 c.L0Stop) := (blk_cell (cfgBlk c w) 7).trans rfl
  have c8 : (w.alloc (.cells (cfgC c) 23)).cell? ⟨w.heap.size, 8, none⟩ = some (.int .i64 c.Levels) := (blk_cell (cfgBlk c w) 8).trans rfl
  have c9 : (w.alloc (.cells (cfgC c) 23)).cell? ⟨w.heap.size, 9, none⟩ = some (.int .i64 c.Base) := (blk_cell (cfgBlk c w) 9).trans rfl
  have c10 : (w.alloc (.cells (cfgC c) 23)).cell? ⟨w.heap.size, 10, none⟩ = some (.int .i64 c.Mult) := (blk_cell (cfgBlk c w) 10).trans rfl
  have c11 : (w.alloc (.cells (cfgC c) 23)).cell? ⟨w.heap.size, 11, none⟩ = some (.int .i64 c.FileBytes) := (blk_cell (cfgBlk c w) 11).trans rfl
  have c12 : (w.alloc (.cells (cfgC c) 23)).cell? ⟨w.heap.size, 12, none⟩ = some (.int .i64 c.Fan) := (blk_cell (cfgBlk c w) 12).trans rfl
  have c13 : (w.alloc (.cells (cfgC c) 23)).cell? ⟨w.heap.size, 13, none⟩ = some (.int .i64 c.BlockBytes) := (blk_cell (cfgBlk c w) 13).trans rfl
  have c14 : (w.alloc (.cells (cfgC c) 23)).cell? ⟨w.heap.size, 14, none⟩ = some (.int .i64 c.Restart) := (blk_cell (cfgBlk c w) 14).trans rfl
  have c15 : (w.alloc (.cells (cfgC c) 23)).cell? ⟨w.heap.size, 15, none⟩ = some (.int .i64 c.BloomBits) := (blk_cell (cfgBlk c w) 15).trans rfl
  have c16 : (w.alloc (.cells (cfgC c) 23)).cell? ⟨w.heap.size, 16, none⟩ = some (.int .i64 c.MaxChunk) := (blk_cell (cfgBlk c w) 16).trans rfl
  have c17 : (w.alloc (.cells (cfgC c) 23)).cell? ⟨w.heap.size, 17, none⟩ = some (.int .i64 c.Rate) := (blk_cell (cfgBlk c w) 17).trans rfl
  have c18 : (w.alloc (.cells (cfgC c) 23)).cell? ⟨w.heap.size, 18, none⟩ = some (.int .i64 c.Burst) := (blk_cell (cfgBlk c w) 18).trans rfl
  have c19 : (w.alloc (.cells (cfgC c) 23)).cell? ⟨w.heap.size, 19, none⟩ = some (.int .i64 c.SlowRate) := (blk_cell (cfgBlk c w) 19).trans rfl
  have c20 : (w.alloc (.cells (cfgC c) 23)).cell? ⟨w.heap.size, 20, none⟩ = some (.int .i64 c.SlowBurst) := (blk_cell (cfgBlk c w) 20).trans rfl
  have c21 : (w.alloc (.cells (cfgC c) 23)).cell? ⟨w.heap.size, 21, none⟩ = some (.int .i64 c.MaxGroup) := (blk_cell (cfgBlk c w) 21).trans rfl
  have c22 : (w.alloc (.cells (cfgC c) 23)).cell? ⟨w.heap.size, 22, none⟩ = some (.int .i64 c.MaxDebt) := (blk_cell (cfgBlk c w) 22).trans rfl
  have c23 : (w.alloc (.cells (cfgC c) 23)).cell? ⟨w.heap.size, 23, none⟩ = some (.int .i64 c.DebtStop) := (blk_cell (cfgBlk c w) 23).trans rfl
  have c24 : (w.alloc (.cells (cfgC c) 23)).cell? ⟨w.heap.size, 24, none⟩ = some (.int .i64 c.Snapshots) := (blk_cell (cfgBlk c w) 24).trans rfl
  have c25 : (w.alloc (.cells (cfgC c) 23)).cell? ⟨w.heap.size, 25, none⟩ = some (.int .i64 c.ScanLimit) := (blk_cell (cfgBlk c w) 25).trans rfl
  have c26 : (w.alloc (.cells (cfgC c) 23)).cell? ⟨w.heap.size, 26, none⟩ = some (.int .i64 c.MaxManifest) := (blk_cell (cfgBlk c w) 26).trans rfl
  have HBX := Lib.hid (cfgBlk c w)
  have HBA := Lib.hid ((Below.refl w.heap.size w).alloc (Nat.le_refl _) (.cells (cfgC c) 23))
  have HSZ := Lib.hid (World.size_alloc w (.cells (cfgC c) 23))
  clear hc
  unfold cfgV at *
  go_enter Try.func13, Try.ntmps13
  dsimp only [List.append]
  go_wp2_with (refine stopAt 6 rfl ?_)
  generalize w.alloc (.cells (cfgC c) 23) = wa at *
  refine ⟨wpList_calmN 91 ?_⟩
  simp only [List.take_succ_cons, List.take_zero, List.drop_succ_cons, List.drop_zero]
  refine chain0 ?_
  refine @chain _ _ _ _ _ _ _ _ 6 (.pointer (some ⟨w.heap.size, 0, none⟩)) (by rfl) (by rfl) (by exact fun W hW => run_fa (by rfl) (by exact eval_base (by kernel_rfl) (by rfl)) (fun W => by kernel_rfl) hW) ?_
  refine @chain _ _ _ _ _ _ _ _ 7 (.int .i64 c.Clients) (by rfl) (by rfl) (by exact fun W hW => run_ld (by rfl) (by exact eval_look (by kernel_rfl) (by kernel_rfl)) c0 (fun W h => ldInt _ _ _ W h) hW) ?_
  refine @chain _ _ _ _ _ _ _ _ 8 (.agg #[.int .i64 c.Clients, .int .i64 1, .int .i64 8]) (by rfl) (by rfl) (by exact fun W hW => run_bd (u := .int .i64 c.Clients) (v := .int .i64 1) (p := .int .i64 8) (by rfl) (by exact eval_look (by kernel_rfl) (by kernel_rfl)) (by rfl) (by rfl) (fun W => by kernel_rfl) hW) ?_
  refine @chain _ _ _ _ _ _ _ _ 9 (.pointer (some ⟨w.heap.size, 1, none⟩)) (by rfl) (by rfl) (by exact fun W hW => run_fa (by rfl) (by exact eval_base (by kernel_rfl) (by rfl)) (fun W => by kernel_rfl) hW) ?_
  refine @chain _ _ _ _ _ _ _ _ 10 (.int .i64 c.Flushers) (by rfl) (by rfl) (by exact fun W hW => run_ld (by rfl) (by exact eval_look (by kernel_rfl) (by kernel_rfl)) c1 (fun W h => ldInt _ _ _ W h) hW) ?_
  refine @chain _ _ _ _ _ _ _ _ 11 (.agg #[.int .i64 c.Flushers, .int .i64 1, .int .i64 2]) (by rfl) (by rfl) (by exact fun W hW => run_bd (u := .int .i64 c.Flushers) (v := .int .i64 1) (p := .int .i64 2) (by rfl) (by exact eval_look (by kernel_rfl) (by kernel_rfl)) (by rfl) (by rfl) (fun W => by kernel_rfl) hW) ?_
  refine @chain _ _ _ _ _ _ _ _ 12 (.pointer (some ⟨w.heap.size, 2, none⟩)) (by rfl) (by rfl) (by exact fun W hW => run_fa (by rfl) (by exact eval_base (by kernel_rfl) (by rfl)) (fun W => by kernel_rfl) hW) ?_
  refine @chain _ _ _ _ _ _ _ _ 13 (.int .i64 c.Compactors) (by rfl) (by rfl) (by exact fun W hW => run_ld (by rfl) (by exact eval_look (by kernel_rfl) (by kernel_rfl)) c2 (fun W h => ldInt _ _ _ W h) hW) ?_
  refine @chain _ _ _ _ _ _ _ _ 14 (.agg #[.int .i64 c.Compactors, .int .i64 1, .int .i64 3]) (by rfl) (by rfl) (by exact fun W hW => run_bd (u := .int .i64 c.Compactors) (v := .int .i64 1) (p := .int .i64 3) (by rfl) (by exact eval_look (by kernel_rfl) (by kernel_rfl)) (by rfl) (by rfl) (fun W => by kernel_rfl) hW) ?_
  refine @chain _ _ _ _ _ _ _ _ 15 (.pointer (some ⟨w.heap.size, 3, none⟩)) (by rfl) (by rfl) (by exact fun W hW => run_fa (by rfl) (by exact eval_base (by kernel_rfl) (by rfl)) (fun W => by kernel_rfl) hW) ?_
  refine @chain _ _ _ _ _ _ _ _ 16 (.int .i64 c.MemBytes) (by rfl) (by rfl) (by exact fun W hW => run_ld (by rfl) (by exact eval_look (by kernel_rfl) (by kernel_rfl)) c3 (fun W h => ldInt _ _ _ W h) hW) ?_
  refine @chain _ _ _ _ _ _ _ _ 17 (.agg #[.int .i64 c.MemBytes, .int .i64 4096, .int .i64 1048576]) (by rfl) (by rfl) (by exact fun W hW => run_bd (u := .int .i64 c.MemBytes) (v := .int .i64 4096) (p := .int .i64 1048576) (by rfl) (by exact eval_look (by kernel_rfl) (by kernel_rfl)) (by rfl) (by rfl) (fun W => by kernel_rfl) hW) ?_
  refine @chain _ _ _ _ _ _ _ _ 18 (.pointer (some ⟨w.heap.size, 4, none⟩)) (by rfl) (by rfl) (by exact fun W hW => run_fa (by rfl) (by exact eval_base (by kernel_rfl) (by rfl)) (fun W => by kernel_rfl) hW) ?_
  refine @chain _ _ _ _ _ _ _ _ 19 (.int .i64 c.MaxImm) (by rfl) (by rfl) (by exact fun W hW => run_ld (by rfl) (by exact eval_look (by kernel_rfl) (by kernel_rfl)) c4 (fun W h => ldInt _ _ _ W h) hW) ?_
  refine @chain _ _ _ _ _ _ _ _ 20 (.agg #[.int .i64 c.MaxImm, .int .i64 1, .int .i64 4]) (by rfl) (by rfl) (by exact fun W hW => run_bd (u := .int .i64 c.MaxImm) (v := .int .i64 1) (p := .int .i64 4) (by rfl) (by exact eval_look (by kernel_rfl) (by kernel_rfl)) (by rfl) (by rfl) (fun W => by kernel_rfl) hW) ?_
  refine @chain _ _ _ _ _ _ _ _ 21 (.pointer (some ⟨w.heap.size, 5, none⟩)) (by rfl) (by rfl) (by exact fun W hW => run_fa (by rfl) (by exact eval_base (by kernel_rfl) (by rfl)) (fun W => by kernel_rfl) hW) ?_
  refine @chain _ _ _ _ _ _ _ _ 22 (.int .i64 c.L0Trigger) (by rfl) (by rfl) (by exact fun W hW => run_ld (by rfl) (by exact eval_look (by kernel_rfl) (by kernel_rfl)) c5 (fun W h => ldInt _ _ _ W h) hW) ?_
  refine @chain _ _ _ _ _ _ _ _ 23 (.agg #[.int .i64 c.L0Trigger, .int .i64 1, .int .i64 16]) (by rfl) (by rfl) (by exact fun W hW => run_bd (u := .int .i64 c.L0Trigger) (v := .int .i64 1) (p := .int .i64 16) (by rfl) (by exact eval_look (by kernel_rfl) (by kernel_rfl)) (by rfl) (by rfl) (fun W => by kernel_rfl) hW) ?_
  refine @chain _ _ _ _ _ _ _ _ 24 (.pointer (some ⟨w.heap.size, 6, none⟩)) (by rfl) (by rfl) (by exact fun W hW => run_fa (by rfl) (by exact eval_base (by kernel_rfl) (by rfl)) (fun W => by kernel_rfl) hW) ?_
  refine @chain _ _ _ _ _ _ _ _ 25 (.int .i64 c.L0Slow) (by rfl) (by rfl) (by exact fun W hW => run_ld (by rfl) (by exact eval_look (by kernel_rfl) (by kernel_rfl)) c6 (fun W h => ldInt _ _ _ W h) hW) ?_
  refine @chain _ _ _ _ _ _ _ _ 26 (.pointer (some ⟨w.heap.size, 5, none⟩)) (by rfl) (by rfl) (by exact fun W hW => run_fa (by rfl) (by exact eval_base (by kernel_rfl) (by rfl)) (fun W => by kernel_rfl) hW) ?_
  refine @chain _ _ _ _ _ _ _ _ 27 (.int .i64 c.L0Trigger) (by rfl) (by rfl) (by exact fun W hW => run_ld (by rfl) (by exact eval_look (by kernel_rfl) (by kernel_rfl)) c5 (fun W h => ldInt _ _ _ W h) hW) ?_
  refine @chain _ _ _ _ _ _ _ _ 28 (.agg #[.int .i64 c.L0Slow, .int .i64 c.L0Trigger, .int .i64 16]) (by rfl) (by rfl) (by exact fun W hW => run_bd (u := .int .i64 c.L0Slow) (v := .int .i64 c.L0Trigger) (p := .int .i64 16) (by rfl) (by exact eval_look (by kernel_rfl) (by kernel_rfl)) (by exact eval_look (by kernel_rfl) (by kernel_rfl)) (by rfl) (fun W => by kernel_rfl) hW) ?_
  refine @chain _ _ _ _ _ _ _ _ 29 (.pointer (some ⟨w.heap.size, 7, none⟩)) (by rfl) (by rfl) (by exact fun W hW => run_fa (by rfl) (by exact eval_base (by kernel_rfl) (by rfl)) (fun W => by kernel_rfl) hW) ?_
  refine @chain _ _ _ _ _ _ _ _ 30 (.int .i64 c.L0Stop) (by rfl) (by rfl) (by exact fun W hW => run_ld (by rfl) (by exact eval_look (by kernel_rfl) (by kernel_rfl)) c7 (fun W h => ldInt _ _ _ W h) hW) ?_
  refine @chain _ _ _ _ _ _ _ _ 31 (.pointer (some ⟨w.heap.size, 6, none⟩)) (by rfl) (by rfl) (by exact fun W hW => run_fa (by rfl) (by exact eval_base (by kernel_rfl) (by rfl)) (fun W => by kernel_rfl) hW) ?_
  refine @chain _ _ _ _ _ _ _ _ 32 (.int .i64 c.L0Slow) (by rfl) (by rfl) (by exact fun W hW => run_ld (by rfl) (by exact eval_look (by kernel_rfl) (by kernel_rfl)) c6 (fun W h => ldInt _ _ _ W h) hW) ?_
  refine @chain _ _ _ _ _ _ _ _ 33 (.pointer (some ⟨w.heap.size, 1, none⟩)) (by rfl) (by rfl) (by exact fun W hW => run_fa (by rfl) (by exact eval_base (by kernel_rfl) (by rfl)) (fun W => by kernel_rfl) hW) ?_
  refine @chain _ _ _ _ _ _ _ _ 34 (.int .i64 c.Flushers) (by rfl) (by rfl) (by exact fun W hW => run_ld (by rfl) (by exact eval_look (by kernel_rfl) (by kernel_rfl)) c1 (fun W h => ldInt _ _ _ W h) hW) ?_
  refine @chain _ _ _ _ _ _ _ _ 35 (.int .i64 (wrap64 (c.Flushers + 1))) (by rfl) (by rfl) (by exact fun W hW => run_bo (u := .int .i64 c.Flushers) (v := .int .i64 1) (by rfl) (by exact eval_look (by kernel_rfl) (by kernel_rfl)) (by rfl) (fun W => by go_simp; rw [IntKind.wrap_i64]; unfold wrap64; omega) hW) ?_
  refine @chain _ _ _ _ _ _ _ _ 36 (.int .i64 (mxi c.L0Slow (wrap64 (c.Flushers + 1)))) (by rfl) (by rfl) (by exact fun W hW => run_mx (u := .int .i64 c.L0Slow) (v := .int .i64 (wrap64 (c.Flushers + 1))) (by rfl) (by exact eval_look (by kernel_rfl) (by kernel_rfl)) (by exact eval_look (by kernel_rfl) (by kernel_rfl)) (fun W => maxInt _ _ _ _ W) hW) ?_
  refine @chain _ _ _ _ _ _ _ _ 37 (.agg #[.int .i64 c.L0Stop, .int .i64 (mxi c.L0Slow (wrap64 (c.Flushers + 1))), .int .i64 16]) (by rfl) (by rfl) (by exact fun W hW => run_bd (u := .int .i64 c.L0Stop) (v := .int .i64 (mxi c.L0Slow (wrap64 (c.Flushers + 1)))) (p := .int .i64 16) (by rfl) (by exact eval_look (by kernel_rfl) (by kernel_rfl)) (by exact eval_look (by kernel_rfl) (by kernel_rfl)) (by rfl) (fun W => by kernel_rfl) hW) ?_
  refine @chain _ _ _ _ _ _ _ _ 38 (.pointer (some ⟨w.heap.size, 8, none⟩)) (by rfl) (by rfl) (by exact fun W hW => run_fa (by rfl) (by exact eval_base (by kernel_rfl) (by rfl)) (fun W => by kernel_rfl) hW) ?_
  refine @chain _ _ _ _ _ _ _ _ 39 (.int .i64 c.Levels) (by rfl) (by rfl) (by exact fun W hW => run_ld (by rfl) (by exact eval_look (by kernel_rfl) (by kernel_rfl)) c8 (fun W h => ldInt _ _ _ W h) hW) ?_
  refine @chain _ _ _ _ _ _ _ _ 40 (.agg #[.int .i64 c.Levels, .int .i64 3, .int .i64 5]) (by rfl) (by rfl) (by exact fun W hW => run_bd (u := .int .i64 c.Levels) (v := .int .i64 3) (p := .int .i64 5) (by rfl) (by exact eval_look (by kernel_rfl) (by kernel_rfl)) (by rfl) (by rfl) (fun W => by kernel_rfl) hW) ?_
  refine @chain _ _ _ _ _ _ _ _ 41 (.pointer (some ⟨w.heap.size, 9, none⟩)) (by rfl) (by rfl) (by exact fun W hW => run_fa (by rfl) (by exact eval_base (by kernel_rfl) (by rfl)) (fun W => by kernel_rfl) hW) ?_
  refine @chain _ _ _ _ _ _ _ _ 42 (.int .i64 c.Base) (by rfl) (by rfl) (by exact fun W hW => run_ld (by rfl) (by exact eval_look (by kernel_rfl) (by kernel_rfl)) c9 (fun W h => ldInt _ _ _ W h) hW) ?_
  refine @chain _ _ _ _ _ _ _ _ 43 (.agg #[.int .i64 c.Base, .int .i64 4096, .int .i64 16777216]) (by rfl) (by rfl) (by exact fun W hW => run_bd (u := .int .i64 c.Base) (v := .int .i64 4096) (p := .int .i64 16777216) (by rfl) (by exact eval_look (by kernel_rfl) (by kernel_rfl)) (by rfl) (by rfl) (fun W => by kernel_rfl) hW) ?_
  refine @chain _ _ _ _ _ _ _ _ 44 (.pointer (some ⟨w.heap.size, 10, none⟩)) (by rfl) (by rfl) (by exact fun W hW => run_fa (by rfl) (by exact eval_base (by kernel_rfl) (by rfl)) (fun W => by kernel_rfl) hW) ?_
  refine @chain _ _ _ _ _ _ _ _ 45 (.int .i64 c.Mult) (by rfl) (by rfl) (by exact fun W hW => run_ld (by rfl) (by exact eval_look (by kernel_rfl) (by kernel_rfl)) c10 (fun W h => ldInt _ _ _ W h) hW) ?_
  refine @chain _ _ _ _ _ _ _ _ 46 (.agg #[.int .i64 c.Mult, .int .i64 2, .int .i64 10]) (by rfl) (by rfl) (by exact fun W hW => run_bd (u := .int .i64 c.Mult) (v := .int .i64 2) (p := .int .i64 10) (by rfl) (by exact eval_look (by kernel_rfl) (by kernel_rfl)) (by rfl) (by rfl) (fun W => by kernel_rfl) hW) ?_
  refine @chain _ _ _ _ _ _ _ _ 47 (.pointer (some ⟨w.heap.size, 11, none⟩)) (by rfl) (by rfl) (by exact fun W hW => run_fa (by rfl) (by exact eval_base (by kernel_rfl) (by rfl)) (fun W => by kernel_rfl) hW) ?_
  refine @chain _ _ _ _ _ _ _ _ 48 (.int .i64 c.FileBytes) (by rfl) (by rfl) (by exact fun W hW => run_ld (by rfl) (by exact eval_look (by kernel_rfl) (by kernel_rfl)) c11 (fun W h => ldInt _ _ _ W h) hW) ?_
  refine @chain _ _ _ _ _ _ _ _ 49 (.agg #[.int .i64 c.FileBytes, .int .i64 2048, .int .i64 1048576]) (by rfl) (by rfl) (by exact fun W hW => run_bd (u := .int .i64 c.FileBytes) (v := .int .i64 2048) (p := .int .i64 1048576) (by rfl) (by exact eval_look (by kernel_rfl) (by kernel_rfl)) (by rfl) (by rfl) (fun W => by kernel_rfl) hW) ?_
  refine @chain _ _ _ _ _ _ _ _ 50 (.pointer (some ⟨w.heap.size, 12, none⟩)) (by rfl) (by rfl) (by exact fun W hW => run_fa (by rfl) (by exact eval_base (by kernel_rfl) (by rfl)) (fun W => by kernel_rfl) hW) ?_
  refine @chain _ _ _ _ _ _ _ _ 51 (.int .i64 c.Fan) (by rfl) (by rfl) (by exact fun W hW => run_ld (by rfl) (by exact eval_look (by kernel_rfl) (by kernel_rfl)) c12 (fun W h => ldInt _ _ _ W h) hW) ?_
  refine @chain _ _ _ _ _ _ _ _ 52 (.agg #[.int .i64 c.Fan, .int .i64 1, .int .i64 16]) (by rfl) (by rfl) (by exact fun W hW => run_bd (u := .int .i64 c.Fan) (v := .int .i64 1) (p := .int .i64 16) (by rfl) (by exact eval_look (by kernel_rfl) (by kernel_rfl)) (by rfl) (by rfl) (fun W => by kernel_rfl) hW) ?_
  refine @chain _ _ _ _ _ _ _ _ 53 (.pointer (some ⟨w.heap.size, 13, none⟩)) (by rfl) (by rfl) (by exact fun W hW => run_fa (by rfl) (by exact eval_base (by kernel_rfl) (by rfl)) (fun W => by kernel_rfl) hW) ?_
  refine @chain _ _ _ _ _ _ _ _ 54 (.int .i64 c.BlockBytes) (by rfl) (by rfl) (by exact fun W hW => run_ld (by rfl) (by exact eval_look (by kernel_rfl) (by kernel_rfl)) c13 (fun W h => ldInt _ _ _ W h) hW) ?_
  refine @chain _ _ _ _ _ _ _ _ 55 (.agg #[.int .i64 c.BlockBytes, .int .i64 64, .int .i64 4096]) (by rfl) (by rfl) (by exact fun W hW => run_bd (u := .int .i64 c.BlockBytes) (v := .int .i64 64) (p := .int .i64 4096) (by rfl) (by exact eval_look (by kernel_rfl) (by kernel_rfl)) (by rfl) (by rfl) (fun W => by kernel_rfl) hW) ?_
  refine @chain _ _ _ _ _ _ _ _ 56 (.pointer (some ⟨w.heap.size, 14, none⟩)) (by rfl) (by rfl) (by exact fun W hW => run_fa (by rfl) (by exact eval_base (by kernel_rfl) (by rfl)) (fun W => by kernel_rfl) hW) ?_
  refine @chain _ _ _ _ _ _ _ _ 57 (.int .i64 c.Restart) (by rfl) (by rfl) (by exact fun W hW => run_ld (by rfl) (by exact eval_look (by kernel_rfl) (by kernel_rfl)) c14 (fun W h => ldInt _ _ _ W h) hW) ?_
  refine @chain _ _ _ _ _ _ _ _ 58 (.agg #[.int .i64 c.Restart, .int .i64 1, .int .i64 16]) (by rfl) (by rfl) (by exact fun W hW => run_bd (u := .int .i64 c.Restart) (v := .int .i64 1) (p := .int .i64 16) (by rfl) (by exact eval_look (by kernel_rfl) (by kernel_rfl)) (by rfl) (by rfl) (fun W => by kernel_rfl) hW) ?_
  refine @chain _ _ _ _ _ _ _ _ 59 (.pointer (some ⟨w.heap.size, 15, none⟩)) (by rfl) (by rfl) (by exact fun W hW => run_fa (by rfl) (by exact eval_base (by kernel_rfl) (by rfl)) (fun W => by kernel_rfl) hW) ?_
  refine @chain _ _ _ _ _ _ _ _ 60 (.int .i64 c.BloomBits) (by rfl) (by rfl) (by exact fun W hW => run_ld (by rfl) (by exact eval_look (by kernel_rfl) (by kernel_rfl)) c15 (fun W h => ldInt _ _ _ W h) hW) ?_
  refine @chain _ _ _ _ _ _ _ _ 61 (.agg #[.int .i64 c.BloomBits, .int .i64 0, .int .i64 16]) (by rfl) (by rfl) (by exact fun W hW => run_bd (u := .int .i64 c.BloomBits) (v := .int .i64 0) (p := .int .i64 16) (by rfl) (by exact eval_look (by kernel_rfl) (by kernel_rfl)) (by rfl) (by rfl) (fun W => by kernel_rfl) hW) ?_
  refine @chain _ _ _ _ _ _ _ _ 62 (.pointer (some ⟨w.heap.size, 16, none⟩)) (by rfl) (by rfl) (by exact fun W hW => run_fa (by rfl) (by exact eval_base (by kernel_rfl) (by rfl)) (fun W => by kernel_rfl) hW) ?_
  refine @chain _ _ _ _ _ _ _ _ 63 (.int .i64 c.MaxChunk) (by rfl) (by rfl) (by exact fun W hW => run_ld (by rfl) (by exact eval_look (by kernel_rfl) (by kernel_rfl)) c16 (fun W h => ldInt _ _ _ W h) hW) ?_
  refine @chain _ _ _ _ _ _ _ _ 64 (.agg #[.int .i64 c.MaxChunk, .int .i64 1088, .int .i64 65536]) (by rfl) (by rfl) (by exact fun W hW => run_bd (u := .int .i64 c.MaxChunk) (v := .int .i64 1088) (p := .int .i64 65536) (by rfl) (by exact eval_look (by kernel_rfl) (by kernel_rfl)) (by rfl) (by rfl) (fun W => by kernel_rfl) hW) ?_
  refine @chain _ _ _ _ _ _ _ _ 65 (.pointer (some ⟨w.heap.size, 17, none⟩)) (by rfl) (by rfl) (by exact fun W hW => run_fa (by rfl) (by exact eval_base (by kernel_rfl) (by rfl)) (fun W => by kernel_rfl) hW) ?_
  refine @chain _ _ _ _ _ _ _ _ 66 (.int .i64 c.Rate) (by rfl) (by rfl) (by exact fun W hW => run_ld (by rfl) (by exact eval_look (by kernel_rfl) (by kernel_rfl)) c17 (fun W h => ldInt _ _ _ W h) hW) ?_
  refine @chain _ _ _ _ _ _ _ _ 67 (.agg #[.int .i64 c.Rate, .int .i64 1, .int .i64 1073741824]) (by rfl) (by rfl) (by exact fun W hW => run_bd (u := .int .i64 c.Rate) (v := .int .i64 1) (p := .int .i64 1073741824) (by rfl) (by exact eval_look (by kernel_rfl) (by kernel_rfl)) (by rfl) (by rfl) (fun W => by kernel_rfl) hW) ?_
  refine @chain _ _ _ _ _ _ _ _ 68 (.pointer (some ⟨w.heap.size, 18, none⟩)) (by rfl) (by rfl) (by exact fun W hW => run_fa (by rfl) (by exact eval_base (by kernel_rfl) (by rfl)) (fun W => by kernel_rfl) hW) ?_
  refine @chain _ _ _ _ _ _ _ _ 69 (.int .i64 c.Burst) (by rfl) (by rfl) (by exact fun W hW => run_ld (by rfl) (by exact eval_look (by kernel_rfl) (by kernel_rfl)) c18 (fun W h => ldInt _ _ _ W h) hW) ?_
  refine @chain _ _ _ _ _ _ _ _ 70 (.pointer (some ⟨w.heap.size, 16, none⟩)) (by rfl) (by rfl) (by exact fun W hW => run_fa (by rfl) (by exact eval_base (by kernel_rfl) (by rfl)) (fun W => by kernel_rfl) hW) ?_
  refine @chain _ _ _ _ _ _ _ _ 71 (.int .i64 c.MaxChunk) (by rfl) (by rfl) (by exact fun W hW => run_ld (by rfl) (by exact eval_look (by kernel_rfl) (by kernel_rfl)) c16 (fun W h => ldInt _ _ _ W h) hW) ?_
  refine @chain _ _ _ _ _ _ _ _ 72 (.agg #[.int .i64 c.Burst, .int .i64 c.MaxChunk, .int .i64 1073741824]) (by rfl) (by rfl) (by exact fun W hW => run_bd (u := .int .i64 c.Burst) (v := .int .i64 c.MaxChunk) (p := .int .i64 1073741824) (by rfl) (by exact eval_look (by kernel_rfl) (by kernel_rfl)) (by exact eval_look (by kernel_rfl) (by kernel_rfl)) (by rfl) (fun W => by kernel_rfl) hW) ?_
  refine @chain _ _ _ _ _ _ _ _ 73 (.pointer (some ⟨w.heap.size, 19, none⟩)) (by rfl) (by rfl) (by exact fun W hW => run_fa (by rfl) (by exact eval_base (by kernel_rfl) (by rfl)) (fun W => by kernel_rfl) hW) ?_
  refine @chain _ _ _ _ _ _ _ _ 74 (.int .i64 c.SlowRate) (by rfl) (by rfl) (by exact fun W hW => run_ld (by rfl) (by exact eval_look (by kernel_rfl) (by kernel_rfl)) c19 (fun W h => ldInt _ _ _ W h) hW) ?_
  refine @chain _ _ _ _ _ _ _ _ 75 (.agg #[.int .i64 c.SlowRate, .int .i64 1, .int .i64 1073741824]) (by rfl) (by rfl) (by exact fun W hW => run_bd (u := .int .i64 c.SlowRate) (v := .int .i64 1) (p := .int .i64 1073741824) (by rfl) (by exact eval_look (by kernel_rfl) (by kernel_rfl)) (by rfl) (by rfl) (fun W => by kernel_rfl) hW) ?_
  refine @chain _ _ _ _ _ _ _ _ 76 (.pointer (some ⟨w.heap.size, 20, none⟩)) (by rfl) (by rfl) (by exact fun W hW => run_fa (by rfl) (by exact eval_base (by kernel_rfl) (by rfl)) (fun W => by kernel_rfl) hW) ?_
  refine @chain _ _ _ _ _ _ _ _ 77 (.int .i64 c.SlowBurst) (by rfl) (by rfl) (by exact fun W hW => run_ld (by rfl) (by exact eval_look (by kernel_rfl) (by kernel_rfl)) c20 (fun W h => ldInt _ _ _ W h) hW) ?_
  refine @chain _ _ _ _ _ _ _ _ 78 (.agg #[.int .i64 c.SlowBurst, .int .i64 17408, .int .i64 1073741824]) (by rfl) (by rfl) (by exact fun W hW => run_bd (u := .int .i64 c.SlowBurst) (v := .int .i64 17408) (p := .int .i64 1073741824) (by rfl) (by exact eval_look (by kernel_rfl) (by kernel_rfl)) (by rfl) (by rfl) (fun W => by kernel_rfl) hW) ?_
  refine @chain _ _ _ _ _ _ _ _ 79 (.pointer (some ⟨w.heap.size, 21, none⟩)) (by rfl) (by rfl) (by exact fun W hW => run_fa (by rfl) (by exact eval_base (by kernel_rfl) (by rfl)) (fun W => by kernel_rfl) hW) ?_
  refine @chain _ _ _ _ _ _ _ _ 80 (.int .i64 c.MaxGroup) (by rfl) (by rfl) (by exact fun W hW => run_ld (by rfl) (by exact eval_look (by kernel_rfl) (by kernel_rfl)) c21 (fun W h => ldInt _ _ _ W h) hW) ?_
  refine @chain _ _ _ _ _ _ _ _ 81 (.agg #[.int .i64 c.MaxGroup, .int .i64 1088, .int .i64 1048576]) (by rfl) (by rfl) (by exact fun W hW => run_bd (u := .int .i64 c.MaxGroup) (v := .int .i64 1088) (p := .int .i64 1048576) (by rfl) (by exact eval_look (by kernel_rfl) (by kernel_rfl)) (by rfl) (by rfl) (fun W => by kernel_rfl) hW) ?_
  refine @chain _ _ _ _ _ _ _ _ 82 (.pointer (some ⟨w.heap.size, 22, none⟩)) (by rfl) (by rfl) (by exact fun W hW => run_fa (by rfl) (by exact eval_base (by kernel_rfl) (by rfl)) (fun W => by kernel_rfl) hW) ?_
  refine @chain _ _ _ _ _ _ _ _ 83 (.int .i64 c.MaxDebt) (by rfl) (by rfl) (by exact fun W hW => run_ld (by rfl) (by exact eval_look (by kernel_rfl) (by kernel_rfl)) c22 (fun W h => ldInt _ _ _ W h) hW) ?_
  refine @chain _ _ _ _ _ _ _ _ 84 (.agg #[.int .i64 c.MaxDebt, .int .i64 17408, .int .i64 16777216]) (by rfl) (by rfl) (by exact fun W hW => run_bd (u := .int .i64 c.MaxDebt) (v := .int .i64 17408) (p := .int .i64 16777216) (by rfl) (by exact eval_look (by kernel_rfl) (by kernel_rfl)) (by rfl) (by rfl) (fun W => by kernel_rfl) hW) ?_
  refine @chain _ _ _ _ _ _ _ _ 85 (.pointer (some ⟨w.heap.size, 23, none⟩)) (by rfl) (by rfl) (by exact fun W hW => run_fa (by rfl) (by exact eval_base (by kernel_rfl) (by rfl)) (fun W => by kernel_rfl) hW) ?_
  refine @chain _ _ _ _ _ _ _ _ 86 (.int .i64 c.DebtStop) (by rfl) (by rfl) (by exact fun W hW => run_ld (by rfl) (by exact eval_look (by kernel_rfl) (by kernel_rfl)) c23 (fun W h => ldInt _ _ _ W h) hW) ?_
  refine @chain _ _ _ _ _ _ _ _ 87 (.agg #[.int .i64 c.DebtStop, .int .i64 0, .int .i64 1073741824]) (by rfl) (by rfl) (by exact fun W hW => run_bd (u := .int .i64 c.DebtStop) (v := .int .i64 0) (p := .int .i64 1073741824) (by rfl) (by exact eval_look (by kernel_rfl) (by kernel_rfl)) (by rfl) (by rfl) (fun W => by kernel_rfl) hW) ?_
  refine @chain _ _ _ _ _ _ _ _ 88 (.pointer (some ⟨w.heap.size, 24, none⟩)) (by rfl) (by rfl) (by exact fun W hW => run_fa (by rfl) (by exact eval_base (by kernel_rfl) (by rfl)) (fun W => by kernel_rfl) hW) ?_
  refine @chain _ _ _ _ _ _ _ _ 89 (.int .i64 c.Snapshots) (by rfl) (by rfl) (by exact fun W hW => run_ld (by rfl) (by exact eval_look (by kernel_rfl) (by kernel_rfl)) c24 (fun W h => ldInt _ _ _ W h) hW) ?_
  refine @chain _ _ _ _ _ _ _ _ 90 (.agg #[.int .i64 c.Snapshots, .int .i64 0, .int .i64 8]) (by rfl) (by rfl) (by exact fun W hW => run_bd (u := .int .i64 c.Snapshots) (v := .int .i64 0) (p := .int .i64 8) (by rfl) (by exact eval_look (by kernel_rfl) (by kernel_rfl)) (by rfl) (by rfl) (fun W => by kernel_rfl) hW) ?_
  refine @chain _ _ _ _ _ _ _ _ 91 (.pointer (some ⟨w.heap.size, 25, none⟩)) (by rfl) (by rfl) (by exact fun W hW => run_fa (by rfl) (by exact eval_base (by kernel_rfl) (by rfl)) (fun W => by kernel_rfl) hW) ?_
  refine @chain _ _ _ _ _ _ _ _ 92 (.int .i64 c.ScanLimit) (by rfl) (by rfl) (by exact fun W hW => run_ld (by rfl) (by exact eval_look (by kernel_rfl) (by kernel_rfl)) c25 (fun W h => ldInt _ _ _ W h) hW) ?_
  refine @chain _ _ _ _ _ _ _ _ 93 (.agg #[.int .i64 c.ScanLimit, .int .i64 1, .int .i64 256]) (by rfl) (by rfl) (by exact fun W hW => run_bd (u := .int .i64 c.ScanLimit) (v := .int .i64 1) (p := .int .i64 256) (by rfl) (by exact eval_look (by kernel_rfl) (by kernel_rfl)) (by rfl) (by rfl) (fun W => by kernel_rfl) hW) ?_
  refine @chain _ _ _ _ _ _ _ _ 94 (.pointer (some ⟨w.heap.size, 26, none⟩)) (by rfl) (by rfl) (by exact fun W hW => run_fa (by rfl) (by exact eval_base (by kernel_rfl) (by rfl)) (fun W => by kernel_rfl) hW) ?_
  refine @chain _ _ _ _ _ _ _ _ 95 (.int .i64 c.MaxManifest) (by rfl) (by rfl) (by exact fun W hW => run_ld (by rfl) (by exact eval_look (by kernel_rfl) (by kernel_rfl)) c26 (fun W h => ldInt _ _ _ W h) hW) ?_
  refine @chain _ _ _ _ _ _ _ _ 96 (.agg #[.int .i64 c.MaxManifest, .int .i64 4096, .int .i64 1048576]) (by rfl) (by rfl) (by exact fun W hW => run_bd (u := .int .i64 c.MaxManifest) (v := .int .i64 4096) (p := .int .i64 1048576) (by rfl) (by exact eval_look (by kernel_rfl) (by kernel_rfl)) (by rfl) (by rfl) (fun W => by kernel_rfl) hW) ?_
  refine calm_nil (fun W hW => ?_)
  clear c0 c1 c2 c3 c4 c5 c6 c7 c8 c9 c10 c11 c12 c13 c14 c15 c16 c17 c18 c19 c20 c21 c22 c23 c24 c25 c26
  refine Eq.mpr (congrArg (fun a => wpList _ _ _ _ a W) (show _ = (⟨#[.agg (cfgC c), .pointer (some ⟨w.heap.size, 0, none⟩), .int .i64 0, .int .i64 0, undef, undef, .pointer (some ⟨w.heap.size, 0, none⟩), .int .i64 c.Clients, .agg #[.int .i64 c.Clients, .int .i64 1, .int .i64 8], .pointer (some ⟨w.heap.size, 1, none⟩), .int .i64 c.Flushers, .agg #[.int .i64 c.Flushers, .int .i64 1, .int .i64 2], .pointer (some ⟨w.heap.size, 2, none⟩), .int .i64 c.Compactors, .agg #[.int .i64 c.Compactors, .int .i64 1, .int .i64 3], .pointer (some ⟨w.heap.size, 3, none⟩), .int .i64 c.MemBytes, .agg #[.int .i64 c.MemBytes, .int .i64 4096, .int .i64 1048576], .pointer (some ⟨w.heap.size, 4, none⟩), .int .i64 c.MaxImm, .agg #[.int .i64 c.MaxImm, .int .i64 1, .int .i64 4], .pointer (some ⟨w.heap.size, 5, none⟩), .int .i64 c.L0Trigger, .agg #[.int .i64 c.L0Trigger, .int .i64 1, .int .i64 16], .pointer (some ⟨w.heap.size, 6, none⟩), .int .i64 c.L0Slow, .pointer (some ⟨w.heap.size, 5, none⟩), .int .i64 c.L0Trigger, .agg #[.int .i64 c.L0Slow, .int .i64 c.L0Trigger, .int .i64 16], .pointer (some ⟨w.heap.size, 7, none⟩), .int .i64 c.L0Stop, .pointer (some ⟨w.heap.size, 6, none⟩), .int .i64 c.L0Slow, .pointer (some ⟨w.heap.size, 1, none⟩), .int .i64 c.Flushers, .int .i64 (wrap64 (c.Flushers + 1)), .int .i64 (mxi c.L0Slow (wrap64 (c.Flushers + 1))), .agg #[.int .i64 c.L0Stop, .int .i64 (mxi c.L0Slow (wrap64 (c.Flushers + 1))), .int .i64 16], .pointer (some ⟨w.heap.size, 8, none⟩), .int .i64 c.Levels, .agg #[.int .i64 c.Levels, .int .i64 3, .int .i64 5], .pointer (some ⟨w.heap.size, 9, none⟩), .int .i64 c.Base, .agg #[.int .i64 c.Base, .int .i64 4096, .int .i64 16777216], .pointer (some ⟨w.heap.size, 10, none⟩), .int .i64 c.Mult, .agg #[.int .i64 c.Mult, .int .i64 2, .int .i64 10], .pointer (some ⟨w.heap.size, 11, none⟩), .int .i64 c.FileBytes, .agg #[.int .i64 c.FileBytes, .int .i64 2048, .int .i64 1048576], .pointer (some ⟨w.heap.size, 12, none⟩), .int .i64 c.Fan, .agg #[.int .i64 c.Fan, .int .i64 1, .int .i64 16], .pointer (some ⟨w.heap.size, 13, none⟩), .int .i64 c.BlockBytes, .agg #[.int .i64 c.BlockBytes, .int .i64 64, .int .i64 4096], .pointer (some ⟨w.heap.size, 14, none⟩), .int .i64 c.Restart, .agg #[.int .i64 c.Restart, .int .i64 1, .int .i64 16], .pointer (some ⟨w.heap.size, 15, none⟩), .int .i64 c.BloomBits, .agg #[.int .i64 c.BloomBits, .int .i64 0, .int .i64 16], .pointer (some ⟨w.heap.size, 16, none⟩), .int .i64 c.MaxChunk, .agg #[.int .i64 c.MaxChunk, .int .i64 1088, .int .i64 65536], .pointer (some ⟨w.heap.size, 17, none⟩), .int .i64 c.Rate, .agg #[.int .i64 c.Rate, .int .i64 1, .int .i64 1073741824], .pointer (some ⟨w.heap.size, 18, none⟩), .int .i64 c.Burst, .pointer (some ⟨w.heap.size, 16, none⟩), .int .i64 c.MaxChunk, .agg #[.int .i64 c.Burst, .int .i64 c.MaxChunk, .int .i64 1073741824], .pointer (some ⟨w.heap.size, 19, none⟩), .int .i64 c.SlowRate, .agg #[.int .i64 c.SlowRate, .int .i64 1, .int .i64 1073741824], .pointer (some ⟨w.heap.size, 20, none⟩), .int .i64 c.SlowBurst, .agg #[.int .i64 c.SlowBurst, .int .i64 17408, .int .i64 1073741824], .pointer (some ⟨w.heap.size, 21, none⟩), .int .i64 c.MaxGroup, .agg #[.int .i64 c.MaxGroup, .int .i64 1088, .int .i64 1048576], .pointer (some ⟨w.heap.size, 22, none⟩), .int .i64 c.MaxDebt, .agg #[.int .i64 c.MaxDebt, .int .i64 17408, .int .i64 16777216], .pointer (some ⟨w.heap.size, 23, none⟩), .int .i64 c.DebtStop, .agg #[.int .i64 c.DebtStop, .int .i64 0, .int .i64 1073741824], .pointer (some ⟨w.heap.size, 24, none⟩), .int .i64 c.Snapshots, .agg #[.int .i64 c.Snapshots, .int .i64 0, .int .i64 8], .pointer (some ⟨w.heap.size, 25, none⟩), .int .i64 c.ScanLimit, .agg #[.int .i64 c.ScanLimit, .int .i64 1, .int .i64 256], .pointer (some ⟨w.heap.size, 26, none⟩), .int .i64 c.MaxManifest, .agg #[.int .i64 c.MaxManifest, .int .i64 4096, .int .i64 1048576], undef, undef, undef, undef, undef, undef, undef, undef, undef, undef, undef, undef, undef, undef, undef, undef, undef, undef, undef, undef, undef, undef, undef, undef, undef, undef, undef, undef, undef, undef, undef, undef, undef, undef, undef, undef, undef, undef, undef, undef, undef, undef, undef, undef, undef, undef, undef, undef], []⟩ : Act) by kernel_rfl)) ?_
  have HW := Lib.hid hW
  clear hW
  go_wp2
  go_loopw [5] (fun s5 wr => ∃ k : Nat, s5 = .int .i64 k ∧ k ≤ 27 ∧ firstBad k ((spansR c).drop k) = R ∧ Below W.heap.size W wr ∧ wr.heap[W.heap.size]? = some (.cells ((spansM c (mxi c.L0Slow (wrap64 (c.Flushers + 1))) (if k ≤ 23 then 0 else debtRL c)).flatMap encSp).toArray 64 (0, 0))) (fun s5 _ => 27 - (intOf s5).toNat)
  case atStart =>
    refine ⟨0, rfl, by omega, HR.out, (Below.refl _ _).alloc (Nat.le_refl _) _, ?_⟩
    exact (heap_alloc_new W _).trans (by rfl)
  case round =>
    obtain ⟨k, rfl, hk, hF, hB, hX⟩ := hrel
    have HW' := HW.out
    have hz := HSZ.out
    have i1 : (0 : Int) ≤ (k : Int) := by omega
    by_cases hlt : k < 27
    · have i2 : (k : Int) < 27 := by omega
      by_cases h23 : k = 23
      · subst h23
        clear i1 i2
        have hEB : wr.heap[w.heap.size]? = some (.cells (cfgC c) 23 (0, 0)) := ((HW'.trans (hB.mono HW'.size)).block _ (by omega)).trans HBX.out
        have hE5 : wr.cell? ⟨w.heap.size, 5, none⟩ = some (.int .i64 c.L0Trigger) := (blk_cell hEB 5).trans rfl
        have hE4 : wr.cell? ⟨w.heap.size, 4, none⟩ = some (.int .i64 c.MaxImm) := (blk_cell hEB 4).trans rfl
        have hXX := Lib.hid hX
        have HF := Lib.hid hF
        have HB := Lib.hid hB
        clear hX hF hB HW' hz
        go_wp2_with fail
        refine wp_region_calmB 14 (by kernel_rfl) (by kernel_rfl) ?_
        simp only [List.take_succ_cons, List.take_zero, List.drop_succ_cons, List.drop_zero]
        refine chain0 ?_
        refine @chain _ _ _ _ _ _ _ _ 106 (.slice (some ⟨W.heap.size, 0, none⟩) 27 27) (by rfl) (by rfl) (by exact fun W2 hW => run_mv (by rfl) (by exact eval_base (by kernel_rfl) (by rfl)) hW) ?_
        refine @chain _ _ _ _ _ _ _ _ 107 (.int .i64 23) (by rfl) (by rfl) (by exact fun W2 hW => run_mv (by rfl) (by exact eval_base (by kernel_rfl) (by rfl)) hW) ?_
        refine @chain _ _ _ _ _ _ _ _ 108 (.pointer (some ⟨w.heap.size, 5, none⟩)) (by rfl) (by rfl) (by exact fun W2 hW => run_fa (by rfl) (by exact eval_base (by kernel_rfl) (by rfl)) (fun W => by kernel_rfl) hW) ?_
        refine @chain _ _ _ _ _ _ _ _ 109 (.int .i64 c.L0Trigger) (by rfl) (by rfl) (by exact fun W2 hW => run_ld (by rfl) (by exact eval_look (by kernel_rfl) (by kernel_rfl)) hE5 (fun W h => ldInt _ _ _ W h) hW) ?_
        refine @chain _ _ _ _ _ _ _ _ 110 (.pointer (some ⟨w.heap.size, 4, none⟩)) (by rfl) (by rfl) (by exact fun W2 hW => run_fa (by rfl) (by exact eval_base (by kernel_rfl) (by rfl)) (fun W => by kernel_rfl) hW) ?_
        refine @chain _ _ _ _ _ _ _ _ 111 (.int .i64 c.MaxImm) (by rfl) (by rfl) (by exact fun W2 hW => run_ld (by rfl) (by exact eval_look (by kernel_rfl) (by kernel_rfl)) hE4 (fun W h => ldInt _ _ _ W h) hW) ?_
        refine @chain _ _ _ _ _ _ _ _ 112 (.int .i64 (wrap64 (c.L0Trigger + c.MaxImm))) (by rfl) (by rfl) (by exact fun W2 hW => run_bo (u := .int .i64 c.L0Trigger) (v := .int .i64 c.MaxImm) (by rfl) (by exact eval_look (by kernel_rfl) (by kernel_rfl)) (by exact eval_look (by kernel_rfl) (by kernel_rfl)) (fun W => by go_simp; rw [IntKind.wrap_i64]; unfold wrap64; omega) hW) ?_
        refine @chain _ _ _ _ _ _ _ _ 113 (.int .i64 (wrap64 (wrap64 (c.L0Trigger + c.MaxImm) + 2))) (by rfl) (by rfl) (by exact fun W2 hW => run_bo (u := .int .i64 (wrap64 (c.L0Trigger + c.MaxImm))) (v := .int .i64 2) (by rfl) (by exact eval_look (by kernel_rfl) (by kernel_rfl)) (by rfl) (fun W => by go_simp; rw [IntKind.wrap_i64]; unfold wrap64; omega) hW) ?_
        refine @chain _ _ _ _ _ _ _ _ 114 (.agg (cfgC c)) (by rfl) (by rfl) (by exact fun W2 hW => run_row (by rfl) (by exact eval_base (by kernel_rfl) (by rfl)) hEB (fun W h => ldCfg c _ W h) hW) ?_
        refine @chain _ _ _ _ _ _ _ _ 115 (.int .i64 (memRL c)) (by rfl) (by rfl) (by exact fun W2 hW => run_call (vs := #[.agg (cfgC c)]) (by rfl) (by kernel_rfl) (enters_of Try.func50 (by kernel_rfl) (by rfl)) (calm_b hW (HM.out W2))) ?_
        refine @chain _ _ _ _ _ _ _ _ 116 (.int .i64 (wrap64 (wrap64 (wrap64 (c.L0Trigger + c.MaxImm) + 2) * memRL c))) (by rfl) (by rfl) (by exact fun W2 hW => run_bo (u := .int .i64 (wrap64 (wrap64 (c.L0Trigger + c.MaxImm) + 2))) (v := .int .i64 (memRL c)) (by rfl) (by exact eval_look (by kernel_rfl) (by kernel_rfl)) (by exact eval_look (by kernel_rfl) (by kernel_rfl)) (fun W => by go_simp; rw [IntKind.wrap_i64]; unfold wrap64; rfl) hW) ?_
        refine @chain _ _ _ _ _ _ _ _ 117 (.int .i64 (wrap64 (wrap64 (wrap64 (wrap64 (c.L0Trigger + c.MaxImm) + 2) * memRL c) + 1))) (by rfl) (by rfl) (by exact fun W2 hW => run_bo (u := .int .i64 (wrap64 (wrap64 (wrap64 (c.L0Trigger + c.MaxImm) + 2) * memRL c))) (v := .int .i64 1) (by rfl) (by exact eval_look (by kernel_rfl) (by kernel_rfl)) (by rfl) (fun W => by go_simp; rw [IntKind.wrap_i64]; unfold wrap64; omega) hW) ?_
        refine @chain _ _ _ _ _ _ _ _ 118 (.pointer (some ⟨W.heap.size, 69, none⟩)) (by rfl) (by rfl) (by exact fun W2 hW => run_ia (u := .slice (some ⟨W.heap.size, 0, none⟩) 27 27) (v := .int .i64 23) (by rfl) (by exact eval_look (by kernel_rfl) (by kernel_rfl)) (by exact eval_look (by kernel_rfl) (by kernel_rfl)) (fun W => by go_simp) hW) ?_
        refine @chain _ _ _ _ _ _ _ _ 119 (.pointer (some ⟨W.heap.size, 70, none⟩)) (by rfl) (by rfl) (by exact fun W2 hW => run_fa (p := .pointer (some ⟨W.heap.size, 69, none⟩)) (by rfl) (by exact eval_look (by kernel_rfl) (by kernel_rfl)) (fun W => by go_simp) hW) ?_
        refine calm_nil (fun W2 hW2 => ?_)
        clear hE5 hE4 hEB
        refine Eq.mpr (congrArg (fun a => wpList _ _ _ _ a W2) (show _ = (⟨#[.agg (cfgC c), .pointer (some ⟨w.heap.size, 0, none⟩), u2, u3, .slice (some ⟨W.heap.size, 0, none⟩) 27 27, .int .i64 23, .pointer (some ⟨w.heap.size, 0, none⟩), .int .i64 c.Clients, .agg #[.int .i64 c.Clients, .int .i64 1, .int .i64 8], .pointer (some ⟨w.heap.size, 1, none⟩), .int .i64 c.Flushers, .agg #[.int .i64 c.Flushers, .int .i64 1, .int .i64 2], .pointer (some ⟨w.heap.size, 2, none⟩), .int .i64 c.Compactors, .agg #[.int .i64 c.Compactors, .int .i64 1, .int .i64 3], .pointer (some ⟨w.heap.size, 3, none⟩), .int .i64 c.MemBytes, .agg #[.int .i64 c.MemBytes, .int .i64 4096, .int .i64 1048576], .pointer (some ⟨w.heap.size, 4, none⟩), .int .i64 c.MaxImm, .agg #[.int .i64 c.MaxImm, .int .i64 1, .int .i64 4], .pointer (some ⟨w.heap.size, 5, none⟩), .int .i64 c.L0Trigger, .agg #[.int .i64 c.L0Trigger, .int .i64 1, .int .i64 16], .pointer (some ⟨w.heap.size, 6, none⟩), .int .i64 c.L0Slow, .pointer (some ⟨w.heap.size, 5, none⟩), .int .i64 c.L0Trigger, .agg #[.int .i64 c.L0Slow, .int .i64 c.L0Trigger, .int .i64 16], .pointer (some ⟨w.heap.size, 7, none⟩), .int .i64 c.L0Stop, .pointer (some ⟨w.heap.size, 6, none⟩), .int .i64 c.L0Slow, .pointer (some ⟨w.heap.size, 1, none⟩), .int .i64 c.Flushers, .int .i64 (wrap64 (c.Flushers + 1)), .int .i64 (mxi c.L0Slow (wrap64 (c.Flushers + 1))), .agg #[.int .i64 c.L0Stop, .int .i64 (mxi c.L0Slow (wrap64 (c.Flushers + 1))), .int .i64 16], .pointer (some ⟨w.heap.size, 8, none⟩), .int .i64 c.Levels, .agg #[.int .i64 c.Levels, .int .i64 3, .int .i64 5], .pointer (some ⟨w.heap.size, 9, none⟩), .int .i64 c.Base, .agg #[.int .i64 c.Base, .int .i64 4096, .int .i64 16777216], .pointer (some ⟨w.heap.size, 10, none⟩), .int .i64 c.Mult, .agg #[.int .i64 c.Mult, .int .i64 2, .int .i64 10], .pointer (some ⟨w.heap.size, 11, none⟩), .int .i64 c.FileBytes, .agg #[.int .i64 c.FileBytes, .int .i64 2048, .int .i64 1048576], .pointer (some ⟨w.heap.size, 12, none⟩), .int .i64 c.Fan, .agg #[.int .i64 c.Fan, .int .i64 1, .int .i64 16], .pointer (some ⟨w.heap.size, 13, none⟩), .int .i64 c.BlockBytes, .agg #[.int .i64 c.BlockBytes, .int .i64 64, .int .i64 4096], .pointer (some ⟨w.heap.size, 14, none⟩), .int .i64 c.Restart, .agg #[.int .i64 c.Restart, .int .i64 1, .int .i64 16], .pointer (some ⟨w.heap.size, 15, none⟩), .int .i64 c.BloomBits, .agg #[.int .i64 c.BloomBits, .int .i64 0, .int .i64 16], .pointer (some ⟨w.heap.size, 16, none⟩), .int .i64 c.MaxChunk, .agg #[.int .i64 c.MaxChunk, .int .i64 1088, .int .i64 65536], .pointer (some ⟨w.heap.size, 17, none⟩), .int .i64 c.Rate, .agg #[.int .i64 c.Rate, .int .i64 1, .int .i64 1073741824], .pointer (some ⟨w.heap.size, 18, none⟩), .int .i64 c.Burst, .pointer (some ⟨w.heap.size, 16, none⟩), .int .i64 c.MaxChunk, .agg #[.int .i64 c.Burst, .int .i64 c.MaxChunk, .int .i64 1073741824], .pointer (some ⟨w.heap.size, 19, none⟩), .int .i64 c.SlowRate, .agg #[.int .i64 c.SlowRate, .int .i64 1, .int .i64 1073741824], .pointer (some ⟨w.heap.size, 20, none⟩), .int .i64 c.SlowBurst, .agg #[.int .i64 c.SlowBurst, .int .i64 17408, .int .i64 1073741824], .pointer (some ⟨w.heap.size, 21, none⟩), .int .i64 c.MaxGroup, .agg #[.int .i64 c.MaxGroup, .int .i64 1088, .int .i64 1048576], .pointer (some ⟨w.heap.size, 22, none⟩), .int .i64 c.MaxDebt, .agg #[.int .i64 c.MaxDebt, .int .i64 17408, .int .i64 16777216], .pointer (some ⟨w.heap.size, 23, none⟩), .int .i64 c.DebtStop, .agg #[.int .i64 c.DebtStop, .int .i64 0, .int .i64 1073741824], .pointer (some ⟨w.heap.size, 24, none⟩), .int .i64 c.Snapshots, .agg #[.int .i64 c.Snapshots, .int .i64 0, .int .i64 8], .pointer (some ⟨w.heap.size, 25, none⟩), .int .i64 c.ScanLimit, .agg #[.int .i64 c.ScanLimit, .int .i64 1, .int .i64 256], .pointer (some ⟨w.heap.size, 26, none⟩), .int .i64 c.MaxManifest, .agg #[.int .i64 c.MaxManifest, .int .i64 4096, .int .i64 1048576], .slice (some ⟨W.heap.size, 0, none⟩) 27 27, .int .i64 23, .slice (some ⟨W.heap.size, 0, none⟩) 27 27, .int .i64 27, .bool true, u102, u103, .int .i64 23, .bool true, .slice (some ⟨W.heap.size, 0, none⟩) 27 27, .int .i64 23, .pointer (some ⟨w.heap.size, 5, none⟩), .int .i64 c.L0Trigger, .pointer (some ⟨w.heap.size, 4, none⟩), .int .i64 c.MaxImm, .int .i64 (wrap64 (c.L0Trigger + c.MaxImm)), .int .i64 (wrap64 (wrap64 (c.L0Trigger + c.MaxImm) + 2)), .agg (cfgC c), .int .i64 (memRL c), .int .i64 (wrap64 (wrap64 (wrap64 (c.L0Trigger + c.MaxImm) + 2) * memRL c)), .int .i64 (wrap64 (wrap64 (wrap64 (wrap64 (c.L0Trigger + c.MaxImm) + 2) * memRL c) + 1)), .pointer (some ⟨W.heap.size, 69, none⟩), .pointer (some ⟨W.heap.size, 70, none⟩), u120, u121, u122, u123, u124, u125, u126, u127, u128, u129, u130, u131, u132, u133, u134, u135, u136, u137, u138, u139, u140, u141, u142, u143, u144], []⟩ : Act) by kernel_rfl)) ?_
        have hF := HF.out
        clear HF
        have hX2 := (hW2.block _ (blk_lt hXX.out)).trans hXX.out
        have hB2 : Below W.heap.size W W2 := HB.out.trans (hW2.mono HB.out.size)
        have f1 := blk_frozen hX2 (70)
        have c1 : W2.cell? ⟨W.heap.size, 70, none⟩ = some (.int .i64 0) := by exact (blk_cell hX2 _).trans (by kernel_rfl)
        have hX3 := Lib.hid (show (W2.setCell ⟨W.heap.size, 70, none⟩ (.int .i64 (wrap64 (wrap64 (wrap64 (wrap64 (c.L0Trigger + c.MaxImm) + 2) * memRL c) + 1)))).heap[W.heap.size]? = some (.cells ((spansR c).flatMap encSp).toArray 64 (0, 0)) by exact (blk_set hX2 _ _).trans (by kernel_rfl))
        clear hX2
        have HB2 := Lib.hid (hB2.setCell (p := ⟨W.heap.size, 70, none⟩) (Nat.le_refl _) (.int .i64 (wrap64 (wrap64 (wrap64 (wrap64 (c.L0Trigger + c.MaxImm) + 2) * memRL c) + 1))))
        clear hB2
        have hln : (spansR c).length = 27 := rfl
        obtain ⟨⟨x, lo, hi⟩, hx⟩ := getElem?_of_lt (l := spansR c) (by rw [hln]; exact hlt : 23 < (spansR c).length)
        obtain ⟨b0, b1, b2⟩ := spCell (k := 23) hX3.out (by show 27 ≤ 9223372036854775807; omega) (rfl.trans hx)
        have a0 : (W2.setCell ⟨W.heap.size, 70, none⟩ (.int .i64 (wrap64 (wrap64 (wrap64 (wrap64 (c.L0Trigger + c.MaxImm) + 2) * memRL c) + 1)))).cell? ⟨W.heap.size, 69, none⟩ = some (.int .i64 x) := b0
        have a1 : (W2.setCell ⟨W.heap.size, 70, none⟩ (.int .i64 (wrap64 (wrap64 (wrap64 (wrap64 (c.L0Trigger + c.MaxImm) + 2) * memRL c) + 1)))).cell? ⟨W.heap.size, 70, none⟩ = some (.int .i64 lo) := b1
        have a2 : (W2.setCell ⟨W.heap.size, 70, none⟩ (.int .i64 (wrap64 (wrap64 (wrap64 (wrap64 (c.L0Trigger + c.MaxImm) + 2) * memRL c) + 1)))).cell? ⟨W.heap.size, 71, none⟩ = some (.int .i64 hi) := b2
        clear b0 b1 b2
        have ed : (spansR c).drop 23 = (x, lo, hi) :: (spansR c).drop 24 := (List.drop_eq_getElem_cons (by rw [hln]; exact hlt)).trans (by rw [(List.getElem?_eq_some_iff.1 hx).2])
        rw [ed] at hF
        simp only [firstBad] at hF
        clear ed hx hln
        by_cases h1 : x < lo
        · have eb : badSp (x, lo, hi) = true := by simp [badSp, h1]
          rw [eb, if_pos rfl] at hF
          have HF := Lib.hid hF
          clear hF eb
          have d1 : decide (x < lo) = true := by simpa using h1
          go_wp2_with fail
          go_quiet (fail)
          go_wp2
          go_ret2
          refine ⟨?_, ?_⟩
          · first | rw [HR.out, ← HF.out]; rfl | (rw [← HF.out]; rfl)
          · exact ((HBA.out.trans (HW.out.mono HBA.out.size)).trans (HB2.out.mono (by have := HBA.out.size; have := HW.out.size; omega))).trans ((Upd.drewN_below _ _).mono (by have := HBA.out.size; have := HW.out.size; have := HB2.out.size; omega))
        · by_cases h2 : x > hi
          · have eb : badSp (x, lo, hi) = true := by simp [badSp, h2]
            rw [eb, if_pos rfl] at hF
            have HF := Lib.hid hF
            clear hF eb
            have d1 : decide (x < lo) = false := by simpa using h1
            have d2 : decide (x > hi) = true := by simpa using h2
            go_wp2_with fail
            go_quiet (fail)
            go_wp2
            go_ret2
            refine ⟨?_, ?_⟩
            · first | rw [HR.out, ← HF.out]; rfl | (rw [← HF.out]; rfl)
            · exact ((HBA.out.trans (HW.out.mono HBA.out.size)).trans (HB2.out.mono (by have := HBA.out.size; have := HW.out.size; omega))).trans ((Upd.drewN_below _ _).mono (by have := HBA.out.size; have := HW.out.size; have := HB2.out.size; omega))
          · have eb : badSp (x, lo, hi) = false := by simp [badSp]; omega
            rw [eb, if_neg (by simp)] at hF
            have HF := Lib.hid hF
            clear hF eb
            have d1 : decide (x < lo) = false := by simpa using h1
            have d2 : decide (x > hi) = false := by simpa using h2
            go_wp2_with fail
            go_quiet (fail)
            go_wp2
            go_roundw
            case rel => exact ⟨24, by rfl, by omega, HF.out, HB2.out.trans (Upd.drewN_below _ _ |>.mono HB2.out.size), hX3.out⟩
            case measure => simp [intOf]
      · have i3 : decide ((k : Int) = 23) = false := by simp; omega
        have hE : (spansM c (mxi c.L0Slow (wrap64 (c.Flushers + 1))) (if k ≤ 23 then 0 else debtRL c))[k]? = (spansR c)[k]? := spansM_ne c _ _ _ h23
        have HB2 := Lib.hid hB
        have hXn := Lib.hid (show wr.heap[W.heap.size]? = some (.cells ((spansM c (mxi c.L0Slow (wrap64 (c.Flushers + 1))) (if k + 1 ≤ 23 then 0 else debtRL c)).flatMap encSp).toArray 64 (0, 0)) by rw [hX]; by_cases hk2 : k ≤ 23 <;> simp only [hk2, show (k + 1 ≤ 23) = (k ≤ 23) from propext ⟨fun h => by omega, fun h => by omega⟩])
        have hln : (spansR c).length = 27 := rfl
        obtain ⟨⟨x, lo, hi⟩, hx⟩ := getElem?_of_lt (l := spansR c) (by rw [hln]; exact hlt : k < (spansR c).length)
        obtain ⟨a0, a1, a2⟩ := spCell hX (by show 27 ≤ 9223372036854775807; omega) (hE.trans hx)
        have ed : (spansR c).drop k = (x, lo, hi) :: (spansR c).drop (k + 1) := (List.drop_eq_getElem_cons (by rw [hln]; exact hlt)).trans (by rw [(List.getElem?_eq_some_iff.1 hx).2])
        rw [ed] at hF
        simp only [firstBad] at hF
        clear ed hx hln hE hX hB HW' hz
        by_cases h1 : x < lo
        · have eb : badSp (x, lo, hi) = true := by simp [badSp, h1]
          rw [eb, if_pos rfl] at hF
          have HF := Lib.hid hF
          clear hF eb
          have d1 : decide (x < lo) = true := by simpa using h1
          go_wp2_with fail
          go_quiet (fail)
          go_wp2
          go_ret2
          refine ⟨?_, ?_⟩
          · first | rw [HR.out, ← HF.out]; rfl | (rw [← HF.out]; rfl)
          · exact ((HBA.out.trans (HW.out.mono HBA.out.size)).trans (HB2.out.mono (by have := HBA.out.size; have := HW.out.size; omega))).trans ((Upd.drewN_below _ _).mono (by have := HBA.out.size; have := HW.out.size; have := HB2.out.size; omega))
        · by_cases h2 : x > hi
          · have eb : badSp (x, lo, hi) = true := by simp [badSp, h2]
            rw [eb, if_pos rfl] at hF
            have HF := Lib.hid hF
            clear hF eb
            have d1 : decide (x < lo) = false := by simpa using h1
            have d2 : decide (x > hi) = true := by simpa using h2
            go_wp2_with fail
            go_quiet (fail)
            go_wp2
            go_ret2
            refine ⟨?_, ?_⟩
            · first | rw [HR.out, ← HF.out]; rfl | (rw [← HF.out]; rfl)
            · exact ((HBA.out.trans (HW.out.mono HBA.out.size)).trans (HB2.out.mono (by have := HBA.out.size; have := HW.out.size; omega))).trans ((Upd.drewN_below _ _).mono (by have := HBA.out.size; have := HW.out.size; have := HB2.out.size; omega))
          · have eb : badSp (x, lo, hi) = false := by simp [badSp]; omega
            rw [eb, if_neg (by simp)] at hF
            have HF := Lib.hid hF
            clear hF eb
            have d1 : decide (x < lo) = false := by simpa using h1
            have d2 : decide (x > hi) = false := by simpa using h2
            go_wp2_with fail
            go_quiet (fail)
            go_wp2
            go_roundw
            case rel => exact ⟨k + 1, by go_num, by omega, HF.out, HB2.out.trans (Upd.drewN_below _ _ |>.mono HB2.out.size), hXn.out⟩
            case measure => simp [intOf]; omega
    · have hk : k = 27 := by omega
      subst hk
      rw [List.drop_eq_nil_of_le (by show 27 ≤ 27; omega)] at hF
      have HF := Lib.hid hF
      have HB := Lib.hid hB
      clear hF hX hB HW' hz
      go_wp2
      go_ret2
      refine ⟨?_, ?_⟩
      · first | rw [HR.out, ← HF.out]; rfl | (rw [← HF.out]; rfl)
      · exact (HBA.out.trans (HW.out.mono HBA.out.size)).trans (HB.out.mono (by have := HBA.out.size; have := HW.out.size; omega))
end Go.Proofs.Ytjgpcbednhoplaa.H
