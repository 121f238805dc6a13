/- pace: a configuration, what its fields must be, Check. Conditions: its fields are ints. -/
import Derived.Test.YtjgpcbednhoplaaPMul
import Derived.Outline
import Derived.Test.YtjgpcbednhoplaaCalmB
import Derived.Test.YtjgpcbednhoplaaChain
import Derived.Laws.Rows
namespace Go.Proofs.Ytjgpcbednhoplaa.H
open Go.RowKit Go.Deep Go.Shelf Go.Proofs Go.Proofs.YtjgpcbednhoplaaW.PrintWords
set_option linter.unusedVariables false
set_option linter.unusedSimpArgs false
structure Cfg where
  (Clients Flushers Compactors MemBytes MaxImm L0Trigger L0Slow L0Stop Levels Base Mult FileBytes Fan BlockBytes Restart BloomBits MaxChunk Rate Burst SlowRate SlowBurst MaxGroup MaxDebt DebtStop Snapshots ScanLimit MaxManifest : Int)
def Cfg.l (c : Cfg) : List Int := [c.Clients, c.Flushers, c.Compactors, c.MemBytes, c.MaxImm, c.L0Trigger, c.L0Slow, c.L0Stop, c.Levels, c.Base, c.Mult, c.FileBytes, c.Fan, c.BlockBytes, c.Restart, c.BloomBits, c.MaxChunk, c.Rate, c.Burst, c.SlowRate, c.SlowBurst, c.MaxGroup, c.MaxDebt, c.DebtStop, c.Snapshots, c.ScanLimit, c.MaxManifest]
def cfgC (c : Cfg) : Array Value := #[.int .i64 c.Clients, .int .i64 c.Flushers, .int .i64 c.Compactors, .int .i64 c.MemBytes, .int .i64 c.MaxImm, .int .i64 c.L0Trigger, .int .i64 c.L0Slow, .int .i64 c.L0Stop, .int .i64 c.Levels, .int .i64 c.Base, .int .i64 c.Mult, .int .i64 c.FileBytes, .int .i64 c.Fan, .int .i64 c.BlockBytes, .int .i64 c.Restart, .int .i64 c.BloomBits, .int .i64 c.MaxChunk, .int .i64 c.Rate, .int .i64 c.Burst, .int .i64 c.SlowRate, .int .i64 c.SlowBurst, .int .i64 c.MaxGroup, .int .i64 c.MaxDebt, .int .i64 c.DebtStop, .int .i64 c.Snapshots, .int .i64 c.ScanLimit, .int .i64 c.MaxManifest]
def cfgV (c : Cfg) : Value := .agg (cfgC c)
def CfgOk (c : Cfg) : Prop := ∀ x ∈ c.l, I64 x
/-- max of two ints. -/
def mxi (a b : Int) : Int := if a < b then b else a
def memCapL (c : Cfg) : Int := sadd (sadd c.MemBytes (-1)) (mxi c.MaxGroup 17408)
def debtLeastL (c : Cfg) : Int := sadd (smul (sadd (sadd c.L0Trigger c.MaxImm) 2) (memCapL c)) 1
def spansM (c : Cfg) (m d : Int) : List (Int × Int × Int) := [(c.Clients, 1, 8), (c.Flushers, 1, 2), (c.Compactors, 1, 3), (c.MemBytes, 4096, 1048576), (c.MaxImm, 1, 4), (c.L0Trigger, 1, 16), (c.L0Slow, c.L0Trigger, 16), (c.L0Stop, m, 16), (c.Levels, 3, 5), (c.Base, 4096, 16777216), (c.Mult, 2, 10), (c.FileBytes, 2048, 1048576), (c.Fan, 1, 16), (c.BlockBytes, 64, 4096), (c.Restart, 1, 16), (c.BloomBits, 0, 16), (c.MaxChunk, 1088, 65536), (c.Rate, 1, 1073741824), (c.Burst, c.MaxChunk, 1073741824), (c.SlowRate, 1, 1073741824), (c.SlowBurst, 17408, 1073741824), (c.MaxGroup, 1088, 1048576), (c.MaxDebt, 17408, 16777216), (c.DebtStop, d, 1073741824), (c.Snapshots, 0, 8), (c.ScanLimit, 1, 256), (c.MaxManifest, 4096, 1048576)]
def spansL (c : Cfg) : List (Int × Int × Int) := spansM c (mxi c.L0Slow (sadd c.Flushers 1)) (debtLeastL c)
def encSp (s : Int × Int × Int) : List Value := [.int .i64 s.1, .int .i64 s.2.1, .int .i64 s.2.2]
theorem okSp : EncOk encSp 3 := fun x => ⟨rfl, by simp [encSp, Value.oneCell']⟩
theorem mxi_I64 {a b : Int} (ha : I64 a) (hb : I64 b) : I64 (mxi a b) := by unfold mxi; split <;> assumption
theorem I64.lit {n : Int} (h1 : -9223372036854775808 ≤ n) (h2 : n ≤ 9223372036854775807) : I64 n := ⟨h1, h2⟩
theorem cfgBlk (c : Cfg) (w : World) : (w.alloc (.cells (cfgC c) 23)).heap[w.heap.size]? = some (.cells (cfgC c) 23 (0, 0)) := heap_alloc_new w _
theorem iCfg (c : Cfg) : (Try.prog.info? 23).map (·.size) = some (cfgC c).size := by
  show _ = some 27
  kernel_rfl
theorem quiet_left {P : Program} {f : FuncId} {args : Array Value} {w : World} {n : Nat} {v : Value}
    (h : Calls P f args (w.drewN n) fun e w' => e = .returned v ∧ w.drewN n = w') : Calls P f args (w.drewN n) fun e w'' => e = .returned v ∧ ∃ m, w'' = w.drewN m :=
  h.mono fun _ _ ⟨he, hm⟩ => ⟨he, n, hm.symm⟩
theorem Upd.drewN_below (w : World) (n : Nat) : Below w.heap.size w (w.drewN n) := ⟨rfl, rfl, rfl, Nat.le_refl _, fun _ _ => rfl⟩
theorem int_c (a : Int) (w : World) : Calls Try.prog 63 #[.int .i64 a] w fun e w' => e = .returned (.int .i64 a) ∧ w = w' := by
  go_enter Try.func63, Try.ntmps63
  go_wp2
  go_ret
  exact ⟨rfl, rfl⟩
theorem memCap_c (c : Cfg) (hc : CfgOk c) (w : World) : Calls Try.prog 65 #[cfgV c] w fun e w' => e = .returned (.int .i64 (memCapL c)) ∧ Below w.heap.size w w' := by
  have k3 : I64 c.MemBytes := hc _ (by simp [Cfg.l])
  have k21 : I64 c.MaxGroup := hc _ (by simp [Cfg.l])
  have h3 : I64 (-1) := I64.lit (by omega) (by omega)
  have h4 : I64 17408 := I64.lit (by omega) (by omega)
  have h6 := sadd_I64 c.MemBytes (-1)
  have c3 : (w.alloc (.cells (cfgC c) 23)).cell? ⟨w.heap.size, 3, none⟩ = some (.int .i64 c.MemBytes) := (blk_cell (cfgBlk c w) 3).trans rfl
  have c21 : (w.alloc (.cells (cfgC c) 23)).cell? ⟨w.heap.size, 21, none⟩ = some (.int .i64 c.MaxGroup) := (blk_cell (cfgBlk c w) 21).trans rfl
  have HBX := Lib.hid (cfgBlk c w)
  have HBA := Lib.hid ((Below.refl w.heap.size w).alloc (Nat.le_refl _) (.cells (cfgC c) 23))
  have HSZ := Lib.hid (World.size_alloc w (.cells (cfgC c) 23))
  clear hc
  unfold cfgV
  by_cases hg : c.MaxGroup < 17408
  · have hE : memCapL c = sadd (sadd c.MemBytes (-1)) 17408 := by unfold memCapL mxi; rw [if_pos hg]
    have HE := Lib.hid hE
    clear hE
    go_enter Try.func65, Try.ntmps65
    go_wp2
    generalize w.alloc (.cells (cfgC c) 23) = wa at *
    go_quiet ((go_at_call 66; exact quiet_left (addP_c _ _ (by assumption) (by assumption) _)))
    go_wp2
    go_ret
    exact ⟨by rw [HE.out]; rfl, HBA.out.trans ((Upd.drewN_below _ _).mono HBA.out.size)⟩
  · have hE : memCapL c = sadd (sadd c.MemBytes (-1)) c.MaxGroup := by unfold memCapL mxi; rw [if_neg hg]
    have HE := Lib.hid hE
    have hg' : decide (c.MaxGroup < 17408) = false := by simpa using hg
    clear hE
    go_enter Try.func65, Try.ntmps65
    go_wp2
    generalize w.alloc (.cells (cfgC c) 23) = wa at *
    go_quiet ((go_at_call 66; exact quiet_left (addP_c _ _ (by assumption) (by assumption) _)))
    go_wp2
    go_ret
    exact ⟨by rw [HE.out]; rfl, HBA.out.trans ((Upd.drewN_below _ _).mono HBA.out.size)⟩
theorem debtLeast_c (c : Cfg) (hc : CfgOk c) (w : World) : Calls Try.prog 75 #[cfgV c] w fun e w' => e = .returned (.int .i64 (debtLeastL c)) ∧ Below w.heap.size w w' := by
  have k5 : I64 c.L0Trigger := hc _ (by simp [Cfg.l])
  have k4 : I64 c.MaxImm := hc _ (by simp [Cfg.l])
  have h3 : I64 2 := I64.lit (by omega) (by omega)
  have h4 : I64 1 := I64.lit (by omega) (by omega)
  have h5 := sadd_I64 c.L0Trigger c.MaxImm
  have h6 := sadd_I64 (sadd c.L0Trigger c.MaxImm) 2
  have h7 : I64 (memCapL c) := sadd_I64 _ _
  have h8 := smul_I64 (sadd (sadd c.L0Trigger c.MaxImm) 2) (memCapL c)
  have HM := Lib.hid (fun W => memCap_c c hc W)
  have c5 : (w.alloc (.cells (cfgC c) 23)).cell? ⟨w.heap.size, 5, none⟩ = some (.int .i64 c.L0Trigger) := (blk_cell (cfgBlk c w) 5).trans rfl
  have c4 : (w.alloc (.cells (cfgC c) 23)).cell? ⟨w.heap.size, 4, none⟩ = some (.int .i64 c.MaxImm) := (blk_cell (cfgBlk c w) 4).trans rfl
  have HBX := Lib.hid (cfgBlk c w)
  have HBA := Lib.hid ((Below.refl w.heap.size w).alloc (Nat.le_refl _) (.cells (cfgC c) 23))
  have HSZ := Lib.hid (World.size_alloc w (.cells (cfgC c) 23))
  clear hc
  have HE := Lib.hid (show debtLeastL c = sadd (smul (sadd (sadd c.L0Trigger c.MaxImm) 2) (memCapL c)) 1 from rfl)
  unfold cfgV at *
  go_enter Try.func75, Try.ntmps75
  go_wp2_with fail
  generalize w.alloc (.cells (cfgC c) 23) = wa at *
  refine (addP_c _ _ k5 k4 _).mono ?_
  rintro e w' ⟨rfl, rfl⟩
  go_wp2_with fail
  refine (addP_c _ _ h5 h3 _).mono ?_
  rintro e w' ⟨rfl, rfl⟩
  go_wp2_with (refine wpList_load_row rfl 23 (.tmp 1) rfl _ rfl _ _ _ _ HBX.out Try.underlying23 rfl (iCfg c) ?_)
  refine (HM.out _).mono ?_
  rintro e w1 ⟨rfl, hb1⟩
  have HB := Lib.hid (HBA.out.trans (hb1.mono HBA.out.size))
  clear hb1
  go_wp2_with fail
  refine (mulP_c _ _ h6 h7 _).mono ?_
  rintro e w' ⟨rfl, rfl⟩
  go_wp2_with fail
  refine (addP_c _ _ h8 h4 _).mono ?_
  rintro e w' ⟨rfl, rfl⟩
  go_wp2_with fail
  refine (int_c _ _).mono ?_
  rintro e w' ⟨rfl, rfl⟩
  go_wp2
  go_ret
  exact ⟨by rw [HE.out]; rfl, HB.out⟩
/-- A slice of spans in memory of its own. -/
def SpansAt (w : World) (l : List (Int × Int × Int)) (v : Value) (w' : World) : Prop := ∃ b, v = .slice (some ⟨b, 0, none⟩) 27 27 ∧ w.heap.size ≤ b ∧ Sl encSp 3 w' (some ⟨b, 0, none⟩) l ∧ Below w.heap.size w w'
def Spans (w : World) (l : List (Int × Int × Int)) (e : Ending) (w' : World) : Prop := ∃ v, e = .returned v ∧ SpansAt w l v w'
theorem ldInt (b j : Nat) (n : Int) (W : World) (h : W.cell? ⟨b, j, none⟩ = some (.int .i64 n)) : (Instr.loadAt 3 (.pointer (some ⟨b, j, none⟩))).run Try.prog W = .ok (.int .i64 n) W := by
  go_simp
theorem ldCfg (c : Cfg) (b : Nat) (W : World) (h : W.heap[b]? = some (.cells (cfgC c) 23 (0, 0))) : (Instr.loadAt 23 (.pointer (some ⟨b, 0, none⟩))).run Try.prog W = .ok (.agg (cfgC c)) W := by
  have := run_loadVar_row (P := Try.prog) W b 23 23 (cfgC c) (0, 0) _ h Try.underlying23 rfl (iCfg c)
  simp [Instr.loadAt, Instr.sureAddr, asAddr, this]
theorem maxInt (ts : Array TypeId) (t : TypeId) (x y : Int) (W : World) : (Builtin.max_ ts t #[.int .i64 x, .int .i64 y]).run Try.prog W = .ok (.int .i64 (mxi x y)) W := by
  unfold mxi
  go_simp
set_option maxHeartbeats 3200000 in
set_option maxRecDepth 100000 in
theorem spans_c (c : Cfg) (hc : CfgOk c) (w : World) : Calls Try.prog 49 #[cfgV c] w (Spans w (spansL c)) := by
  have k1 : I64 c.Flushers := hc _ (by simp [Cfg.l])
  have h2 : I64 1 := I64.lit (by omega) (by omega)
  have c0 : (w.alloc (.cells (cfgC c) 23)).cell? ⟨w.heap.size, 0, none⟩ = some (.int .i64 c.Clients) := (blk_cell (cfgBlk c w) 0).trans rfl
  have c1 : (w.alloc (.cells (cfgC c) 23)).cell? ⟨w.heap.size, 1, none⟩ = some (.int .i64 c.Flushers) := (blk_cell (cfgBlk c w) 1).trans rfl
  have c2 : (w.alloc (.cells (cfgC c) 23)).cell? ⟨w.heap.size, 2, none⟩ = some (.int .i64 c.Compactors) := (blk_cell (cfgBlk c w) 2).trans rfl
  have c3 : (w.alloc (.cells (cfgC c) 23)).cell? ⟨w.heap.size, 3, none⟩ = some (.int .i64 c.MemBytes) := (blk_cell (cfgBlk c w) 3).trans rfl
  have c4 : (w.alloc (.cells (cfgC c) 23)).cell? ⟨w.heap.size, 4, none⟩ = some (.int .i64 c.MaxImm) := (blk_cell (cfgBlk c w) 4).trans rfl
  have c5 : (w.alloc (.cells (cfgC c) 23)).cell? ⟨w.heap.size, 5, none⟩ = some (.int .i64 c.L0Trigger) := (blk_cell (cfgBlk c w) 5).trans rfl
  have c6 : (w.alloc (.cells (cfgC c) 23)).cell? ⟨w.heap.size, 6, none⟩ = some (.int .i64 c.L0Slow) := (blk_cell (cfgBlk c w) 6).trans rfl
  have c7 : (w.alloc (.cells (cfgC c) 23)).cell? ⟨w.heap.size, 7, none⟩ = some (.int .i64 c.L0Stop) := (blk_cell (cfgBlk c w) 7).trans rfl
  have c8 : (w.alloc (.cells (cfgC c) 23)).cell? ⟨w.heap.size, 8, none⟩ = some (.int .i64 c.Levels) := (blk_cell (cfgBlk c w) 8).trans rfl
  have c9 : (w.alloc (.cells (cfgC c) 23)).cell? ⟨w.heap.size, 9, none⟩ = some (.int .i64 c.Base) := (blk_cell (cfgBlk c w) 9).trans rfl
  have c10 : (w.alloc (.cells (cfgC c) 23)).cell? ⟨w.heap.size, 10, none⟩ = some (.int .i64 c.Mult) := (blk_cell (cfgBlk c w) 10).trans rfl
  have c11 : (w.alloc (.cells (cfgC c) 23)).cell? ⟨w.heap.size, 11, none⟩ = some (.int .i64 c.FileBytes) := (blk_cell (cfgBlk c w) 11).trans rfl
  have c12 : (w.alloc (.cells (cfgC c) 23)).cell? ⟨w.heap.size, 12, none⟩ = some (.int .i64 c.Fan) := (blk_cell (cfgBlk c w) 12).trans rfl
  have c13 : (w.alloc (.cells (cfgC c) 23)).cell? ⟨w.heap.size, 13, none⟩ = some (.int .i64 c.BlockBytes) := (blk_cell (cfgBlk c w) 13).trans rfl
  have c14 : (w.alloc (.cells (cfgC c) 23)).cell? ⟨w.heap.size, 14, none⟩ = some (.int .i64 c.Restart) := (blk_cell (cfgBlk c w) 14).trans rfl
  have c15 : (w.alloc (.cells (cfgC c) 23)).cell? ⟨w.heap.size, 15, none⟩ = some (.int .i64 c.BloomBits) := (blk_cell (cfgBlk c w) 15).trans rfl
  have c16 : (w.alloc (.cells (cfgC c) 23)).cell? ⟨w.heap.size, 16, none⟩ = some (.int .i64 c.MaxChunk) := (blk_cell (cfgBlk c w) 16).trans rfl
  have c17 : (w.alloc (.cells (cfgC c) 23)).cell? ⟨w.heap.size, 17, none⟩ = some (.int .i64 c.Rate) := (blk_cell (cfgBlk c w) 17).trans rfl
  have c18 : (w.alloc (.cells (cfgC c) 23)).cell? ⟨w.heap.size, 18, none⟩ = some (.int .i64 c.Burst) := (blk_cell (cfgBlk c w) 18).trans rfl
  have c19 : (w.alloc (.cells (cfgC c) 23)).cell? ⟨w.heap.size, 19, none⟩ = some (.int .i64 c.SlowRate) := (blk_cell (cfgBlk c w) 19).trans rfl
  have c20 : (w.alloc (.cells (cfgC c) 23)).cell? ⟨w.heap.size, 20, none⟩ = some (.int .i64 c.SlowBurst) := (blk_cell (cfgBlk c w) 20).trans rfl
  have c21 : (w.alloc (.cells (cfgC c) 23)).cell? ⟨w.heap.size, 21, none⟩ = some (.int .i64 c.MaxGroup) := (blk_cell (cfgBlk c w) 21).trans rfl
  have c22 : (w.alloc (.cells (cfgC c) 23)).cell? ⟨w.heap.size, 22, none⟩ = some (.int .i64 c.MaxDebt) := (blk_cell (cfgBlk c w) 22).trans rfl
  have c23 : (w.alloc (.cells (cfgC c) 23)).cell? ⟨w.heap.size, 23, none⟩ = some (.int .i64 c.DebtStop) := (blk_cell (cfgBlk c w) 23).trans rfl
  have c24 : (w.alloc (.cells (cfgC c) 23)).cell? ⟨w.heap.size, 24, none⟩ = some (.int .i64 c.Snapshots) := (blk_cell (cfgBlk c w) 24).trans rfl
  have c25 : (w.alloc (.cells (cfgC c) 23)).cell? ⟨w.heap.size, 25, none⟩ = some (.int .i64 c.ScanLimit) := (blk_cell (cfgBlk c w) 25).trans rfl
  have c26 : (w.alloc (.cells (cfgC c) 23)).cell? ⟨w.heap.size, 26, none⟩ = some (.int .i64 c.MaxManifest) := (blk_cell (cfgBlk c w) 26).trans rfl
  have HBX := Lib.hid (cfgBlk c w)
  have HBA := Lib.hid ((Below.refl w.heap.size w).alloc (Nat.le_refl _) (.cells (cfgC c) 23))
  have HSZ := Lib.hid (World.size_alloc w (.cells (cfgC c) 23))
  unfold cfgV at *
  go_enter Try.func49, Try.ntmps49
  go_wp2_with fail
  generalize w.alloc (.cells (cfgC c) 23) = wa at *
  dsimp only [List.append]
  refine wp_region_calmB 94 (by kernel_rfl) (by kernel_rfl) ?_
  simp only [List.take_succ_cons, List.take_zero, List.drop_succ_cons, List.drop_zero]
  refine chain0 ?_
  refine @chain _ _ _ _ _ _ _ _ 3 (.pointer (some ⟨w.heap.size, 0, none⟩)) (by rfl) (by rfl) (by exact fun W hW => run_fa (by rfl) (by exact eval_base (by kernel_rfl) (by rfl)) (fun W => by kernel_rfl) hW) ?_
  refine @chain _ _ _ _ _ _ _ _ 4 (.int .i64 c.Clients) (by rfl) (by rfl) (by exact fun W hW => run_ld (by rfl) (by exact eval_look (by kernel_rfl) (by kernel_rfl)) c0 (fun W h => ldInt _ _ _ W h) hW) ?_
  refine @chain _ _ _ _ _ _ _ _ 5 (.agg #[.int .i64 c.Clients, .int .i64 1, .int .i64 8]) (by rfl) (by rfl) (by exact fun W hW => run_bd (u := .int .i64 c.Clients) (v := .int .i64 1) (p := .int .i64 8) (by rfl) (by exact eval_look (by kernel_rfl) (by kernel_rfl)) (by rfl) (by rfl) (fun W => by kernel_rfl) hW) ?_
  refine @chain _ _ _ _ _ _ _ _ 6 (.pointer (some ⟨w.heap.size, 1, none⟩)) (by rfl) (by rfl) (by exact fun W hW => run_fa (by rfl) (by exact eval_base (by kernel_rfl) (by rfl)) (fun W => by kernel_rfl) hW) ?_
  refine @chain _ _ _ _ _ _ _ _ 7 (.int .i64 c.Flushers) (by rfl) (by rfl) (by exact fun W hW => run_ld (by rfl) (by exact eval_look (by kernel_rfl) (by kernel_rfl)) c1 (fun W h => ldInt _ _ _ W h) hW) ?_
  refine @chain _ _ _ _ _ _ _ _ 8 (.agg #[.int .i64 c.Flushers, .int .i64 1, .int .i64 2]) (by rfl) (by rfl) (by exact fun W hW => run_bd (u := .int .i64 c.Flushers) (v := .int .i64 1) (p := .int .i64 2) (by rfl) (by exact eval_look (by kernel_rfl) (by kernel_rfl)) (by rfl) (by rfl) (fun W => by kernel_rfl) hW) ?_
  refine @chain _ _ _ _ _ _ _ _ 9 (.pointer (some ⟨w.heap.size, 2, none⟩)) (by rfl) (by rfl) (by exact fun W hW => run_fa (by rfl) (by exact eval_base (by kernel_rfl) (by rfl)) (fun W => by kernel_rfl) hW) ?_
  refine @chain _ _ _ _ _ _ _ _ 10 (.int .i64 c.Compactors) (by rfl) (by rfl) (by exact fun W hW => run_ld (by rfl) (by exact eval_look (by kernel_rfl) (by kernel_rfl)) c2 (fun W h => ldInt _ _ _ W h) hW) ?_
  refine @chain _ _ _ _ _ _ _ _ 11 (.agg #[.int .i64 c.Compactors, .int .i64 1, .int .i64 3]) (by rfl) (by rfl) (by exact fun W hW => run_bd (u := .int .i64 c.Compactors) (v := .int .i64 1) (p := .int .i64 3) (by rfl) (by exact eval_look (by kernel_rfl) (by kernel_rfl)) (by rfl) (by rfl) (fun W => by kernel_rfl) hW) ?_
  refine @chain _ _ _ _ _ _ _ _ 12 (.pointer (some ⟨w.heap.size, 3, none⟩)) (by rfl) (by rfl) (by exact fun W hW => run_fa (by rfl) (by exact eval_base (by kernel_rfl) (by rfl)) (fun W => by kernel_rfl) hW) ?_
  refine @chain _ _ _ _ _ _ _ _ 13 (.int .i64 c.MemBytes) (by rfl) (by rfl) (by exact fun W hW => run_ld (by rfl) (by exact eval_look (by kernel_rfl) (by kernel_rfl)) c3 (fun W h => ldInt _ _ _ W h) hW) ?_
  refine @chain _ _ _ _ _ _ _ _ 14 (.agg #[.int .i64 c.MemBytes, .int .i64 4096, .int .i64 1048576]) (by rfl) (by rfl) (by exact fun W hW => run_bd (u := .int .i64 c.MemBytes) (v := .int .i64 4096) (p := .int .i64 1048576) (by rfl) (by exact eval_look (by kernel_rfl) (by kernel_rfl)) (by rfl) (by rfl) (fun W => by kernel_rfl) hW) ?_
  refine @chain _ _ _ _ _ _ _ _ 15 (.pointer (some ⟨w.heap.size, 4, none⟩)) (by rfl) (by rfl) (by exact fun W hW => run_fa (by rfl) (by exact eval_base (by kernel_rfl) (by rfl)) (fun W => by kernel_rfl) hW) ?_
  refine @chain _ _ _ _ _ _ _ _ 16 (.int .i64 c.MaxImm) (by rfl) (by rfl) (by exact fun W hW => run_ld (by rfl) (by exact eval_look (by kernel_rfl) (by kernel_rfl)) c4 (fun W h => ldInt _ _ _ W h) hW) ?_
  refine @chain _ _ _ _ _ _ _ _ 17 (.agg #[.int .i64 c.MaxImm, .int .i64 1, .int .i64 4]) (by rfl) (by rfl) (by exact fun W hW => run_bd (u := .int .i64 c.MaxImm) (v := .int .i64 1) (p := .int .i64 4) (by rfl) (by exact eval_look (by kernel_rfl) (by kernel_rfl)) (by rfl) (by rfl) (fun W => by kernel_rfl) hW) ?_
  refine @chain _ _ _ _ _ _ _ _ 18 (.pointer (some ⟨w.heap.size, 5, none⟩)) (by rfl) (by rfl) (by exact fun W hW => run_fa (by rfl) (by exact eval_base (by kernel_rfl) (by rfl)) (fun W => by kernel_rfl) hW) ?_
  refine @chain _ _ _ _ _ _ _ _ 19 (.int .i64 c.L0Trigger) (by rfl) (by rfl) (by exact fun W hW => run_ld (by rfl) (by exact eval_look (by kernel_rfl) (by kernel_rfl)) c5 (fun W h => ldInt _ _ _ W h) hW) ?_
  refine @chain _ _ _ _ _ _ _ _ 20 (.agg #[.int .i64 c.L0Trigger, .int .i64 1, .int .i64 16]) (by rfl) (by rfl) (by exact fun W hW => run_bd (u := .int .i64 c.L0Trigger) (v := .int .i64 1) (p := .int .i64 16) (by rfl) (by exact eval_look (by kernel_rfl) (by kernel_rfl)) (by rfl) (by rfl) (fun W => by kernel_rfl) hW) ?_
  refine @chain _ _ _ _ _ _ _ _ 21 (.pointer (some ⟨w.heap.size, 6, none⟩)) (by rfl) (by rfl) (by exact fun W hW => run_fa (by rfl) (by exact eval_base (by kernel_rfl) (by rfl)) (fun W => by kernel_rfl) hW) ?_
  refine @chain _ _ _ _ _ _ _ _ 22 (.int .i64 c.L0Slow) (by rfl) (by rfl) (by exact fun W hW => run_ld (by rfl) (by exact eval_look (by kernel_rfl) (by kernel_rfl)) c6 (fun W h => ldInt _ _ _ W h) hW) ?_
  refine @chain _ _ _ _ _ _ _ _ 23 (.pointer (some ⟨w.heap.size, 5, none⟩)) (by rfl) (by rfl) (by exact fun W hW => run_fa (by rfl) (by exact eval_base (by kernel_rfl) (by rfl)) (fun W => by kernel_rfl) hW) ?_
  refine @chain _ _ _ _ _ _ _ _ 24 (.int .i64 c.L0Trigger) (by rfl) (by rfl) (by exact fun W hW => run_ld (by rfl) (by exact eval_look (by kernel_rfl) (by kernel_rfl)) c5 (fun W h => ldInt _ _ _ W h) hW) ?_
  refine @chain _ _ _ _ _ _ _ _ 25 (.agg #[.int .i64 c.L0Slow, .int .i64 c.L0Trigger, .int .i64 16]) (by rfl) (by rfl) (by exact fun W hW => run_bd (u := .int .i64 c.L0Slow) (v := .int .i64 c.L0Trigger) (p := .int .i64 16) (by rfl) (by exact eval_look (by kernel_rfl) (by kernel_rfl)) (by exact eval_look (by kernel_rfl) (by kernel_rfl)) (by rfl) (fun W => by kernel_rfl) hW) ?_
  refine @chain _ _ _ _ _ _ _ _ 26 (.pointer (some ⟨w.heap.size, 7, none⟩)) (by rfl) (by rfl) (by exact fun W hW => run_fa (by rfl) (by exact eval_base (by kernel_rfl) (by rfl)) (fun W => by kernel_rfl) hW) ?_
  refine @chain _ _ _ _ _ _ _ _ 27 (.int .i64 c.L0Stop) (by rfl) (by rfl) (by exact fun W hW => run_ld (by rfl) (by exact eval_look (by kernel_rfl) (by kernel_rfl)) c7 (fun W h => ldInt _ _ _ W h) hW) ?_
  refine @chain _ _ _ _ _ _ _ _ 28 (.pointer (some ⟨w.heap.size, 6, none⟩)) (by rfl) (by rfl) (by exact fun W hW => run_fa (by rfl) (by exact eval_base (by kernel_rfl) (by rfl)) (fun W => by kernel_rfl) hW) ?_
  refine @chain _ _ _ _ _ _ _ _ 29 (.int .i64 c.L0Slow) (by rfl) (by rfl) (by exact fun W hW => run_ld (by rfl) (by exact eval_look (by kernel_rfl) (by kernel_rfl)) c6 (fun W h => ldInt _ _ _ W h) hW) ?_
  refine @chain _ _ _ _ _ _ _ _ 30 (.pointer (some ⟨w.heap.size, 1, none⟩)) (by rfl) (by rfl) (by exact fun W hW => run_fa (by rfl) (by exact eval_base (by kernel_rfl) (by rfl)) (fun W => by kernel_rfl) hW) ?_
  refine @chain _ _ _ _ _ _ _ _ 31 (.int .i64 c.Flushers) (by rfl) (by rfl) (by exact fun W hW => run_ld (by rfl) (by exact eval_look (by kernel_rfl) (by kernel_rfl)) c1 (fun W h => ldInt _ _ _ W h) hW) ?_
  refine @chain _ _ _ _ _ _ _ _ 32 (.int .i64 (sadd c.Flushers 1)) (by rfl) (by rfl) (by exact fun W hW => run_call (vs := #[.int .i64 c.Flushers, .int .i64 1]) (by rfl) (by kernel_rfl) (enters_of Try.func66 (by kernel_rfl) (by rfl)) (calm_q hW (addP_c _ _ k1 h2 W))) ?_
  refine @chain _ _ _ _ _ _ _ _ 33 (.int .i64 (sadd c.Flushers 1)) (by rfl) (by rfl) (by exact fun W hW => run_call (vs := #[.int .i64 (sadd c.Flushers 1)]) (by rfl) (by kernel_rfl) (enters_of Try.func63 (by kernel_rfl) (by rfl)) (calm_q hW (int_c _ W))) ?_
  refine @chain _ _ _ _ _ _ _ _ 34 (.int .i64 (mxi c.L0Slow (sadd c.Flushers 1))) (by rfl) (by rfl) (by exact fun W hW => run_mx (u := .int .i64 c.L0Slow) (v := .int .i64 (sadd c.Flushers 1)) (by rfl) (by exact eval_look (by kernel_rfl) (by kernel_rfl)) (by exact eval_look (by kernel_rfl) (by kernel_rfl)) (fun W => maxInt _ _ _ _ W) hW) ?_
  refine @chain _ _ _ _ _ _ _ _ 35 (.agg #[.int .i64 c.L0Stop, .int .i64 (mxi c.L0Slow (sadd c.Flushers 1)), .int .i64 16]) (by rfl) (by rfl) (by exact fun W hW => run_bd (u := .int .i64 c.L0Stop) (v := .int .i64 (mxi c.L0Slow (sadd c.Flushers 1))) (p := .int .i64 16) (by rfl) (by exact eval_look (by kernel_rfl) (by kernel_rfl)) (by exact eval_look (by kernel_rfl) (by kernel_rfl)) (by rfl) (fun W => by kernel_rfl) hW) ?_
  refine @chain _ _ _ _ _ _ _ _ 36 (.pointer (some ⟨w.heap.size, 8, none⟩)) (by rfl) (by rfl) (by exact fun W hW => run_fa (by rfl) (by exact eval_base (by kernel_rfl) (by rfl)) (fun W => by kernel_rfl) hW) ?_
  refine @chain _ _ _ _ _ _ _ _ 37 (.int .i64 c.Levels) (by rfl) (by rfl) (by exact fun W hW => run_ld (by rfl) (by exact eval_look (by kernel_rfl) (by kernel_rfl)) c8 (fun W h => ldInt _ _ _ W h) hW) ?_
  refine @chain _ _ _ _ _ _ _ _ 38 (.agg #[.int .i64 c.Levels, .int .i64 3, .int .i64 5]) (by rfl) (by rfl) (by exact fun W hW => run_bd (u := .int .i64 c.Levels) (v := .int .i64 3) (p := .int .i64 5) (by rfl) (by exact eval_look (by kernel_rfl) (by kernel_rfl)) (by rfl) (by rfl) (fun W => by kernel_rfl) hW) ?_
  refine @chain _ _ _ _ _ _ _ _ 39 (.pointer (some ⟨w.heap.size, 9, none⟩)) (by rfl) (by rfl) (by exact fun W hW => run_fa (by rfl) (by exact eval_base (by kernel_rfl) (by rfl)) (fun W => by kernel_rfl) hW) ?_
  refine @chain _ _ _ _ _ _ _ _ 40 (.int .i64 c.Base) (by rfl) (by rfl) (by exact fun W hW => run_ld (by rfl) (by exact eval_look (by kernel_rfl) (by kernel_rfl)) c9 (fun W h => ldInt _ _ _ W h) hW) ?_
  refine @chain _ _ _ _ _ _ _ _ 41 (.agg #[.int .i64 c.Base, .int .i64 4096, .int .i64 16777216]) (by rfl) (by rfl) (by exact fun W hW => run_bd (u := .int .i64 c.Base) (v := .int .i64 4096) (p := .int .i64 16777216) (by rfl) (by exact eval_look (by kernel_rfl) (by kernel_rfl)) (by rfl) (by rfl) (fun W => by kernel_rfl) hW) ?_
  refine @chain _ _ _ _ _ _ _ _ 42 (.pointer (some ⟨w.heap.size, 10, none⟩)) (by rfl) (by rfl) (by exact fun W hW => run_fa (by rfl) (by exact eval_base (by kernel_rfl) (by rfl)) (fun W => by kernel_rfl) hW) ?_
  refine @chain _ _ _ _ _ _ _ _ 43 (.int .i64 c.Mult) (by rfl) (by rfl) (by exact fun W hW => run_ld (by rfl) (by exact eval_look (by kernel_rfl) (by kernel_rfl)) c10 (fun W h => ldInt _ _ _ W h) hW) ?_
  refine @chain _ _ _ _ _ _ _ _ 44 (.agg #[.int .i64 c.Mult, .int .i64 2, .int .i64 10]) (by rfl) (by rfl) (by exact fun W hW => run_bd (u := .int .i64 c.Mult) (v := .int .i64 2) (p := .int .i64 10) (by rfl) (by exact eval_look (by kernel_rfl) (by kernel_rfl)) (by rfl) (by rfl) (fun W => by kernel_rfl) hW) ?_
  refine @chain _ _ _ _ _ _ _ _ 45 (.pointer (some ⟨w.heap.size, 11, none⟩)) (by rfl) (by rfl) (by exact fun W hW => run_fa (by rfl) (by exact eval_base (by kernel_rfl) (by rfl)) (fun W => by kernel_rfl) hW) ?_
  refine @chain _ _ _ _ _ _ _ _ 46 (.int .i64 c.FileBytes) (by rfl) (by rfl) (by exact fun W hW => run_ld (by rfl) (by exact eval_look (by kernel_rfl) (by kernel_rfl)) c11 (fun W h => ldInt _ _ _ W h) hW) ?_
  refine @chain _ _ _ _ _ _ _ _ 47 (.agg #[.int .i64 c.FileBytes, .int .i64 2048, .int .i64 1048576]) (by rfl) (by rfl) (by exact fun W hW => run_bd (u := .int .i64 c.FileBytes) (v := .int .i64 2048) (p := .int .i64 1048576) (by rfl) (by exact eval_look (by kernel_rfl) (by kernel_rfl)) (by rfl) (by rfl) (fun W => by kernel_rfl) hW) ?_
  refine @chain _ _ _ _ _ _ _ _ 48 (.pointer (some ⟨w.heap.size, 12, none⟩)) (by rfl) (by rfl) (by exact fun W hW => run_fa (by rfl) (by exact eval_base (by kernel_rfl) (by rfl)) (fun W => by kernel_rfl) hW) ?_
  refine @chain _ _ _ _ _ _ _ _ 49 (.int .i64 c.Fan) (by rfl) (by rfl) (by exact fun W hW => run_ld (by rfl) (by exact eval_look (by kernel_rfl) (by kernel_rfl)) c12 (fun W h => ldInt _ _ _ W h) hW) ?_
  refine @chain _ _ _ _ _ _ _ _ 50 (.agg #[.int .i64 c.Fan, .int .i64 1, .int .i64 16]) (by rfl) (by rfl) (by exact fun W hW => run_bd (u := .int .i64 c.Fan) (v := .int .i64 1) (p := .int .i64 16) (by rfl) (by exact eval_look (by kernel_rfl) (by kernel_rfl)) (by rfl) (by rfl) (fun W => by kernel_rfl) hW) ?_
  refine @chain _ _ _ _ _ _ _ _ 51 (.pointer (some ⟨w.heap.size, 13, none⟩)) (by rfl) (by rfl) (by exact fun W hW => run_fa (by rfl) (by exact eval_base (by kernel_rfl) (by rfl)) (fun W => by kernel_rfl) hW) ?_
  refine @chain _ _ _ _ _ _ _ _ 52 (.int .i64 c.BlockBytes) (by rfl) (by rfl) (by exact fun W hW => run_ld (by rfl) (by exact eval_look (by kernel_rfl) (by kernel_rfl)) c13 (fun W h => ldInt _ _ _ W h) hW) ?_
  refine @chain _ _ _ _ _ _ _ _ 53 (.agg #[.int .i64 c.BlockBytes, .int .i64 64, .int .i64 4096]) (by rfl) (by rfl) (by exact fun W hW => run_bd (u := .int .i64 c.BlockBytes) (v := .int .i64 64) (p := .int .i64 4096) (by rfl) (by exact eval_look (by kernel_rfl) (by kernel_rfl)) (by rfl) (by rfl) (fun W => by kernel_rfl) hW) ?_
  refine @chain _ _ _ _ _ _ _ _ 54 (.pointer (some ⟨w.heap.size, 14, none⟩)) (by rfl) (by rfl) (by exact fun W hW => run_fa (by rfl) (by exact eval_base (by kernel_rfl) (by rfl)) (fun W => by kernel_rfl) hW) ?_
  refine @chain _ _ _ _ _ _ _ _ 55 (.int .i64 c.Restart) (by rfl) (by rfl) (by exact fun W hW => run_ld (by rfl) (by exact eval_look (by kernel_rfl) (by kernel_rfl)) c14 (fun W h => ldInt _ _ _ W h) hW) ?_
  refine @chain _ _ _ _ _ _ _ _ 56 (.agg #[.int .i64 c.Restart, .int .i64 1, .int .i64 16]) (by rfl) (by rfl) (by exact fun W hW => run_bd (u := .int .i64 c.Restart) (v := .int .i64 1) (p := .int .i64 16) (by rfl) (by exact eval_look (by kernel_rfl) (by kernel_rfl)) (by rfl) (by rfl) (fun W => by kernel_rfl) hW) ?_
  refine @chain _ _ _ _ _ _ _ _ 57 (.pointer (some ⟨w.heap.size, 15, none⟩)) (by rfl) (by rfl) (by exact fun W hW => run_fa (by rfl) (by exact eval_base (by kernel_rfl) (by rfl)) (fun W => by kernel_rfl) hW) ?_
  refine @chain _ _ _ _ _ _ _ _ 58 (.int .i64 c.BloomBits) (by rfl) (by rfl) (by exact fun W hW => run_ld (by rfl) (by exact eval_look (by kernel_rfl) (by kernel_rfl)) c15 (fun W h => ldInt _ _ _ W h) hW) ?_
  refine @chain _ _ _ _ _ _ _ _ 59 (.agg #[.int .i64 c.BloomBits, .int .i64 0, .int .i64 16]) (by rfl) (by rfl) (by exact fun W hW => run_bd (u := .int .i64 c.BloomBits) (v := .int .i64 0) (p := .int .i64 16) (by rfl) (by exact eval_look (by kernel_rfl) (by kernel_rfl)) (by rfl) (by rfl) (fun W => by kernel_rfl) hW) ?_
  refine @chain _ _ _ _ _ _ _ _ 60 (.pointer (some ⟨w.heap.size, 16, none⟩)) (by rfl) (by rfl) (by exact fun W hW => run_fa (by rfl) (by exact eval_base (by kernel_rfl) (by rfl)) (fun W => by kernel_rfl) hW) ?_
  refine @chain _ _ _ _ _ _ _ _ 61 (.int .i64 c.MaxChunk) (by rfl) (by rfl) (by exact fun W hW => run_ld (by rfl) (by exact eval_look (by kernel_rfl) (by kernel_rfl)) c16 (fun W h => ldInt _ _ _ W h) hW) ?_
  refine @chain _ _ _ _ _ _ _ _ 62 (.agg #[.int .i64 c.MaxChunk, .int .i64 1088, .int .i64 65536]) (by rfl) (by rfl) (by exact fun W hW => run_bd (u := .int .i64 c.MaxChunk) (v := .int .i64 1088) (p := .int .i64 65536) (by rfl) (by exact eval_look (by kernel_rfl) (by kernel_rfl)) (by rfl) (by rfl) (fun W => by kernel_rfl) hW) ?_
  refine @chain _ _ _ _ _ _ _ _ 63 (.pointer (some ⟨w.heap.size, 17, none⟩)) (by rfl) (by rfl) (by exact fun W hW => run_fa (by rfl) (by exact eval_base (by kernel_rfl) (by rfl)) (fun W => by kernel_rfl) hW) ?_
  refine @chain _ _ _ _ _ _ _ _ 64 (.int .i64 c.Rate) (by rfl) (by rfl) (by exact fun W hW => run_ld (by rfl) (by exact eval_look (by kernel_rfl) (by kernel_rfl)) c17 (fun W h => ldInt _ _ _ W h) hW) ?_
  refine @chain _ _ _ _ _ _ _ _ 65 (.agg #[.int .i64 c.Rate, .int .i64 1, .int .i64 1073741824]) (by rfl) (by rfl) (by exact fun W hW => run_bd (u := .int .i64 c.Rate) (v := .int .i64 1) (p := .int .i64 1073741824) (by rfl) (by exact eval_look (by kernel_rfl) (by kernel_rfl)) (by rfl) (by rfl) (fun W => by kernel_rfl) hW) ?_
  refine @chain _ _ _ _ _ _ _ _ 66 (.pointer (some ⟨w.heap.size, 18, none⟩)) (by rfl) (by rfl) (by exact fun W hW => run_fa (by rfl) (by exact eval_base (by kernel_rfl) (by rfl)) (fun W => by kernel_rfl) hW) ?_
  refine @chain _ _ _ _ _ _ _ _ 67 (.int .i64 c.Burst) (by rfl) (by rfl) (by exact fun W hW => run_ld (by rfl) (by exact eval_look (by kernel_rfl) (by kernel_rfl)) c18 (fun W h => ldInt _ _ _ W h) hW) ?_
  refine @chain _ _ _ _ _ _ _ _ 68 (.pointer (some ⟨w.heap.size, 16, none⟩)) (by rfl) (by rfl) (by exact fun W hW => run_fa (by rfl) (by exact eval_base (by kernel_rfl) (by rfl)) (fun W => by kernel_rfl) hW) ?_
  refine @chain _ _ _ _ _ _ _ _ 69 (.int .i64 c.MaxChunk) (by rfl) (by rfl) (by exact fun W hW => run_ld (by rfl) (by exact eval_look (by kernel_rfl) (by kernel_rfl)) c16 (fun W h => ldInt _ _ _ W h) hW) ?_
  refine @chain _ _ _ _ _ _ _ _ 70 (.agg #[.int .i64 c.Burst, .int .i64 c.MaxChunk, .int .i64 1073741824]) (by rfl) (by rfl) (by exact fun W hW => run_bd (u := .int .i64 c.Burst) (v := .int .i64 c.MaxChunk) (p := .int .i64 1073741824) (by rfl) (by exact eval_look (by kernel_rfl) (by kernel_rfl)) (by exact eval_look (by kernel_rfl) (by kernel_rfl)) (by rfl) (fun W => by kernel_rfl) hW) ?_
  refine @chain _ _ _ _ _ _ _ _ 71 (.pointer (some ⟨w.heap.size, 19, none⟩)) (by rfl) (by rfl) (by exact fun W hW => run_fa (by rfl) (by exact eval_base (by kernel_rfl) (by rfl)) (fun W => by kernel_rfl) hW) ?_
  refine @chain _ _ _ _ _ _ _ _ 72 (.int .i64 c.SlowRate) (by rfl) (by rfl) (by exact fun W hW => run_ld (by rfl) (by exact eval_look (by kernel_rfl) (by kernel_rfl)) c19 (fun W h => ldInt _ _ _ W h) hW) ?_
  refine @chain _ _ _ _ _ _ _ _ 73 (.agg #[.int .i64 c.SlowRate, .int .i64 1, .int .i64 1073741824]) (by rfl) (by rfl) (by exact fun W hW => run_bd (u := .int .i64 c.SlowRate) (v := .int .i64 1) (p := .int .i64 1073741824) (by rfl) (by exact eval_look (by kernel_rfl) (by kernel_rfl)) (by rfl) (by rfl) (fun W => by kernel_rfl) hW) ?_
  refine @chain _ _ _ _ _ _ _ _ 74 (.pointer (some ⟨w.heap.size, 20, none⟩)) (by rfl) (by rfl) (by exact fun W hW => run_fa (by rfl) (by exact eval_base (by kernel_rfl) (by rfl)) (fun W => by kernel_rfl) hW) ?_
  refine @chain _ _ _ _ _ _ _ _ 75 (.int .i64 c.SlowBurst) (by rfl) (by rfl) (by exact fun W hW => run_ld (by rfl) (by exact eval_look (by kernel_rfl) (by kernel_rfl)) c20 (fun W h => ldInt _ _ _ W h) hW) ?_
  refine @chain _ _ _ _ _ _ _ _ 76 (.agg #[.int .i64 c.SlowBurst, .int .i64 17408, .int .i64 1073741824]) (by rfl) (by rfl) (by exact fun W hW => run_bd (u := .int .i64 c.SlowBurst) (v := .int .i64 17408) (p := .int .i64 1073741824) (by rfl) (by exact eval_look (by kernel_rfl) (by kernel_rfl)) (by rfl) (by rfl) (fun W => by kernel_rfl) hW) ?_
  refine @chain _ _ _ _ _ _ _ _ 77 (.pointer (some ⟨w.heap.size, 21, none⟩)) (by rfl) (by rfl) (by exact fun W hW => run_fa (by rfl) (by exact eval_base (by kernel_rfl) (by rfl)) (fun W => by kernel_rfl) hW) ?_
  refine @chain _ _ _ _ _ _ _ _ 78 (.int .i64 c.MaxGroup) (by rfl) (by rfl) (by exact fun W hW => run_ld (by rfl) (by exact eval_look (by kernel_rfl) (by kernel_rfl)) c21 (fun W h => ldInt _ _ _ W h) hW) ?_
  refine @chain _ _ _ _ _ _ _ _ 79 (.agg #[.int .i64 c.MaxGroup, .int .i64 1088, .int .i64 1048576]) (by rfl) (by rfl) (by exact fun W hW => run_bd (u := .int .i64 c.MaxGroup) (v := .int .i64 1088) (p := .int .i64 1048576) (by rfl) (by exact eval_look (by kernel_rfl) (by kernel_rfl)) (by rfl) (by rfl) (fun W => by kernel_rfl) hW) ?_
  refine @chain _ _ _ _ _ _ _ _ 80 (.pointer (some ⟨w.heap.size, 22, none⟩)) (by rfl) (by rfl) (by exact fun W hW => run_fa (by rfl) (by exact eval_base (by kernel_rfl) (by rfl)) (fun W => by kernel_rfl) hW) ?_
  refine @chain _ _ _ _ _ _ _ _ 81 (.int .i64 c.MaxDebt) (by rfl) (by rfl) (by exact fun W hW => run_ld (by rfl) (by exact eval_look (by kernel_rfl) (by kernel_rfl)) c22 (fun W h => ldInt _ _ _ W h) hW) ?_
  refine @chain _ _ _ _ _ _ _ _ 82 (.agg #[.int .i64 c.MaxDebt, .int .i64 17408, .int .i64 16777216]) (by rfl) (by rfl) (by exact fun W hW => run_bd (u := .int .i64 c.MaxDebt) (v := .int .i64 17408) (p := .int .i64 16777216) (by rfl) (by exact eval_look (by kernel_rfl) (by kernel_rfl)) (by rfl) (by rfl) (fun W => by kernel_rfl) hW) ?_
  refine @chain _ _ _ _ _ _ _ _ 83 (.pointer (some ⟨w.heap.size, 23, none⟩)) (by rfl) (by rfl) (by exact fun W hW => run_fa (by rfl) (by exact eval_base (by kernel_rfl) (by rfl)) (fun W => by kernel_rfl) hW) ?_
  refine @chain _ _ _ _ _ _ _ _ 84 (.int .i64 c.DebtStop) (by rfl) (by rfl) (by exact fun W hW => run_ld (by rfl) (by exact eval_look (by kernel_rfl) (by kernel_rfl)) c23 (fun W h => ldInt _ _ _ W h) hW) ?_
  refine @chain _ _ _ _ _ _ _ _ 85 (.agg (cfgC c)) (by rfl) (by rfl) (by exact fun W hW => run_row (by rfl) (by exact eval_base (by kernel_rfl) (by rfl)) HBX.out (fun W h => ldCfg c _ W h) hW) ?_
  refine @chain _ _ _ _ _ _ _ _ 86 (.int .i64 (debtLeastL c)) (by rfl) (by rfl) (by exact fun W hW => run_call (vs := #[.agg (cfgC c)]) (by rfl) (by kernel_rfl) (enters_of Try.func75 (by kernel_rfl) (by rfl)) (calm_b hW (debtLeast_c c hc W))) ?_
  refine @chain _ _ _ _ _ _ _ _ 87 (.agg #[.int .i64 c.DebtStop, .int .i64 (debtLeastL c), .int .i64 1073741824]) (by rfl) (by rfl) (by exact fun W hW => run_bd (u := .int .i64 c.DebtStop) (v := .int .i64 (debtLeastL c)) (p := .int .i64 1073741824) (by rfl) (by exact eval_look (by kernel_rfl) (by kernel_rfl)) (by exact eval_look (by kernel_rfl) (by kernel_rfl)) (by rfl) (fun W => by kernel_rfl) hW) ?_
  refine @chain _ _ _ _ _ _ _ _ 88 (.pointer (some ⟨w.heap.size, 24, none⟩)) (by rfl) (by rfl) (by exact fun W hW => run_fa (by rfl) (by exact eval_base (by kernel_rfl) (by rfl)) (fun W => by kernel_rfl) hW) ?_
  refine @chain _ _ _ _ _ _ _ _ 89 (.int .i64 c.Snapshots) (by rfl) (by rfl) (by exact fun W hW => run_ld (by rfl) (by exact eval_look (by kernel_rfl) (by kernel_rfl)) c24 (fun W h => ldInt _ _ _ W h) hW) ?_
  refine @chain _ _ _ _ _ _ _ _ 90 (.agg #[.int .i64 c.Snapshots, .int .i64 0, .int .i64 8]) (by rfl) (by rfl) (by exact fun W hW => run_bd (u := .int .i64 c.Snapshots) (v := .int .i64 0) (p := .int .i64 8) (by rfl) (by exact eval_look (by kernel_rfl) (by kernel_rfl)) (by rfl) (by rfl) (fun W => by kernel_rfl) hW) ?_
  refine @chain _ _ _ _ _ _ _ _ 91 (.pointer (some ⟨w.heap.size, 25, none⟩)) (by rfl) (by rfl) (by exact fun W hW => run_fa (by rfl) (by exact eval_base (by kernel_rfl) (by rfl)) (fun W => by kernel_rfl) hW) ?_
  refine @chain _ _ _ _ _ _ _ _ 92 (.int .i64 c.ScanLimit) (by rfl) (by rfl) (by exact fun W hW => run_ld (by rfl) (by exact eval_look (by kernel_rfl) (by kernel_rfl)) c25 (fun W h => ldInt _ _ _ W h) hW) ?_
  refine @chain _ _ _ _ _ _ _ _ 93 (.agg #[.int .i64 c.ScanLimit, .int .i64 1, .int .i64 256]) (by rfl) (by rfl) (by exact fun W hW => run_bd (u := .int .i64 c.ScanLimit) (v := .int .i64 1) (p := .int .i64 256) (by rfl) (by exact eval_look (by kernel_rfl) (by kernel_rfl)) (by rfl) (by rfl) (fun W => by kernel_rfl) hW) ?_
  refine @chain _ _ _ _ _ _ _ _ 94 (.pointer (some ⟨w.heap.size, 26, none⟩)) (by rfl) (by rfl) (by exact fun W hW => run_fa (by rfl) (by exact eval_base (by kernel_rfl) (by rfl)) (fun W => by kernel_rfl) hW) ?_
  refine @chain _ _ _ _ _ _ _ _ 95 (.int .i64 c.MaxManifest) (by rfl) (by rfl) (by exact fun W hW => run_ld (by rfl) (by exact eval_look (by kernel_rfl) (by kernel_rfl)) c26 (fun W h => ldInt _ _ _ W h) hW) ?_
  refine @chain _ _ _ _ _ _ _ _ 96 (.agg #[.int .i64 c.MaxManifest, .int .i64 4096, .int .i64 1048576]) (by rfl) (by rfl) (by exact fun W hW => run_bd (u := .int .i64 c.MaxManifest) (v := .int .i64 4096) (p := .int .i64 1048576) (by rfl) (by exact eval_look (by kernel_rfl) (by kernel_rfl)) (by rfl) (by rfl) (fun W => by kernel_rfl) hW) ?_
  refine calm_nil (fun W hW => ?_)
  clear c0 c1 c2 c3 c4 c5 c6 c7 c8 c9 c10 c11 c12 c13 c14 c15 c16 c17 c18 c19 c20 c21 c22 c23 c24 c25 c26
  refine Eq.mpr (congrArg (fun a => wpList _ _ _ _ a W) (show _ = (⟨#[.agg (cfgC c), .pointer (some ⟨w.heap.size, 0, none⟩), .slice none 0 0, .pointer (some ⟨w.heap.size, 0, none⟩), .int .i64 c.Clients, .agg #[.int .i64 c.Clients, .int .i64 1, .int .i64 8], .pointer (some ⟨w.heap.size, 1, none⟩), .int .i64 c.Flushers, .agg #[.int .i64 c.Flushers, .int .i64 1, .int .i64 2], .pointer (some ⟨w.heap.size, 2, none⟩), .int .i64 c.Compactors, .agg #[.int .i64 c.Compactors, .int .i64 1, .int .i64 3], .pointer (some ⟨w.heap.size, 3, none⟩), .int .i64 c.MemBytes, .agg #[.int .i64 c.MemBytes, .int .i64 4096, .int .i64 1048576], .pointer (some ⟨w.heap.size, 4, none⟩), .int .i64 c.MaxImm, .agg #[.int .i64 c.MaxImm, .int .i64 1, .int .i64 4], .pointer (some ⟨w.heap.size, 5, none⟩), .int .i64 c.L0Trigger, .agg #[.int .i64 c.L0Trigger, .int .i64 1, .int .i64 16], .pointer (some ⟨w.heap.size, 6, none⟩), .int .i64 c.L0Slow, .pointer (some ⟨w.heap.size, 5, none⟩), .int .i64 c.L0Trigger, .agg #[.int .i64 c.L0Slow, .int .i64 c.L0Trigger, .int .i64 16], .pointer (some ⟨w.heap.size, 7, none⟩), .int .i64 c.L0Stop, .pointer (some ⟨w.heap.size, 6, none⟩), .int .i64 c.L0Slow, .pointer (some ⟨w.heap.size, 1, none⟩), .int .i64 c.Flushers, .int .i64 (sadd c.Flushers 1), .int .i64 (sadd c.Flushers 1), .int .i64 (mxi c.L0Slow (sadd c.Flushers 1)), .agg #[.int .i64 c.L0Stop, .int .i64 (mxi c.L0Slow (sadd c.Flushers 1)), .int .i64 16], .pointer (some ⟨w.heap.size, 8, none⟩), .int .i64 c.Levels, .agg #[.int .i64 c.Levels, .int .i64 3, .int .i64 5], .pointer (some ⟨w.heap.size, 9, none⟩), .int .i64 c.Base, .agg #[.int .i64 c.Base, .int .i64 4096, .int .i64 16777216], .pointer (some ⟨w.heap.size, 10, none⟩), .int .i64 c.Mult, .agg #[.int .i64 c.Mult, .int .i64 2, .int .i64 10], .pointer (some ⟨w.heap.size, 11, none⟩), .int .i64 c.FileBytes, .agg #[.int .i64 c.FileBytes, .int .i64 2048, .int .i64 1048576], .pointer (some ⟨w.heap.size, 12, none⟩), .int .i64 c.Fan, .agg #[.int .i64 c.Fan, .int .i64 1, .int .i64 16], .pointer (some ⟨w.heap.size, 13, none⟩), .int .i64 c.BlockBytes, .agg #[.int .i64 c.BlockBytes, .int .i64 64, .int .i64 4096], .pointer (some ⟨w.heap.size, 14, none⟩), .int .i64 c.Restart, .agg #[.int .i64 c.Restart, .int .i64 1, .int .i64 16], .pointer (some ⟨w.heap.size, 15, none⟩), .int .i64 c.BloomBits, .agg #[.int .i64 c.BloomBits, .int .i64 0, .int .i64 16], .pointer (some ⟨w.heap.size, 16, none⟩), .int .i64 c.MaxChunk, .agg #[.int .i64 c.MaxChunk, .int .i64 1088, .int .i64 65536], .pointer (some ⟨w.heap.size, 17, none⟩), .int .i64 c.Rate, .agg #[.int .i64 c.Rate, .int .i64 1, .int .i64 1073741824], .pointer (some ⟨w.heap.size, 18, none⟩), .int .i64 c.Burst, .pointer (some ⟨w.heap.size, 16, none⟩), .int .i64 c.MaxChunk, .agg #[.int .i64 c.Burst, .int .i64 c.MaxChunk, .int .i64 1073741824], .pointer (some ⟨w.heap.size, 19, none⟩), .int .i64 c.SlowRate, .agg #[.int .i64 c.SlowRate, .int .i64 1, .int .i64 1073741824], .pointer (some ⟨w.heap.size, 20, none⟩), .int .i64 c.SlowBurst, .agg #[.int .i64 c.SlowBurst, .int .i64 17408, .int .i64 1073741824], .pointer (some ⟨w.heap.size, 21, none⟩), .int .i64 c.MaxGroup, .agg #[.int .i64 c.MaxGroup, .int .i64 1088, .int .i64 1048576], .pointer (some ⟨w.heap.size, 22, none⟩), .int .i64 c.MaxDebt, .agg #[.int .i64 c.MaxDebt, .int .i64 17408, .int .i64 16777216], .pointer (some ⟨w.heap.size, 23, none⟩), .int .i64 c.DebtStop, .agg (cfgC c), .int .i64 (debtLeastL c), .agg #[.int .i64 c.DebtStop, .int .i64 (debtLeastL c), .int .i64 1073741824], .pointer (some ⟨w.heap.size, 24, none⟩), .int .i64 c.Snapshots, .agg #[.int .i64 c.Snapshots, .int .i64 0, .int .i64 8], .pointer (some ⟨w.heap.size, 25, none⟩), .int .i64 c.ScanLimit, .agg #[.int .i64 c.ScanLimit, .int .i64 1, .int .i64 256], .pointer (some ⟨w.heap.size, 26, none⟩), .int .i64 c.MaxManifest, .agg #[.int .i64 c.MaxManifest, .int .i64 4096, .int .i64 1048576], undef], []⟩ : Act) by kernel_rfl)) ?_
  go_wp2
  go_ret
  have hz := HSZ.out
  have hs : w.heap.size ≤ W.heap.size := by have := hW.size; omega
  refine ⟨.slice (some ⟨W.heap.size, 0, none⟩) 27 27, by kernel_rfl, W.heap.size, rfl, hs, ?_, ?_⟩
  · exact Sl.of_block (l := spansL c) (enc := encSp) (fun _ => rfl) (heap_alloc_new W _) (by kernel_rfl) (by show 27 ≤ 9223372036854775807; omega)
  · exact (HBA.out.trans (hW.mono (by omega))).alloc hs _
end Go.Proofs.Ytjgpcbednhoplaa.H
