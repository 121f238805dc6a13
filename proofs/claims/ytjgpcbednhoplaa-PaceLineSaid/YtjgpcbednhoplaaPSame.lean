/- sameInts; example; known. Conditions: the slices are there. -/
import Derived.Test.YtjgpcbednhoplaaPBuck2
import Derived.Deep.WholeRow
namespace Go.Proofs.Ytjgpcbednhoplaa.H
open Go.RowKit Go.Deep Go.Shelf Go.Proofs Go.Proofs.YtjgpcbednhoplaaW.PrintWords
set_option linter.unusedVariables false
set_option linter.unusedSimpArgs false
theorem wpList_buildIs {P : Program} {ops : Array Oper} {rest : List Oper} {o : Oper} {a : Act} {w : World} {Q : Exit → Act → World → Prop} (hg : o.guard = none) (t : TypeId) (parts : Array (Nat × Operand)) (ho : o.op = .build t parts) (cells : Array Value)
    (hf : P.built t (parts.map fun (i, x) => (i, a.eval x)).toList = some cells) (h : wpList P ops Q rest (a.put o.dst (.agg cells)) w) : wpList P ops Q (o :: rest) a w :=
  wpList_build hg t parts ho (by rw [hf]; rfl) (by rw [hf]; exact h)
theorem drewN_two (w : World) (a b : Nat) : (w.drewN a).drewN b = w.drewN (a + b) := by simp [World.drewN, Nat.add_assoc]
set_option maxHeartbeats 1600000 in
theorem sameInts_c (A1 : Option Addr) (c1 : Nat) (l1 : List Int) (A2 : Option Addr) (c2 : Nat) (l2 : List Int) (w : World) (h1 : Sl encI 1 w A1 l1) (h2 : Sl encI 1 w A2 l2) :
    Calls Try.prog 18 #[.slice A1 l1.length c1, .slice A2 l2.length c2] w fun e w' => e = .returned (.bool (decide (l1 = l2))) ∧ ∃ n, w' = w.drewN n := by
  have hm1 := h1.1
  have hm2 := h2.1
  by_cases hn : l1.length = l2.length
  · obtain ⟨n, e1⟩ : ∃ n, l1.length = n := ⟨_, rfl⟩
    have e2 : l2.length = n := hn.symm.trans e1
    rw [e1, e2]
    rw [e1] at hm1
    have HNN := Lib.hid e1
    have HN := Lib.hid e2
    have HS1 := Lib.hid h1
    have HS2 := Lib.hid h2
    have i0 : (n : Int) ≤ 9223372036854775807 := by omega
    clear h1 h2 hn hm1 hm2 e1 e2
    go_enter Try.func18, Try.ntmps18
    go_wp2
    go_loopw [5] (fun s5 wr => ∃ (k nq : Nat), s5 = .int .i64 k ∧ k ≤ n ∧ l1.take k = l2.take k ∧ wr = w.drewN nq) (fun s5 _ => n - (intOf s5).toNat)
    case atStart => exact ⟨0, 0, rfl, by omega, rfl, rfl⟩
    case round =>
      obtain ⟨k, nq, rfl, hk, ht, rfl⟩ := hrel
      have HT := Lib.hid ht
      clear ht
      have i1 : (0 : Int) ≤ k := by omega
      by_cases hlt : k < n
      · have i2 : (k : Int) < n := by omega
        obtain ⟨x, hx⟩ := getElem?_of_lt (l := l1) (by have := HNN.out; omega : k < l1.length)
        obtain ⟨y, hy⟩ := getElem?_of_lt (l := l2) (by have := HN.out; omega : k < l2.length)
        obtain ⟨b1, o1, rfl, hb1, hc1⟩ := HS1.out.at hx
        obtain ⟨b2, o2, rfl, hb2, hc2⟩ := HS2.out.at hy
        have a1 : w.cell? ⟨b1, o1 + k, none⟩ = some (.int .i64 x) := by simpa using hc1 0 _ rfl
        have a2 : w.cell? ⟨b2, o2 + k, none⟩ = some (.int .i64 y) := by simpa using hc2 0 _ rfl
        have HX := Lib.hid hx
        have HY := Lib.hid hy
        clear hc1 hc2 hx hy hb1 hb2
        by_cases he : x = y
        · have d1 : decide (x = y) = true := by simpa using he
          subst he
          go_wp2_with fail
          go_quiet (fail)
          go_wp2
          go_roundw
          case rel =>
            refine ⟨k + 1, _, by go_num, by omega, ?_, rfl⟩
            rw [List.take_add_one, List.take_add_one, HX.out, HY.out, HT.out]
          case measure => simp [intOf]; omega
        · have d1 : (x == y) = false := by simpa using he
          have HE := Lib.hid he
          clear he
          go_wp2_with fail
          go_quiet (fail)
          go_wp2
          go_ret
          refine ⟨?_, _, drewN_two _ _ _⟩
          have : decide (l1 = l2) = false := by
            apply decide_eq_false
            intro e
            have this := HX.out
            rw [e, HY.out] at this
            injection this with this
            exact HE.out this.symm
          rw [this]; rfl
      · have hk : k = n := by omega
        have i2 : ¬ (k : Int) < n := by omega
        go_wp2
        go_ret
        refine ⟨?_, _, rfl⟩
        have : decide (l1 = l2) = true := by
          apply decide_eq_true
          have := HT.out
          rw [hk] at this
          rwa [List.take_of_length_le (by rw [HNN.out]; exact Nat.le_refl _), List.take_of_length_le (by rw [HN.out]; exact Nat.le_refl _)] at this
        rw [this]; rfl
  · have hne : decide (l1 = l2) = false := by
      apply decide_eq_false
      rintro rfl
      exact hn rfl
    have HNE := Lib.hid hne
    generalize l1.length = n1 at *
    generalize l2.length = n2 at *
    have i0 : (n1 : Int) ≤ 9223372036854775807 := by omega
    have i1 : (n2 : Int) ≤ 9223372036854775807 := by omega
    have i2 : (n1 : Int) ≠ (n2 : Int) := by omega
    clear h1 h2 hne hm1 hm2
    go_enter Try.func18, Try.ntmps18
    go_wp2
    go_ret
    exact ⟨by rw [HNE.out]; rfl, 0, rfl⟩
def exC (d : Int) : Cfg := { Clients := 1, Flushers := 1, Compactors := 1, MemBytes := 4096, MaxImm := 1, L0Trigger := 1, L0Slow := 1, L0Stop := 2, Levels := 3, Base := 4096, Mult := 2, FileBytes := 2048, Fan := 1, BlockBytes := 64, Restart := 1, BloomBits := 0, MaxChunk := 1088, Rate := 1, Burst := 1088, SlowRate := 1, SlowBurst := 17408, MaxGroup := 1088, MaxDebt := 17408, DebtStop := d, Snapshots := 0, ScanLimit := 1, MaxManifest := 4096 }
theorem exOk (d : Int) (h : I64 d) : CfgOk (exC d) := by
  intro x hx
  simp only [Cfg.l, exC, List.mem_cons, List.not_mem_nil, or_false] at hx
  unfold I64 at h ⊢
  omega
theorem ex1 : firstBad 0 (spansL (exC 86013)) = none := by decide +kernel
theorem ex2 : firstBad 0 (spansL (exC 86012)) = some 23 := by decide +kernel
theorem ex3 : memCapR (exC 86013) = 21503 := by decide +kernel
theorem ex4 : limitSumL (exC 86013) = 4096 := by decide +kernel
theorem ex5 : fileCapR (exC 86013) = 3135 := by decide +kernel
theorem ex6 : debtCapR (exC 86013) = 103420 := by decide +kernel
theorem ex7 : memCapR (exC 86012) = 0 := by decide +kernel
set_option maxRecDepth 100000 in
theorem example_c (w : World) : Calls Try.prog 48 #[] w fun e w' => e = .returned (cfgV (exC 86013)) ∧ Below w.heap.size w w' := by
  have HBX := Lib.hid (cfgBlk (exC 86013) w)
  have HBA := Lib.hid ((Below.refl w.heap.size w).alloc (Nat.le_refl _) (.cells (cfgC (exC 86013)) 23))
  go_enter Try.func48, Try.ntmps48
  go_wp2_with (refine stopAt 1 rfl ?_)
  refine ⟨?_⟩
  refine wpList_buildIs rfl 23 _ rfl (cfgC (exC 86013)) (by kernel_rfl) ?_
  refine wpList_store_row rfl 23 (.tmp 0) (.tmp 1) rfl w.heap.size (cfgC (exC 86013)) (by kernel_rfl) (by kernel_rfl) 23 _ (heap_alloc_new w _) (iCfg _) (by kernel_rfl) (by kernel_rfl) ?_
  rw [World.setRow_alloc_new]
  refine Eq.mpr (congrArg (fun a => wpList _ _ _ _ a _) (show _ = (⟨#[.pointer (some ⟨w.heap.size, 0, none⟩), .agg (cfgC (exC 86013))], []⟩ : Act) by kernel_rfl)) ?_
  generalize w.alloc (.cells (cfgC (exC 86013)) 23) = wa at *
  go_wp2
  trace_state
  refine bodyPost_ret (results_cell_row rfl _ _ w.heap.size 23 (cfgC (exC 86013)) (0, 0) _ (by rfl) HBX.out Try.underlying23 rfl (iCfg _)) rfl ?_
  exact ⟨rfl, HBA.out⟩
end Go.Proofs.Ytjgpcbednhoplaa.H
