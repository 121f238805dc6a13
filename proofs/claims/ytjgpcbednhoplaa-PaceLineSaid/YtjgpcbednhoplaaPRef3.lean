/- pace's reference: right, MemCap, FileCap, DebtCap, Limit, LimitSum; they are pace's. Conditions: the fields are ints. -/
import Derived.Test.YtjgpcbednhoplaaPRef2
namespace Go.Proofs.Ytjgpcbednhoplaa.H
open Go.RowKit Go.Deep Go.Shelf Go.Proofs Go.Proofs.YtjgpcbednhoplaaW.PrintWords
set_option linter.unusedVariables false
set_option linter.unusedSimpArgs false
theorem firstBad_app : ∀ (p q : List (Int × Int × Int)) (i : Nat), firstBad i (p ++ q) = match firstBad i p with | some k => some k | none => firstBad (i + p.length) q
  | [], q, i => rfl
  | s :: p, q, i => by
    have := firstBad_app p q (i + 1)
    show (if badSp s then some i else firstBad (i + 1) (p ++ q)) = match (if badSp s then some i else firstBad (i + 1) p) with | some k => some k | none => firstBad (i + (p.length + 1)) q
    by_cases h : badSp s = true
    · simp [h]
    · rw [if_neg h, if_neg h, this, show i + 1 + p.length = i + (p.length + 1) by omega]
theorem bad_no {s : Int × Int × Int} (h : badSp s = false) : s.2.1 ≤ s.1 ∧ s.1 ≤ s.2.2 := by
  simp [badSp] at h
  omega
theorem spansM_app (c : Cfg) (m d : Int) : spansM c m d = (spansM c 0 0).take 7 ++ ([(c.L0Stop, m, 16)] ++ (((spansM c 0 0).drop 8).take 15 ++ ([(c.DebtStop, d, 1073741824)] ++ (spansM c 0 0).drop 24))) := rfl
theorem firstBad_pre {p q q' : List (Int × Int × Int)} {i : Nat} (h : firstBad i p = none → firstBad (i + p.length) q = firstBad (i + p.length) q') : firstBad i (p ++ q) = firstBad i (p ++ q') := by
  rw [firstBad_app, firstBad_app]
  cases e : firstBad i p with
  | none => exact h e
  | some k => rfl
theorem mem_no {p : List (Int × Int × Int)} {i : Nat} (h : firstBad i p = none) {x lo hi : Int} (hm : (x, lo, hi) ∈ p) : lo ≤ x ∧ x ≤ hi := bad_no ((firstBad_none i p).1 h _ hm)
theorem sadd_is {a b : Int} (h1 : -9223372036854775808 ≤ a + b) (h2 : a + b ≤ 9223372036854775807) : sadd a b = a + b := by
  unfold sadd sat
  repeat' split
  all_goals omega
theorem wrap_is {a : Int} (h1 : -9223372036854775808 ≤ a) (h2 : a ≤ 9223372036854775807) : wrap64 a = a := by
  unfold wrap64
  omega
theorem firstBad_eq (c : Cfg) : firstBad 0 (spansR c) = firstBad 0 (spansL c) := by
  unfold spansR spansL
  rw [spansM_app, spansM_app c (mxi c.L0Slow (sadd c.Flushers 1))]
  refine firstBad_pre fun h0 => ?_
  have hF := mem_no h0 (x := c.Flushers) (lo := 1) (hi := 2) (by simp [spansM])
  have hT := mem_no h0 (x := c.L0Trigger) (lo := 1) (hi := 16) (by simp [spansM])
  have hI := mem_no h0 (x := c.MaxImm) (lo := 1) (hi := 4) (by simp [spansM])
  have hM := mem_no h0 (x := c.MemBytes) (lo := 4096) (hi := 1048576) (by simp [spansM])
  have e1 : wrap64 (c.Flushers + 1) = c.Flushers + 1 := wrap_is (by omega) (by omega)
  have e2 : sadd c.Flushers 1 = c.Flushers + 1 := sadd_is (by omega) (by omega)
  rw [e1, e2]
  clear h0
  refine firstBad_pre fun _ => firstBad_pre fun h1 => ?_
  have hG := mem_no h1 (x := c.MaxGroup) (lo := 1088) (hi := 1048576) (by simp [spansM])
  have hx : 1088 ≤ mxi c.MaxGroup 17408 ∧ mxi c.MaxGroup 17408 ≤ 1048576 := by unfold mxi; split <;> omega
  have e3 : memRL c = c.MemBytes - 1 + mxi c.MaxGroup 17408 := by
    unfold memRL
    rw [wrap_is (a := c.MemBytes - 1) (by omega) (by omega), wrap_is (by omega) (by omega)]
  have e4 : memCapL c = c.MemBytes - 1 + mxi c.MaxGroup 17408 := by
    unfold memCapL
    rw [sadd_is (a := c.MemBytes) (by omega) (by omega), sadd_is (by omega) (by omega)]
    omega
  have hp : 0 ≤ (c.L0Trigger + c.MaxImm + 2) * (c.MemBytes - 1 + mxi c.MaxGroup 17408) ∧ (c.L0Trigger + c.MaxImm + 2) * (c.MemBytes - 1 + mxi c.MaxGroup 17408) ≤ 22 * 2097152 := by
    constructor
    · exact Int.mul_nonneg (by omega) (by omega)
    · exact Int.mul_le_mul (by omega) (by omega) (by omega) (by omega)
  have e5 : debtRL c = (c.L0Trigger + c.MaxImm + 2) * (c.MemBytes - 1 + mxi c.MaxGroup 17408) + 1 := by
    unfold debtRL
    rw [e3, wrap_is (a := c.L0Trigger + c.MaxImm) (by omega) (by omega), wrap_is (a := c.L0Trigger + c.MaxImm + 2) (by omega) (by omega)]
    generalize (c.L0Trigger + c.MaxImm + 2) * (c.MemBytes - 1 + mxi c.MaxGroup 17408) = p at hp ⊢
    rw [wrap_is (a := p) (by omega) (by omega), wrap_is (by omega) (by omega)]
  have e6 : debtLeastL c = (c.L0Trigger + c.MaxImm + 2) * (c.MemBytes - 1 + mxi c.MaxGroup 17408) + 1 := by
    unfold debtLeastL smul
    rw [e4, sadd_is (a := c.L0Trigger) (by omega) (by omega), sadd_is (a := c.L0Trigger + c.MaxImm) (by omega) (by omega)]
    generalize (c.L0Trigger + c.MaxImm + 2) * (c.MemBytes - 1 + mxi c.MaxGroup 17408) = p at hp ⊢
    rw [sat_in ⟨by omega, by omega⟩, sadd_is (by omega) (by omega)]
  rw [e5, e6]
theorem memR_eq {c : Cfg} (h : rightL c = true) : memRL c = memCapL c := by
  have hM := right_in h (x := c.MemBytes) (lo := 4096) (hi := 1048576) (by simp [spansL, spansM])
  have hG := right_in h (x := c.MaxGroup) (lo := 1088) (hi := 1048576) (by simp [spansL, spansM])
  have hx : 1088 ≤ mxi c.MaxGroup 17408 ∧ mxi c.MaxGroup 17408 ≤ 1048576 := by unfold mxi; split <;> omega
  unfold memRL memCapL
  rw [wrap_is (a := c.MemBytes - 1) (by omega) (by omega), wrap_is (by omega) (by omega), sadd_is (a := c.MemBytes) (by omega) (by omega), sadd_is (by omega) (by omega)]
  omega
theorem sadd_zero {x : Int} (h : I64 x) : sadd x 0 = x := by unfold sadd; rw [Int.add_zero, sat_in h]
theorem limit_high {c : Cfg} {lv : Int} (h : c.Levels - 2 < lv) : limitL c lv = 0 := by unfold limitL; rw [if_pos (by omega)]
theorem limSum_eq (c : Cfg) : limitSumL c = limSumI c 4 1 0 := by
  unfold limitSumL
  rcases hr : rightL c with _ | _
  · have e : ∀ k, limitL c k = 0 := fun k => by simp [limitL, hr]
    simp [limSumI, e]
    rfl
  · rw [if_pos rfl]
    have hL := right_in hr (x := c.Levels) (lo := 3) (hi := 5) (by simp [spansL, spansM])
    have h0 : limitL c 0 = 0 := by simp [limitL]
    have hs := sadd_I64
    obtain hl | hl | hl : c.Levels = 3 ∨ c.Levels = 4 ∨ c.Levels = 5 := by omega
    · rw [hl]
      have h2 := limit_high (c := c) (lv := 2) (by omega)
      have h3 := limit_high (c := c) (lv := 3) (by omega)
      have h4 := limit_high (c := c) (lv := 4) (by omega)
      show sadd (sadd (sadd 0 (limitL c 0)) (limitL c 1)) (limitL c 2) = sadd (sadd (sadd (sadd 0 (limitL c 1)) (limitL c 2)) (limitL c 3)) (limitL c 4)
      rw [h0, h2, h3, h4, sadd_zero (x := 0) ⟨by omega, by omega⟩, sadd_zero (hs _ _), sadd_zero (hs _ _), sadd_zero (hs _ _)]
    · rw [hl]
      have h3 := limit_high (c := c) (lv := 3) (by omega)
      have h4 := limit_high (c := c) (lv := 4) (by omega)
      show sadd (sadd (sadd (sadd 0 (limitL c 0)) (limitL c 1)) (limitL c 2)) (limitL c 3) = sadd (sadd (sadd (sadd 0 (limitL c 1)) (limitL c 2)) (limitL c 3)) (limitL c 4)
      rw [h0, h3, h4, sadd_zero (x := 0) ⟨by omega, by omega⟩, sadd_zero (hs _ _)]
      exact (sadd_zero (hs _ _)).symm
    · rw [hl]
      show sadd (sadd (sadd (sadd (sadd 0 (limitL c 0)) (limitL c 1)) (limitL c 2)) (limitL c 3)) (limitL c 4) = sadd (sadd (sadd (sadd 0 (limitL c 1)) (limitL c 2)) (limitL c 3)) (limitL c 4)
      rw [h0, sadd_zero (x := 0) ⟨by omega, by omega⟩]
set_option maxHeartbeats 1600000 in
set_option maxRecDepth 100000 in
theorem rightR_c (c : Cfg) (hc : CfgOk c) (w : World) : Calls Try.prog 64 #[cfgV c] w fun e w' => e = .returned (.bool (rightL c)) ∧ Below w.heap.size w w' := by
  have HSP := Lib.hid (fun W => (by rw [← firstBad_eq]; exact CheckR_c c hc W : Calls Try.prog 13 #[cfgV c] W (ChkE W (firstBad 0 (spansL c)))))
  have HBX := Lib.hid (cfgBlk c w)
  have HBA := Lib.hid ((Below.refl w.heap.size w).alloc (Nat.le_refl _) (.cells (cfgC c) 23))
  have HR := Lib.hid (show rightL c = (firstBad 0 (spansL c)).isNone from rfl)
  clear hc
  unfold cfgV at *
  go_enter Try.func64, Try.ntmps64
  go_wp2_with (refine wpList_load_row rfl 23 (.tmp 1) rfl _ rfl _ _ _ _ HBX.out Try.underlying23 rfl (iCfg c) ?_)
  generalize w.alloc (.cells (cfgC c) 23) = wa at *
  refine (HSP.out _).mono ?_
  rintro e w1 ⟨rfl, hb1⟩
  have HB1 := Lib.hid (HBA.out.trans (hb1.mono HBA.out.size))
  clear hb1
  rcases ho : firstBad 0 (spansL c) with _ | i
  · have e0 : rightL c = true := by simp [rightL, ho]
    have HR := Lib.hid e0
    clear e0 ho
    simp only [chkV]
    go_wp2
    go_ret
    exact ⟨by rw [HR.out]; rfl, HB1.out⟩
  · have e0 : rightL c = false := by simp [rightL, ho]
    have HR := Lib.hid e0
    clear e0 ho
    simp only [chkV]
    go_wp2
    go_ret
    exact ⟨by rw [HR.out]; rfl, HB1.out⟩
set_option maxHeartbeats 1600000 in
set_option maxRecDepth 100000 in
theorem MemCapR_c (c : Cfg) (hc : CfgOk c) (w : World) : Calls Try.prog 29 #[cfgV c] w fun e w' => e = .returned (.int .i64 (memCapR c)) ∧ Below w.heap.size w w' := by
  have HSP := Lib.hid (fun W => rightR_c c hc W)
  have HM := Lib.hid (fun W => memR_c c hc W)
  have HBX := Lib.hid (cfgBlk c w)
  have HBA := Lib.hid ((Below.refl w.heap.size w).alloc (Nat.le_refl _) (.cells (cfgC c) 23))
  have HSZ := Lib.hid (World.size_alloc w (.cells (cfgC c) 23))
  have HR := Lib.hid (show memCapR c = if rightL c = true then memCapL c else 0 from rfl)
  clear hc
  unfold cfgV at *
  go_enter Try.func29, Try.ntmps29
  go_wp2_with (refine wpList_load_row rfl 23 (.tmp 1) rfl _ rfl _ _ _ _ HBX.out Try.underlying23 rfl (iCfg c) ?_)
  generalize w.alloc (.cells (cfgC c) 23) = wa at *
  refine (HSP.out _).mono ?_
  rintro e w1 ⟨rfl, hb1⟩
  have HB1 := Lib.hid (HBA.out.trans (hb1.mono HBA.out.size))
  have HX1 := Lib.hid ((hb1.block w.heap.size (by rw [HSZ.out]; omega)).trans HBX.out)
  clear hb1
  rcases hr : rightL c with _ | _
  · have e0 : memCapR c = 0 := by simp [memCapR, hr]
    have HR := Lib.hid e0
    clear e0
    go_wp2
    go_ret
    exact ⟨by rw [HR.out]; rfl, HB1.out⟩
  · have e0 : memCapR c = memCapL c := by simp [memCapR, hr]
    have HR := Lib.hid (e0.trans (memR_eq hr).symm)
    clear e0
    go_wp2_with (refine wpList_load_row rfl 23 (.tmp 1) rfl _ rfl _ _ _ _ HX1.out Try.underlying23 rfl (iCfg c) ?_)
    refine (HM.out _).mono ?_
    rintro e w2 ⟨rfl, hb2⟩
    have HB2 := Lib.hid (HB1.out.trans (hb2.mono HB1.out.size))
    clear hb2
    go_wp2
    go_ret
    exact ⟨by rw [HR.out]; rfl, HB2.out⟩
set_option maxHeartbeats 1600000 in
set_option maxRecDepth 100000 in
theorem FileCapR_c (c : Cfg) (hc : CfgOk c) (w : World) : Calls Try.prog 31 #[cfgV c] w fun e w' => e = .returned (.int .i64 (fileCapR c)) ∧ Below w.heap.size w w' := by
  have HSP := Lib.hid (fun W => rightR_c c hc W)
  have HBX := Lib.hid (cfgBlk c w)
  have HBA := Lib.hid ((Below.refl w.heap.size w).alloc (Nat.le_refl _) (.cells (cfgC c) 23))
  have HSZ := Lib.hid (World.size_alloc w (.cells (cfgC c) 23))
  clear hc
  unfold cfgV at *
  go_enter Try.func31, Try.ntmps31
  go_wp2_with (refine wpList_load_row rfl 23 (.tmp 1) rfl _ rfl _ _ _ _ HBX.out Try.underlying23 rfl (iCfg c) ?_)
  generalize w.alloc (.cells (cfgC c) 23) = wa at *
  refine (HSP.out _).mono ?_
  rintro e w1 ⟨rfl, hb1⟩
  have HB1 := Lib.hid (HBA.out.trans (hb1.mono HBA.out.size))
  have HX1 := Lib.hid ((hb1.block w.heap.size (by rw [HSZ.out]; omega)).trans HBX.out)
  clear hb1
  rcases hr : rightL c with _ | _
  · have e0 : fileCapR c = 0 := by simp [fileCapR, hr]
    have HR := Lib.hid e0
    clear e0
    go_wp2
    go_ret
    exact ⟨by rw [HR.out]; rfl, HB1.out⟩
  · have e0 : fileCapR c = c.FileBytes - 1 + 1088 := by simp [fileCapR, hr]
    have HR := Lib.hid e0
    clear e0
    have c11 : w1.cell? ⟨w.heap.size, 11, none⟩ = some (.int .i64 c.FileBytes) := (blk_cell HX1.out 11).trans rfl
    have i1 := right_in hr (x := c.FileBytes) (lo := 2048) (hi := 1048576) (by simp [spansL, spansM])
    clear hr
    go_wp2
    go_ret
    exact ⟨by rw [HR.out]; rfl, HB1.out⟩
set_option maxHeartbeats 1600000 in
set_option maxRecDepth 100000 in
theorem DebtCapR_c (c : Cfg) (hc : CfgOk c) (w : World) : Calls Try.prog 33 #[cfgV c] w fun e w' => e = .returned (.int .i64 (debtCapR c)) ∧ Below w.heap.size w w' := by
  have HSP := Lib.hid (fun W => rightR_c c hc W)
  have HBX := Lib.hid (cfgBlk c w)
  have HBA := Lib.hid ((Below.refl w.heap.size w).alloc (Nat.le_refl _) (.cells (cfgC c) 23))
  have HSZ := Lib.hid (World.size_alloc w (.cells (cfgC c) 23))
  clear hc
  unfold cfgV at *
  go_enter Try.func33, Try.ntmps33
  go_wp2_with (refine wpList_load_row rfl 23 (.tmp 1) rfl _ rfl _ _ _ _ HBX.out Try.underlying23 rfl (iCfg c) ?_)
  generalize w.alloc (.cells (cfgC c) 23) = wa at *
  refine (HSP.out _).mono ?_
  rintro e w1 ⟨rfl, hb1⟩
  have HB1 := Lib.hid (HBA.out.trans (hb1.mono HBA.out.size))
  have HX1 := Lib.hid ((hb1.block w.heap.size (by rw [HSZ.out]; omega)).trans HBX.out)
  clear hb1
  rcases hr : rightL c with _ | _
  · have e0 : debtCapR c = 0 := by simp [debtCapR, hr]
    have HR := Lib.hid e0
    clear e0
    go_wp2
    go_ret
    exact ⟨by rw [HR.out]; rfl, HB1.out⟩
  · have e0 : debtCapR c = c.DebtStop - 1 + c.MaxDebt := by simp [debtCapR, hr]
    have HR := Lib.hid e0
    clear e0
    have c23 : w1.cell? ⟨w.heap.size, 23, none⟩ = some (.int .i64 c.DebtStop) := (blk_cell HX1.out 23).trans rfl
    have c22 : w1.cell? ⟨w.heap.size, 22, none⟩ = some (.int .i64 c.MaxDebt) := (blk_cell HX1.out 22).trans rfl
    have i1 := right_in hr (x := c.MaxDebt) (lo := 17408) (hi := 16777216) (by simp [spansL, spansM])
    have i2 := right_in hr (x := c.DebtStop) (lo := debtLeastL c) (hi := 1073741824) (by simp [spansL, spansM])
    have i3 := debtLeast_lo c
    clear hr
    go_wp2
    go_ret
    exact ⟨by rw [HR.out]; rfl, HB1.out⟩
set_option maxHeartbeats 1600000 in
set_option maxRecDepth 100000 in
theorem LimitR_c (c : Cfg) (hc : CfgOk c) (lv : Int) (hlv : I64 lv) (w : World) : Calls Try.prog 25 #[cfgV c, .int .i64 lv] w fun e w' => e = .returned (.int .i64 (limitL c lv)) ∧ Below w.heap.size w w' := by
  have HSP := Lib.hid (fun W => rightR_c c hc W)
  have HBX := Lib.hid (cfgBlk c w)
  have HBA := Lib.hid ((Below.refl w.heap.size w).alloc (Nat.le_refl _) (.cells (cfgC c) 23))
  have HSZ := Lib.hid (World.size_alloc w (.cells (cfgC c) 23))
  have k9 : I64 c.Base := hc _ (by simp [Cfg.l])
  have k10 : I64 c.Mult := hc _ (by simp [Cfg.l])
  have HB9 := Lib.hid k9
  have HB10 := Lib.hid k10
  clear hc k9 k10
  obtain ⟨l1, l2⟩ := hlv
  unfold cfgV at *
  go_enter Try.func25, Try.ntmps25
  go_wp2_with (refine wpList_load_row rfl 23 (.tmp 2) rfl _ rfl _ _ _ _ HBX.out Try.underlying23 rfl (iCfg c) ?_)
  generalize w.alloc (.cells (cfgC c) 23) = wa at *
  refine (HSP.out _).mono ?_
  rintro e w1 ⟨rfl, hb1⟩
  have HB1 := Lib.hid (HBA.out.trans (hb1.mono HBA.out.size))
  have HX1 := Lib.hid ((hb1.block w.heap.size (by rw [HSZ.out]; omega)).trans HBX.out)
  have HS1 := Lib.hid (show w.heap.size < w1.heap.size by have := hb1.size; rw [HSZ.out] at this; omega)
  clear hb1
  rcases hr : rightL c with _ | _
  · have HR := Lib.hid (show limitL c lv = 0 by simp [limitL, hr])
    go_wp2
    go_ret
    exact ⟨by rw [HR.out]; rfl, HB1.out⟩
  by_cases h0 : lv < 1
  · have HR := Lib.hid (show limitL c lv = 0 by simp [limitL, h0])
    go_wp2
    go_ret
    exact ⟨by rw [HR.out]; rfl, HB1.out⟩
  have h0' : decide (lv < 1) = false := by simpa using h0
  have c8 : w1.cell? ⟨w.heap.size, 8, none⟩ = some (.int .i64 c.Levels) := (blk_cell HX1.out 8).trans rfl
  obtain ⟨j1, j2⟩ := right_in hr (x := c.Levels) (lo := 3) (hi := 5) (by simp [spansL, spansM])
  by_cases h3 : lv > c.Levels - 2
  · have HR := Lib.hid (show limitL c lv = 0 by simp [limitL, h3])
    clear hr
    go_wp2
    go_ret
    exact ⟨by rw [HR.out]; rfl, HB1.out⟩
  have HR := Lib.hid (show limitL c lv = limIter c.Mult (lv - 1).toNat c.Base by unfold limitL; rw [if_neg (by rw [hr]; simp; omega)])
  have c9 : w1.cell? ⟨w.heap.size, 9, none⟩ = some (.int .i64 c.Base) := (blk_cell HX1.out 9).trans rfl
  obtain ⟨n, hn⟩ : ∃ n : Nat, (n : Int) = lv - 1 := ⟨(lv - 1).toNat, by omega⟩
  rw [show (lv - 1).toNat = n by omega] at HR
  have hn1 : 1 ≤ lv := by omega
  have hn3 : lv ≤ 3 := by omega
  have HN := Lib.hid hn
  have h3' : lv ≤ c.Levels - 2 := by omega
  clear hr h3 h0 h0' l1 l2 hn
  go_wp2
  go_loopw [5, 6] (fun s5 s6 wr => ∃ (k : Nat) (x : Int), s6 = .int .i64 ((k : Int) + 1) ∧ k ≤ n ∧ s5 = .int .i64 x ∧ I64 x ∧ limIter c.Mult (n - k) x = limIter c.Mult n c.Base ∧ wr = w1) (fun _ s6 _ => n + 1 - (intOf s6).toNat)
  case atStart => exact ⟨0, c.Base, rfl, by omega, rfl, HB9.out, rfl, rfl⟩
  case round =>
    obtain ⟨k, x, rfl, hk, rfl, hx, hL, rfl⟩ := hrel
    have HL := Lib.hid hL
    have HXX := Lib.hid hx
    clear hL hx
    by_cases hkn : k < n
    · have i1 : (k : Int) + 1 < lv := by have := HN.out; omega
      have i2 : (0 : Int) ≤ k := by omega
      have c10 : wr.cell? ⟨w.heap.size, 10, none⟩ = some (.int .i64 c.Mult) := (blk_cell HX1.out 10).trans rfl
      go_wp2_with fail
      refine (mulR_c _ _ HXX.out HB10.out _).mono ?_
      rintro e w2 ⟨rfl, rfl⟩
      go_wp2
      go_roundw
      case rel => exact ⟨k + 1, smul x c.Mult, by go_num, by omega, rfl, smul_I64 _ _, by rw [← HL.out, show n - k = (n - (k + 1)) + 1 by omega]; rfl, by trivial⟩
      case measure => simp [intOf]; omega
    · have hk' : k = n := by omega
      have i1 : ¬ (k : Int) + 1 < lv := by have := HN.out; omega
      have hk2 : n = k := hk'.symm
      subst hk2
      go_wp2
      go_ret
      exact ⟨by rw [HR.out, ← HL.out, Nat.sub_self]; rfl, HB1.out⟩
set_option maxHeartbeats 1600000 in
set_option maxRecDepth 100000 in
theorem LimitSumR_c (c : Cfg) (hc : CfgOk c) (w : World) : Calls Try.prog 27 #[cfgV c] w fun e w' => e = .returned (.int .i64 (limitSumL c)) ∧ Below w.heap.size w w' := by
  have HLM := Lib.hid (fun (lv : Int) (h : I64 lv) W => LimitR_c c hc lv h W)
  have HLI := Lib.hid (fun (lv : Int) => limitL_I64 c hc lv)
  have HBX := Lib.hid (cfgBlk c w)
  have HBA := Lib.hid ((Below.refl w.heap.size w).alloc (Nat.le_refl _) (.cells (cfgC c) 23))
  have HS1 := Lib.hid (show w.heap.size < (w.alloc (.cells (cfgC c) 23)).heap.size by rw [World.size_alloc]; omega)
  have HR := Lib.hid (limSum_eq c)
  clear hc
  unfold cfgV at *
  go_enter Try.func27, Try.ntmps27
  go_wp2_with fail
  generalize w.alloc (.cells (cfgC c) 23) = wa at *
  go_loopw [3, 4] (fun s3 s4 wr => ∃ (k : Nat) (x : Int), s4 = .int .i64 ((k : Int) + 1) ∧ k ≤ 4 ∧ s3 = .int .i64 x ∧ I64 x ∧ limSumI c (4 - k) (k + 1) x = limSumI c 4 1 0 ∧ Below wa.heap.size wa wr) (fun _ s4 _ => 5 - (intOf s4).toNat)
  case atStart => exact ⟨0, 0, rfl, by omega, rfl, I64.lit (by omega) (by omega), rfl, Below.refl _ _⟩
  case round =>
    obtain ⟨k, x, rfl, hk, rfl, hx, hL, hB⟩ := hrel
    have HL := Lib.hid hL
    have HXX := Lib.hid hx
    have HB := Lib.hid hB
    have HXR := Lib.hid ((hB.block w.heap.size HS1.out).trans HBX.out)
    clear hL hx hB
    by_cases hkn : k < 4
    · have i1 : (k : Int) + 1 < 5 := by omega
      have i2 : (0 : Int) ≤ k := by omega
      have HK := Lib.hid (show I64 ((k : Int) + 1) from I64.lit (by omega) (by omega))
      go_wp2_with (refine wpList_load_row rfl 23 (.tmp 1) rfl _ rfl _ _ _ _ HXR.out Try.underlying23 rfl (iCfg c) ?_)
      refine (HLM.out _ HK.out _).mono ?_
      rintro e w2 ⟨rfl, hb2⟩
      have HB2 := Lib.hid (HB.out.trans (hb2.mono HB.out.size))
      clear hb2
      go_wp2_with fail
      refine (addR_c _ _ HXX.out (HLI.out _) _).mono ?_
      rintro e w3 ⟨rfl, rfl⟩
      go_wp2
      go_roundw
      case rel => exact ⟨k + 1, sadd x (limitL c ((k : Int) + 1)), by go_num, by omega, rfl, sadd_I64 _ _, by rw [← HL.out, show 4 - k = (4 - (k + 1)) + 1 by omega]; rfl, HB2.out⟩
      case measure => simp [intOf]; omega
    · have hk' : k = 4 := by omega
      subst hk'
      go_wp2
      go_ret
      exact ⟨by rw [HR.out, ← HL.out]; rfl, HBA.out.trans (HB.out.mono HBA.out.size)⟩
end Go.Proofs.Ytjgpcbednhoplaa.H
