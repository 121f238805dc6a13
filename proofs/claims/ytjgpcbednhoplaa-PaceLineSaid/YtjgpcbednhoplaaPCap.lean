/- pace: right, MemCap, FileCap, DebtCap. Conditions: the fields are ints. -/
import Derived.Test.YtjgpcbednhoplaaPChk
namespace Go.Proofs.Ytjgpcbednhoplaa.H
open Go.RowKit Go.Deep Go.Shelf Go.Proofs Go.Proofs.YtjgpcbednhoplaaW.PrintWords
set_option linter.unusedVariables false
set_option linter.unusedSimpArgs false
theorem firstBad_none : ∀ (i : Nat) (l : List (Int × Int × Int)), firstBad i l = none ↔ ∀ s ∈ l, badSp s = false
  | _, [] => by simp [firstBad]
  | i, s :: l => by
    have := firstBad_none (i + 1) l
    by_cases h : badSp s = true
    · simp [firstBad, h]
    · simp [firstBad, h, this]
def rightL (c : Cfg) : Bool := (firstBad 0 (spansL c)).isNone
theorem right_in {c : Cfg} (h : rightL c = true) {x lo hi : Int} (hs : (x, lo, hi) ∈ spansL c) : lo ≤ x ∧ x ≤ hi := by
  have := (firstBad_none 0 (spansL c)).1 (by simpa [rightL] using h) _ hs
  simp [badSp] at this
  omega
set_option maxHeartbeats 1600000 in
set_option maxRecDepth 100000 in
theorem right_c (c : Cfg) (hc : CfgOk c) (w : World) : Calls Try.prog 61 #[cfgV c] w fun e w' => e = .returned (.bool (rightL c)) ∧ Below w.heap.size w w' := by
  have HSP := Lib.hid (fun W => Check_c c hc W)
  have HBX := Lib.hid (cfgBlk c w)
  have HBA := Lib.hid ((Below.refl w.heap.size w).alloc (Nat.le_refl _) (.cells (cfgC c) 23))
  have HR := Lib.hid (show rightL c = (firstBad 0 (spansL c)).isNone from rfl)
  clear hc
  unfold cfgV at *
  go_enter Try.func61, Try.ntmps61
  go_wp2_with (refine wpList_load_row rfl 23 (.tmp 1) rfl _ rfl _ _ _ _ HBX.out Try.underlying23 rfl (iCfg c) ?_)
  generalize w.alloc (.cells (cfgC c) 23) = wa at *
  refine (HSP.out _).mono ?_
  rintro e w1 ⟨rfl, hb1⟩
  have HB1 := Lib.hid (HBA.out.trans (hb1.mono HBA.out.size))
  clear hb1
  rcases ho : firstBad 0 (spansL c) with _ | i
  · have e0 : rightL c = true := by simp [rightL, ho]
    have HR := Lib.hid e0
    clear e0 ho
    simp only [chkV]
    go_wp2
    go_ret
    exact ⟨by rw [HR.out]; rfl, HB1.out⟩
  · have e0 : rightL c = false := by simp [rightL, ho]
    have HR := Lib.hid e0
    clear e0 ho
    simp only [chkV]
    go_wp2
    go_ret
    exact ⟨by rw [HR.out]; rfl, HB1.out⟩
theorem debtLeast_lo (c : Cfg) : -9223372036854775807 ≤ debtLeastL c := by
  obtain ⟨x, hx, h1⟩ : ∃ x, debtLeastL c = sadd x 1 ∧ I64 x := ⟨_, rfl, smul_I64 _ _⟩
  rw [hx]
  have := h1.1
  unfold sadd sat
  repeat' split
  all_goals omega
def memCapR (c : Cfg) : Int := if rightL c = true then memCapL c else 0
def fileCapR (c : Cfg) : Int := if rightL c = true then c.FileBytes - 1 + 1088 else 0
def debtCapR (c : Cfg) : Int := if rightL c = true then c.DebtStop - 1 + c.MaxDebt else 0
set_option maxHeartbeats 1600000 in
set_option maxRecDepth 100000 in
theorem MemCap_c (c : Cfg) (hc : CfgOk c) (w : World) : Calls Try.prog 28 #[cfgV c] w fun e w' => e = .returned (.int .i64 (memCapR c)) ∧ Below w.heap.size w w' := by
  have HSP := Lib.hid (fun W => right_c c hc W)
  have HM := Lib.hid (fun W => memCap_c c hc W)
  have HBX := Lib.hid (cfgBlk c w)
  have HBA := Lib.hid ((Below.refl w.heap.size w).alloc (Nat.le_refl _) (.cells (cfgC c) 23))
  have HSZ := Lib.hid (World.size_alloc w (.cells (cfgC c) 23))
  have HR := Lib.hid (show memCapR c = if rightL c = true then memCapL c else 0 from rfl)
  clear hc
  unfold cfgV at *
  go_enter Try.func28, Try.ntmps28
  go_wp2_with (refine wpList_load_row rfl 23 (.tmp 1) rfl _ rfl _ _ _ _ HBX.out Try.underlying23 rfl (iCfg c) ?_)
  generalize w.alloc (.cells (cfgC c) 23) = wa at *
  refine (HSP.out _).mono ?_
  rintro e w1 ⟨rfl, hb1⟩
  have HB1 := Lib.hid (HBA.out.trans (hb1.mono HBA.out.size))
  have HX1 := Lib.hid ((hb1.block w.heap.size (by rw [HSZ.out]; omega)).trans HBX.out)
  clear hb1
  rcases hr : rightL c with _ | _
  · have e0 : memCapR c = 0 := by simp [memCapR, hr]
    have HR := Lib.hid e0
    clear e0
    go_wp2
    go_ret
    exact ⟨by rw [HR.out]; rfl, HB1.out⟩
  · have e0 : memCapR c = memCapL c := by simp [memCapR, hr]
    have HR := Lib.hid e0
    clear e0
    go_wp2_with (refine wpList_load_row rfl 23 (.tmp 1) rfl _ rfl _ _ _ _ HX1.out Try.underlying23 rfl (iCfg c) ?_)
    refine (HM.out _).mono ?_
    rintro e w2 ⟨rfl, hb2⟩
    have HB2 := Lib.hid (HB1.out.trans (hb2.mono HB1.out.size))
    clear hb2
    go_wp2_with fail
    refine (int_c _ _).mono ?_
    rintro e w3 ⟨rfl, rfl⟩
    go_wp2
    go_ret
    exact ⟨by rw [HR.out]; rfl, HB2.out⟩
set_option maxHeartbeats 1600000 in
set_option maxRecDepth 100000 in
theorem FileCap_c (c : Cfg) (hc : CfgOk c) (w : World) : Calls Try.prog 30 #[cfgV c] w fun e w' => e = .returned (.int .i64 (fileCapR c)) ∧ Below w.heap.size w w' := by
  have HSP := Lib.hid (fun W => right_c c hc W)
  have HBX := Lib.hid (cfgBlk c w)
  have HBA := Lib.hid ((Below.refl w.heap.size w).alloc (Nat.le_refl _) (.cells (cfgC c) 23))
  have HSZ := Lib.hid (World.size_alloc w (.cells (cfgC c) 23))
  clear hc
  unfold cfgV at *
  go_enter Try.func30, Try.ntmps30
  go_wp2_with (refine wpList_load_row rfl 23 (.tmp 1) rfl _ rfl _ _ _ _ HBX.out Try.underlying23 rfl (iCfg c) ?_)
  generalize w.alloc (.cells (cfgC c) 23) = wa at *
  refine (HSP.out _).mono ?_
  rintro e w1 ⟨rfl, hb1⟩
  have HB1 := Lib.hid (HBA.out.trans (hb1.mono HBA.out.size))
  have HX1 := Lib.hid ((hb1.block w.heap.size (by rw [HSZ.out]; omega)).trans HBX.out)
  clear hb1
  rcases hr : rightL c with _ | _
  · have e0 : fileCapR c = 0 := by simp [fileCapR, hr]
    have HR := Lib.hid e0
    clear e0
    go_wp2
    go_ret
    exact ⟨by rw [HR.out]; rfl, HB1.out⟩
  · have e0 : fileCapR c = c.FileBytes - 1 + 1088 := by simp [fileCapR, hr]
    have HR := Lib.hid e0
    clear e0
    have c11 : w1.cell? ⟨w.heap.size, 11, none⟩ = some (.int .i64 c.FileBytes) := (blk_cell HX1.out 11).trans rfl
    have i1 := right_in hr (x := c.FileBytes) (lo := 2048) (hi := 1048576) (by simp [spansL, spansM])
    clear hr
    go_wp2
    go_ret
    exact ⟨by rw [HR.out]; rfl, HB1.out⟩
set_option maxHeartbeats 1600000 in
set_option maxRecDepth 100000 in
theorem DebtCap_c (c : Cfg) (hc : CfgOk c) (w : World) : Calls Try.prog 32 #[cfgV c] w fun e w' => e = .returned (.int .i64 (debtCapR c)) ∧ Below w.heap.size w w' := by
  have HSP := Lib.hid (fun W => right_c c hc W)
  have HBX := Lib.hid (cfgBlk c w)
  have HBA := Lib.hid ((Below.refl w.heap.size w).alloc (Nat.le_refl _) (.cells (cfgC c) 23))
  have HSZ := Lib.hid (World.size_alloc w (.cells (cfgC c) 23))
  clear hc
  unfold cfgV at *
  go_enter Try.func32, Try.ntmps32
  go_wp2_with (refine wpList_load_row rfl 23 (.tmp 1) rfl _ rfl _ _ _ _ HBX.out Try.underlying23 rfl (iCfg c) ?_)
  generalize w.alloc (.cells (cfgC c) 23) = wa at *
  refine (HSP.out _).mono ?_
  rintro e w1 ⟨rfl, hb1⟩
  have HB1 := Lib.hid (HBA.out.trans (hb1.mono HBA.out.size))
  have HX1 := Lib.hid ((hb1.block w.heap.size (by rw [HSZ.out]; omega)).trans HBX.out)
  clear hb1
  rcases hr : rightL c with _ | _
  · have e0 : debtCapR c = 0 := by simp [debtCapR, hr]
    have HR := Lib.hid e0
    clear e0
    go_wp2
    go_ret
    exact ⟨by rw [HR.out]; rfl, HB1.out⟩
  · have e0 : debtCapR c = c.DebtStop - 1 + c.MaxDebt := by simp [debtCapR, hr]
    have HR := Lib.hid e0
    clear e0
    have c23 : w1.cell? ⟨w.heap.size, 23, none⟩ = some (.int .i64 c.DebtStop) := (blk_cell HX1.out 23).trans rfl
    have c22 : w1.cell? ⟨w.heap.size, 22, none⟩ = some (.int .i64 c.MaxDebt) := (blk_cell HX1.out 22).trans rfl
    have i1 := right_in hr (x := c.MaxDebt) (lo := 17408) (hi := 16777216) (by simp [spansL, spansM])
    have i2 := right_in hr (x := c.DebtStop) (lo := debtLeastL c) (hi := 1073741824) (by simp [spansL, spansM])
    have i3 := debtLeast_lo c
    clear hr
    go_wp2
    go_ret
    exact ⟨by rw [HR.out]; rfl, HB1.out⟩
end Go.Proofs.Ytjgpcbednhoplaa.H
