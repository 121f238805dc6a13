/- pace's reference: mem, Check. Conditions: the fields are ints. -/
import Derived.Test.YtjgpcbednhoplaaPLim
namespace Go.Proofs.Ytjgpcbednhoplaa.H
open Go.RowKit Go.Deep Go.Shelf Go.Proofs Go.Proofs.YtjgpcbednhoplaaW.PrintWords
set_option linter.unusedVariables false
set_option linter.unusedSimpArgs false
def memRL (c : Cfg) : Int := wrap64 (wrap64 (c.MemBytes - 1) + mxi c.MaxGroup 17408)
set_option maxHeartbeats 1600000 in
set_option maxRecDepth 100000 in
theorem memR_c (c : Cfg) (hc : CfgOk c) (w : World) : Calls Try.prog 50 #[cfgV c] w fun e w' => e = .returned (.int .i64 (memRL c)) ∧ Below w.heap.size w w' := by
  have c3 : (w.alloc (.cells (cfgC c) 23)).cell? ⟨w.heap.size, 3, none⟩ = some (.int .i64 c.MemBytes) := (blk_cell (cfgBlk c w) 3).trans rfl
  have c21 : (w.alloc (.cells (cfgC c) 23)).cell? ⟨w.heap.size, 21, none⟩ = some (.int .i64 c.MaxGroup) := (blk_cell (cfgBlk c w) 21).trans rfl
  have HBX := Lib.hid (cfgBlk c w)
  have HBA := Lib.hid ((Below.refl w.heap.size w).alloc (Nat.le_refl _) (.cells (cfgC c) 23))
  have HSZ := Lib.hid (World.size_alloc w (.cells (cfgC c) 23))
  clear hc
  unfold cfgV
  by_cases hg : c.MaxGroup < 17408
  · have hE : memRL c = wrap64 (wrap64 (c.MemBytes - 1) + 17408) := by unfold memRL mxi; rw [if_pos hg]
    have HE := Lib.hid hE
    clear hE
    go_enter Try.func50, Try.ntmps50
    go_wp2
    go_ret
    exact ⟨by rw [HE.out]; rfl, HBA.out⟩
  · have hE : memRL c = wrap64 (wrap64 (c.MemBytes - 1) + c.MaxGroup) := by unfold memRL mxi; rw [if_neg hg]
    have HE := Lib.hid hE
    have hg' : decide (c.MaxGroup < 17408) = false := by simpa using hg
    clear hE
    go_enter Try.func50, Try.ntmps50
    go_wp2
    go_ret
    exact ⟨by rw [HE.out]; rfl, HBA.out⟩
end Go.Proofs.Ytjgpcbednhoplaa.H
