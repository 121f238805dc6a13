/- Small steps of the sieve's drawn regions. No conditions. -/
import Derived.Test.YtdpijhpjicbecaaGRfO
import Derived.Test.YtdpijhpjicbecaaV1
import Derived.Test.YtdpijhpjicbecaaGUse
import Derived.Test.YtdpijhpjicbecaaGCur
import Derived.StillTailTactics
import Derived.Deep.DeepCutAuto
import Derived.Sort.CutIn
namespace Go.Proofs.Ytdpijhpjicbecaa.H
open Go Go.RowKit Go.Deep Go.Shelf Go.Proofs Go.Proofs.YtdpijhpjicbecaaW.PrintWords
set_option linter.unusedVariables false
attribute [local go_sem] Oper.semAt_some
theorem chainK {P : Program} {ops : Array Oper} {w : World} {a : Act} {l : List (Tmp × Value)} {o : Oper} {rest : List Oper} {Q : Act → Prop} {t : Tmp} (hg : Region.wanted o (yielded ops (putL a l).tmps) = false) (hd : o.dst = some t) (hr : calmList P ops w Q rest (putL a ((t, undef) :: l))) :
    calmList P ops w Q (o :: rest) (putL a l) :=
  ⟨undef, .inr ⟨hg, rfl⟩, by rw [hd]; rw [putL] at hr; exact hr⟩
theorem run_lw {P : Program} {w W : World} {a : Act} {o : Oper} {t : TypeId} {x : Operand} {u v : Value} (ho : o.op = .load t x) (hx : a.eval x = u) (hl : ∀ W : World, Below w.heap.size w W → (Instr.loadAt t u).run P W = .ok v W) (hW : Below w.heap.size w W) : CalmRes P w v ((execOp a.eval o).run P W) := by
  simp only [execOp, ho, hx, Sem.run_bind, Sem.run_pure, hl W hW, Result.andThen_ok]
  exact ⟨rfl, hW⟩
theorem ldStr (b j : Nat) (s : ByteArray) (W : World) (h : W.cell? ⟨b, j, none⟩ = some (.string s)) : (Instr.loadAt 9 (.pointer (some ⟨b, j, none⟩))).run Try.prog W = .ok (.string s) W := by
  go_simp
theorem ldBo (b j : Nat) (s : Bool) (W : World) (h : W.cell? ⟨b, j, none⟩ = some (.bool s)) : (Instr.loadAt 4 (.pointer (some ⟨b, j, none⟩))).run Try.prog W = .ok (.bool s) W := by
  go_simp
theorem ldU64 (b j : Nat) (v : Int) (W : World) (h : W.cell? ⟨b, j, none⟩ = some (.int .u64 v)) : (Instr.loadAt 51 (.pointer (some ⟨b, j, none⟩))).run Try.prog W = .ok (.int .u64 v) W := by
  go_simp
theorem ldBw (b : Nat) (x y z : Value) (W : World) (h : W.heap[b]? = some (.cells #[x, y, z] 60 (0, 0))) : (Instr.loadAt 60 (.pointer (some ⟨b, 0, none⟩))).run Try.prog W = .ok (.agg #[x, y, z]) W := by
  have h0 : W.cell? ⟨b, 0, none⟩ = some x := (blk_cell h 0).trans rfl
  have h1 : W.cell? ⟨b, 1, none⟩ = some y := (blk_cell h 1).trans rfl
  have h2 : W.cell? ⟨b, 2, none⟩ = some z := (blk_cell h 2).trans rfl
  clear h
  go_simp
theorem lssN_run (k : IntKind) (t : TypeId) (x y : Operand) (a b : Int) (r : Bool) (h : decide (a < b) = r) (W : World) : (do eqGuard .lss t x y (.int k a) (.int k b); binOp .lss t (.int k a) (.int k b) : Sem Value).run Try.prog W = .ok (.bool r) W := by
  subst h
  go_simp
end Go.Proofs.Ytdpijhpjicbecaa.H
