/- More single steps of a chain. No conditions. -/
import Derived.Test.YtjbbobhjomhnmaaCalmL
namespace Go.Proofs.Ytjbbobhjomhnmaa.H
open Go Go.RowKit
set_option linter.unusedVariables false
section
variable {P : Program} {w : World} {a : Act} {o : Oper} {W : World}
theorem run_nc {x : Operand} {p : Addr} (ho : o.op = .nilCheck x) (hx : a.eval x = .pointer (some p)) (hW : Below w.heap.size w W) : CalmRes P w (.pointer (some p)) ((execOp a.eval o).run P W) := by
  simp only [execOp, ho, hx, Sem.run_pure]
  exact ⟨rfl, hW⟩
theorem run_mn {x y : Operand} {ts : Array TypeId} {u v r : Value} (ho : o.op = .call { callee := .builtin .min, args := #[x, y], argTypes := ts }) (hx : a.eval x = u) (hy : a.eval y = v) (hf : ∀ W, (Builtin.min_ ts o.type #[u, v]).run P W = .ok r W) (hW : Below w.heap.size w W) :
    CalmRes P w r ((execOp a.eval o).run P W) := by
  unfold execOp
  simp only [ho, resolve, invoke, builtin, Sem.run_bind, Sem.run_pure, Result.andThen_ok, List.map_toArray, List.map_cons, List.map_nil, hx, hy, hf]
  exact ⟨rfl, hW⟩
theorem run_uo {k : UnOp} {t : TypeId} {x : Operand} {u r : Value} (ho : o.op = .unOp k t x) (hx : a.eval x = u) (hf : ∀ W, (Op.unary k u).run P W = .ok r W) (hW : Below w.heap.size w W) : CalmRes P w r ((execOp a.eval o).run P W) := by
  simp only [execOp, ho, hx, Sem.run_bind, Sem.run_pure, hf, Result.andThen_ok]
  exact ⟨rfl, hW⟩
theorem run_cv {s d : TypeId} {x : Operand} {u r : Value} (ho : o.op = .convert s d x) (hx : a.eval x = u) (hf : ∀ W, (convert s d u).run P W = .ok r W) (hW : Below w.heap.size w W) : CalmRes P w r ((execOp a.eval o).run P W) := by
  simp only [execOp, ho, hx, Sem.run_bind, Sem.run_pure, hf, Result.andThen_ok]
  exact ⟨rfl, hW⟩
theorem run_pkT {c x y : Operand} {u : Value} (ho : o.op = .pick c x y) (hc : a.eval c = .bool true) (hx : a.eval x = u) (hW : Below w.heap.size w W) : CalmRes P w u ((execOp a.eval o).run P W) := by
  simp only [execOp, ho, hc, hx, asBool, Sem.run_bind, Sem.run_pure, Result.andThen_ok, if_true]
  exact ⟨rfl, hW⟩
theorem run_pkF {c x y : Operand} {u : Value} (ho : o.op = .pick c x y) (hc : a.eval c = .bool false) (hy : a.eval y = u) (hW : Below w.heap.size w W) : CalmRes P w u ((execOp a.eval o).run P W) := by
  simp only [execOp, ho, hc, hy, asBool, Sem.run_bind, Sem.run_pure, Result.andThen_ok, Bool.false_eq_true, if_false]
  exact ⟨rfl, hW⟩
theorem chainG {ops : Array Oper} {l : List (Tmp × Value)} {rest : List Oper} {Q : Act → Prop} {t : Tmp} (v : Value) (hg : Region.wanted o (yielded ops (putL a l).tmps) = true) (hd : o.dst = some t) (h : ∀ W, Below w.heap.size w W → CalmRes P w v ((execOp (putL a l).eval o).run P W)) (hr : calmList P ops w Q rest (putL a ((t, v) :: l))) :
    calmList P ops w Q (o :: rest) (putL a l) :=
  ⟨v, .inl ⟨hg, h⟩, by rw [hd]; rw [putL] at hr; exact hr⟩
end
end Go.Proofs.Ytjbbobhjomhnmaa.H
