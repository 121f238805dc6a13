/- Calm operations at the head of a region that keeps its order; a place to stop at. No conditions. -/
import Derived.Test.YtjbbobhjomhnmaaChain
namespace Go.Proofs.Ytjbbobhjomhnmaa.H
open Go Go.RowKit
set_option linter.unusedVariables false
section
variable {P : Program} {ops : Array Oper} {w : World} {Q : Exit → Act → World → Prop} {Lq : Act → Prop}
/-- Calm operations in their order, then what follows. -/
theorem wpList_calm {rest : List Oper} (hL : ∀ a', Lq a' → ∀ W, Below w.heap.size w W → wpList P ops Q rest a' W) : ∀ (l : List Oper) (a : Act) (W : World), Below w.heap.size w W → calmList P ops w Lq l a → wpList P ops Q (l ++ rest) a W
  | [], a, W, hW, h => hL a h W hW
  | o :: l, a, W, hW, ⟨v, hy, hK⟩ => by
    have ih := fun a' W' hW' h => wpList_calm hL l a' W' hW' h
    show wpList P ops Q (o :: (l ++ rest)) a W
    simp only [wpList]
    rcases hy with ⟨hw, hr⟩ | ⟨hw, rfl⟩
    · simp only [hw, if_true]
      refine .inl ?_
      have hr := hr W hW
      unfold Oper.wp
      generalize (execOp a.eval o).run P W = r at hr
      cases r with
      | ok n W' =>
        cases n <;> simp only [CalmRes] at hr <;> simp only [Oper.upon]
        case value x => obtain ⟨rfl, hb⟩ := hr; exact ih _ W' hb hK
        case skip => obtain ⟨rfl, hb⟩ := hr; exact ih _ W' hb hK
        case enter f args => exact hr.mono fun e W'' ⟨he, hb⟩ => by subst he; exact ih _ W'' hb hK
      | halt x W' => simp only [CalmRes] at hr
    · simp only [hw, Bool.false_eq_true, if_false]
      exact ih _ W hW hK
/-- The first n operations are calm. -/
theorem wpList_calmN {l : List Oper} {a : Act} (n : Nat) (h : calmList P ops w (fun a' => ∀ W, Below w.heap.size w W → wpList P ops Q (l.drop n) a' W) (l.take n) a) : wpList P ops Q l a w := by
  have := wpList_calm (P := P) (ops := ops) (w := w) (Q := Q) (rest := l.drop n) (fun a' h => h) (l.take n) a w (Below.refl _ _) h
  rwa [List.take_append_drop] at this
end
theorem run_bo {P : Program} {w : World} {a : Act} {o : Oper} {W : World} {k : BinOp} {t t' : TypeId} {x y : Operand} {u v r : Value} (ho : o.op = .binOp k t x y t') (hx : a.eval x = u) (hy : a.eval y = v)
    (hf : ∀ W, (do eqGuard k t x y u v; binOp k t u v : Sem Value).run P W = .ok r W) (hW : Below w.heap.size w W) : CalmRes P w r ((execOp a.eval o).run P W) := by
  unfold execOp
  simp only [ho, hx, hy]
  rw [Sem.run_bind, hf W]
  exact ⟨rfl, hW⟩
theorem run_mv {P : Program} {w : World} {a : Act} {o : Oper} {W : World} {x : Operand} {v : Value} (ho : o.op = .move x) (hx : a.eval x = v) (hW : Below w.heap.size w W) : CalmRes P w v ((execOp a.eval o).run P W) := by
  simp only [execOp, ho, hx, Sem.run_pure]
  exact ⟨rfl, hW⟩
theorem run_ia {P : Program} {w : World} {a : Act} {o : Oper} {W : World} {t : TypeId} {x y : Operand} {u v r : Value} (ho : o.op = .indexAddr t x y) (hx : a.eval x = u) (hy : a.eval y = v) (hf : ∀ W, (Instr.indexAt t u v).run P W = .ok r W) (hW : Below w.heap.size w W) :
    CalmRes P w r ((execOp a.eval o).run P W) := by
  simp only [execOp, ho, hx, hy, Sem.run_bind, Sem.run_pure, hf, Result.andThen_ok]
  exact ⟨rfl, hW⟩
/-- A place where the walk stops. -/
structure Stop (p : Prop) : Prop where
  out : p
theorem stopAt {P : Program} {ops : Array Oper} {Q : Exit → Act → World → Prop} {o : Oper} {rest : List Oper} {a : Act} {w : World} (t : Tmp) (ho : o.dst = some t) (h : Stop (wpList P ops Q (o :: rest) a w)) : wpList P ops Q (o :: rest) a w := h.out
end Go.Proofs.Ytjbbobhjomhnmaa.H
