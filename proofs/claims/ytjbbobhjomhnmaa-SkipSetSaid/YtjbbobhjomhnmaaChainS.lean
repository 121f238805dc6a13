/- Single steps of a region with stages. No conditions. -/
import Derived.Test.YtjbbobhjomhnmaaCalmS
namespace Go.Proofs.Ytjbbobhjomhnmaa.H
open Go Go.RowKit
set_option linter.unusedVariables false
section
variable {σ : Type} {P : Program} {ops : Array Oper} {R : σ → World → Prop} {le : σ → σ → Prop} {kd : Nat → Nat} {V : Nat → Value} {a : Act} {l : List (Tmp × Value)} {o : Oper} {rest : List Oper} {Q : σ → Act → Prop}
theorem snil {k : Nat} {s : σ} (h : Q s a) : stepList P ops R le kd V Q [] k s a := h
theorem schain0 {k : Nat} {s : σ} (h : stepList P ops R le kd V Q rest k s (putL a [])) : stepList P ops R le kd V Q rest k s a := by rw [putL] at h; exact h
/-- A reader at any state. -/
theorem schain {k : Nat} {s : σ} {t : Tmp} (v : Value) (hk : kd k = 0) (hv : V k = v) (hg : Region.wanted o (yielded ops (putL a l).tmps) = true) (hd : o.dst = some t) (h : ∀ s' W, R s' W → StepRes P (R s') v ((execOp (putL a l).eval o).run P W)) (hr : stepList P ops R le kd V Q rest (k + 1) s (putL a ((t, v) :: l))) :
    stepList P ops R le kd V Q (o :: rest) k s (putL a l) := by
  rw [putL] at hr
  rw [← hd] at hr
  subst hv
  exact .inl ⟨hg, fun _ => ⟨hr, h⟩, fun h2 => by omega, fun h0 => absurd hk h0⟩
/-- A reader from this state on. -/
theorem schain1 {k : Nat} {s : σ} {t : Tmp} (v : Value) (hk : kd k = 1) (hg : Region.wanted o (yielded ops (putL a l).tmps) = true) (hd : o.dst = some t) (h : ∀ s', le s s' → ∀ W, R s' W → StepRes P (R s') v ((execOp (putL a l).eval o).run P W)) (hr : stepList P ops R le kd V Q rest (k + 1) s (putL a ((t, v) :: l))) :
    stepList P ops R le kd V Q (o :: rest) k s (putL a l) := by
  rw [putL] at hr
  rw [← hd] at hr
  exact .inl ⟨hg, fun h0 => by omega, fun h2 => by omega, fun _ _ => ⟨v, hr, h⟩⟩
/-- A writer; T: what it answers and the state it leaves. -/
theorem schainT {k : Nat} {s : σ} {t : Tmp} (T : Value → σ → Prop) (hk : kd k = 2) (hg : Region.wanted o (yielded ops (putL a l).tmps) = true) (hd : o.dst = some t) (hne : ∃ v s', T v s') (hle : ∀ v s', T v s' → le s s') (h : ∀ W, R s W → StepResT P (fun v W' => ∃ s', T v s' ∧ R s' W') ((execOp (putL a l).eval o).run P W))
    (hr : ∀ v s', T v s' → stepList P ops R le kd V Q rest (k + 1) s' (putL a ((t, v) :: l))) : stepList P ops R le kd V Q (o :: rest) k s (putL a l) := by
  refine .inl ⟨hg, fun h0 => by omega, fun _ => ⟨T, hne, fun v s' ht => ⟨hle v s' ht, ?_⟩, h⟩, fun _ h2 => absurd hk h2⟩
  have := hr v s' ht
  rw [putL] at this
  rw [← hd] at this
  exact this
theorem StepRes.toT {S : World → Prop} {S' : Value → World → Prop} {v : Value} {r : Result Next} (h : StepRes P S v r) (hS : ∀ W, S W → S' v W) : StepResT P S' r := by
  cases r with
  | ok n W =>
    cases n <;> simp only [StepRes, StepResT] at h ⊢
    case value x => obtain ⟨rfl, hb⟩ := h; exact hS _ hb
    case skip => obtain ⟨rfl, hb⟩ := h; exact hS _ hb
    case enter f args => exact h.mono fun e W' ⟨he, hb⟩ => ⟨v, he, hS _ hb⟩
  | halt x W => simp only [StepRes] at h
/-- A writer that answers one thing. -/
theorem schainW {k : Nat} {s : σ} {t : Tmp} (v : Value) (s' : σ) (hk : kd k = 2) (hg : Region.wanted o (yielded ops (putL a l).tmps) = true) (hd : o.dst = some t) (hle : le s s') (h : ∀ W, R s W → StepRes P (R s') v ((execOp (putL a l).eval o).run P W)) (hr : stepList P ops R le kd V Q rest (k + 1) s' (putL a ((t, v) :: l))) :
    stepList P ops R le kd V Q (o :: rest) k s (putL a l) :=
  schainT (fun x y => x = v ∧ y = s') hk hg hd ⟨v, s', rfl, rfl⟩ (fun _ _ h => h.2 ▸ hle) (fun W hW => (h W hW).toT fun W' hW' => ⟨s', ⟨rfl, rfl⟩, hW'⟩) (fun x y h => by obtain ⟨rfl, rfl⟩ := h; exact hr)
/-- What is not wanted. -/
theorem sskip {k : Nat} {s : σ} {t : Tmp} (hg : Region.wanted o (yielded ops (putL a l).tmps) = false) (hd : o.dst = some t) (hr : stepList P ops R le kd V Q rest (k + 1) s (putL a ((t, undef) :: l))) : stepList P ops R le kd V Q (o :: rest) k s (putL a l) := by
  rw [putL] at hr
  rw [← hd] at hr
  exact .inr ⟨hg, hr⟩
end
section
variable {P : Program} {S : World → Prop} {a : Act} {o : Oper} {W : World}
theorem srun_mv {x : Operand} {v : Value} (ho : o.op = .move x) (hx : a.eval x = v) (hW : S W) : StepRes P S v ((execOp a.eval o).run P W) := by
  simp only [execOp, ho, hx, Sem.run_pure]
  exact ⟨rfl, hW⟩
theorem srun_as {x : Operand} {v : Value} (ho : o.op = .assign x) (hx : a.eval x = v) (hW : S W) : StepRes P S v ((execOp a.eval o).run P W) := by
  simp only [execOp, ho, hx, Sem.run_pure]
  exact ⟨rfl, hW⟩
theorem srun_nc {x : Operand} {p : Addr} (ho : o.op = .nilCheck x) (hx : a.eval x = .pointer (some p)) (hW : S W) : StepRes P S (.pointer (some p)) ((execOp a.eval o).run P W) := by
  simp only [execOp, ho, hx, Sem.run_pure]
  exact ⟨rfl, hW⟩
theorem srun_fa {s : TypeId} {x : Operand} {f : Nat} {p : Value} {v : Value} (ho : o.op = .fieldAddr s x f) (hx : a.eval x = p) (hf : ∀ W, (Instr.fieldAt s p f).run P W = .ok v W) (hW : S W) : StepRes P S v ((execOp a.eval o).run P W) := by
  simp only [execOp, ho, hx, Sem.run_bind, Sem.run_pure, hf, Result.andThen_ok]
  exact ⟨rfl, hW⟩
theorem srun_ia {t : TypeId} {x y : Operand} {u v r : Value} (ho : o.op = .indexAddr t x y) (hx : a.eval x = u) (hy : a.eval y = v) (hf : ∀ W, (Instr.indexAt t u v).run P W = .ok r W) (hW : S W) : StepRes P S r ((execOp a.eval o).run P W) := by
  simp only [execOp, ho, hx, hy, Sem.run_bind, Sem.run_pure, hf, Result.andThen_ok]
  exact ⟨rfl, hW⟩
theorem srun_ld {t : TypeId} {x : Operand} {u v : Value} (ho : o.op = .load t x) (hx : a.eval x = u) (hl : (Instr.loadAt t u).run P W = .ok v W) (hW : S W) : StepRes P S v ((execOp a.eval o).run P W) := by
  simp only [execOp, ho, hx, Sem.run_bind, Sem.run_pure, hl, Result.andThen_ok]
  exact ⟨rfl, hW⟩
theorem srun_bo {k : BinOp} {t t' : TypeId} {x y : Operand} {u v r : Value} (ho : o.op = .binOp k t x y t') (hx : a.eval x = u) (hy : a.eval y = v) (hf : ∀ W, (do eqGuard k t x y u v; binOp k t u v : Sem Value).run P W = .ok r W) (hW : S W) : StepRes P S r ((execOp a.eval o).run P W) := by
  unfold execOp
  simp only [ho, hx, hy]
  rw [Sem.run_bind, hf W]
  exact ⟨rfl, hW⟩
theorem srun_uo {k : UnOp} {t : TypeId} {x : Operand} {u r : Value} (ho : o.op = .unOp k t x) (hx : a.eval x = u) (hf : ∀ W, (Op.unary k u).run P W = .ok r W) (hW : S W) : StepRes P S r ((execOp a.eval o).run P W) := by
  simp only [execOp, ho, hx, Sem.run_bind, Sem.run_pure, hf, Result.andThen_ok]
  exact ⟨rfl, hW⟩
theorem srun_pkT {c x y : Operand} {u : Value} (ho : o.op = .pick c x y) (hc : a.eval c = .bool true) (hx : a.eval x = u) (hW : S W) : StepRes P S u ((execOp a.eval o).run P W) := by
  simp only [execOp, ho, hc, hx, asBool, Sem.run_bind, Sem.run_pure, Result.andThen_ok, if_true]
  exact ⟨rfl, hW⟩
theorem srun_pkF {c x y : Operand} {u : Value} (ho : o.op = .pick c x y) (hc : a.eval c = .bool false) (hy : a.eval y = u) (hW : S W) : StepRes P S u ((execOp a.eval o).run P W) := by
  simp only [execOp, ho, hc, hy, asBool, Sem.run_bind, Sem.run_pure, Result.andThen_ok, Bool.false_eq_true, if_false]
  exact ⟨rfl, hW⟩
theorem srun_call {f : FuncId} {args : Array Operand} {ts : Array TypeId} {vs : Array Value} {v : Value} (ho : o.op = .call { callee := .value (.func f), args := args, argTypes := ts }) (hx : args.map a.eval = vs) (he : ∀ (vs : Array Value) (W : World), (callFunc f vs).run P W = .ok (.enter f vs) W)
    (h : Calls P f vs W fun e W' => e = .returned v ∧ S W') : StepRes P S v ((execOp a.eval o).run P W) := by
  have e : (execOp a.eval o).run P W = .ok (.enter f vs) W := by
    unfold execOp
    simp only [ho, resolve, hx, Act.eval, Deferred.ofValue, Sem.run_bind, Sem.run_pure, Result.andThen_ok, invoke, he]
    simp
  rw [e]
  exact h
theorem srun_callT {S : Value → World → Prop} {f : FuncId} {args : Array Operand} {ts : Array TypeId} {vs : Array Value} (ho : o.op = .call { callee := .value (.func f), args := args, argTypes := ts }) (hx : args.map a.eval = vs) (he : ∀ (vs : Array Value) (W : World), (callFunc f vs).run P W = .ok (.enter f vs) W)
    (h : Calls P f vs W fun e W' => ∃ v, e = .returned v ∧ S v W') : StepResT P S ((execOp a.eval o).run P W) := by
  have e : (execOp a.eval o).run P W = .ok (.enter f vs) W := by
    unfold execOp
    simp only [ho, resolve, hx, Act.eval, Deferred.ofValue, Sem.run_bind, Sem.run_pure, Result.andThen_ok, invoke, he]
    simp
  rw [e]
  exact h
end
end Go.Proofs.Ytjbbobhjomhnmaa.H
