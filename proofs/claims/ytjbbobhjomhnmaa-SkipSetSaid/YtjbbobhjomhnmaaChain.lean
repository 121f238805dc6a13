/- Calm regions with many slots: the frame as a list of what was put, one operation at a time. No conditions. -/
import Derived.Test.YtjbbobhjomhnmaaCalm
import Derived.Test.YtjbbobhjomhnmaaHSl
namespace Go.Proofs.Ytjbbobhjomhnmaa.H
open Go Go.RowKit
set_option linter.unusedVariables false
/-- What was put, the last first. -/
def putL (a : Act) : List (Tmp × Value) → Act
  | [] => a
  | (t, v) :: l => (putL a l).put (some t) v
def look : List (Tmp × Value) → Tmp → Option Value
  | [], _ => none
  | (s, v) :: l, t => if Nat.beq s t = true then some v else look l t
theorem putL_size (a : Act) (l : List (Tmp × Value)) : (putL a l).tmps.size = a.tmps.size := by
  induction l with
  | nil => rfl
  | cons x l ih => obtain ⟨t, v⟩ := x; simp [putL, Act.put, ih]
theorem eval_look {a : Act} {l : List (Tmp × Value)} {t : Tmp} {v : Value} (h : look l t = some v) (ht : Nat.blt t a.tmps.size = true) : (putL a l).eval (.tmp t) = v := by
  have ht : t < a.tmps.size := by simpa [Nat.blt_eq] using ht
  induction l with
  | nil => simp [look] at h
  | cons x l ih =>
    obtain ⟨s, u⟩ := x
    simp only [look] at h
    by_cases e : s = t
    · subst e
      simp at h
      subst h
      simp [putL, Act.put, Act.eval, putL_size, ht]
    · have e' : ¬ Nat.beq s t = true := by simpa using e
      rw [if_neg e'] at h
      have := ih h
      simp only [putL, Act.put, Act.eval] at this ⊢
      rw [← this]
      simp [Array.getD_eq_getD_getElem?, e]
theorem eval_base {a : Act} {l : List (Tmp × Value)} {t : Tmp} {v : Value} (h : look l t = none) (hb : a.eval (.tmp t) = v) : (putL a l).eval (.tmp t) = v := by
  induction l with
  | nil => exact hb
  | cons x l ih =>
    obtain ⟨s, u⟩ := x
    simp only [look] at h
    by_cases e : s = t
    · subst e; simp at h
    · have e' : ¬ Nat.beq s t = true := by simpa using e
      rw [if_neg e'] at h
      have := ih h
      simp only [putL, Act.put, Act.eval] at this ⊢
      rw [← this]
      simp [Array.getD_eq_getD_getElem?, e]
section
variable {P : Program} {ops : Array Oper} {w : World} {a : Act} {l : List (Tmp × Value)} {o : Oper} {rest : List Oper} {Q : Act → Prop} {W : World}
theorem chain {t : Tmp} (v : Value) (hg : o.guard = none) (hd : o.dst = some t) (h : ∀ W, Below w.heap.size w W → CalmRes P w v ((execOp (putL a l).eval o).run P W)) (hr : calmList P ops w Q rest (putL a ((t, v) :: l))) :
    calmList P ops w Q (o :: rest) (putL a l) :=
  ⟨v, .inl ⟨by simp [Region.wanted, hg], h⟩, by rw [hd]; exact hr⟩
theorem run_fa {s : TypeId} {x : Operand} {f : Nat} {p : Value} {v : Value} (ho : o.op = .fieldAddr s x f) (hx : a.eval x = p) (hf : ∀ W, (Instr.fieldAt s p f).run P W = .ok v W) (hW : Below w.heap.size w W) : CalmRes P w v ((execOp a.eval o).run P W) := by
  simp only [execOp, ho, hx, Sem.run_bind, Sem.run_pure, hf, Result.andThen_ok]
  exact ⟨rfl, hW⟩
theorem run_ld {t : TypeId} {x : Operand} {b j : Nat} {v : Value} (ho : o.op = .load t x) (hx : a.eval x = .pointer (some ⟨b, j, none⟩)) (hc : w.cell? ⟨b, j, none⟩ = some v) (hl : ∀ W : World, W.cell? ⟨b, j, none⟩ = some v → (Instr.loadAt t (.pointer (some ⟨b, j, none⟩))).run P W = .ok v W)
    (hW : Below w.heap.size w W) : CalmRes P w v ((execOp a.eval o).run P W) := by
  have hlt : b < w.heap.size := World.block_lt_of_cell? w ⟨b, j, none⟩ hc
  have hc' : W.cell? ⟨b, j, none⟩ = some v := (hW.cell (p := ⟨b, j, none⟩) hlt).trans hc
  simp only [execOp, ho, hx, Sem.run_bind, Sem.run_pure, hl W hc', Result.andThen_ok]
  exact ⟨rfl, hW⟩
theorem run_row {t : TypeId} {x : Operand} {b : Nat} {v : Value} {ob : Obj} (ho : o.op = .load t x) (hx : a.eval x = .pointer (some ⟨b, 0, none⟩)) (hc : w.heap[b]? = some ob) (hl : ∀ W : World, W.heap[b]? = some ob → (Instr.loadAt t (.pointer (some ⟨b, 0, none⟩))).run P W = .ok v W)
    (hW : Below w.heap.size w W) : CalmRes P w v ((execOp a.eval o).run P W) := by
  have hlt : b < w.heap.size := (Array.getElem?_eq_some_iff.1 hc).1
  have hc' : W.heap[b]? = some ob := (hW.block b hlt).trans hc
  simp only [execOp, ho, hx, Sem.run_bind, Sem.run_pure, hl W hc', Result.andThen_ok]
  exact ⟨rfl, hW⟩
theorem run_bd {t : TypeId} {x y z : Operand} {u v p : Value} {r : Value} (ho : o.op = .build t #[(0, x), (1, y), (2, z)]) (hx : a.eval x = u) (hy : a.eval y = v) (hz : a.eval z = p) (hf : ∀ W, (Instr.build t #[(0, u), (1, v), (2, p)]).run P W = .ok r W)
    (hW : Below w.heap.size w W) : CalmRes P w r ((execOp a.eval o).run P W) := by
  simp only [execOp, ho, List.map_toArray, List.map_cons, List.map_nil, hx, hy, hz, Sem.run_bind, Sem.run_pure, hf, Result.andThen_ok]
  exact ⟨rfl, hW⟩
theorem run_call {f : FuncId} {args : Array Operand} {ts : Array TypeId} {vs : Array Value} {v : Value} (ho : o.op = .call { callee := .value (.func f), args := args, argTypes := ts }) (hx : args.map a.eval = vs) (he : ∀ (vs : Array Value) (W : World), (callFunc f vs).run P W = .ok (.enter f vs) W)
    (h : CalmRes P w v (.ok (.enter f vs) W)) : CalmRes P w v ((execOp a.eval o).run P W) := by
  have e : (execOp a.eval o).run P W = .ok (.enter f vs) W := by
    unfold execOp
    simp only [ho, resolve, hx, Act.eval, Deferred.ofValue, Sem.run_bind, Sem.run_pure, Result.andThen_ok, invoke, he]
    simp
  rw [e]
  exact h
theorem run_mx {x y : Operand} {ts : Array TypeId} {u v r : Value} (ho : o.op = .call { callee := .builtin .max, args := #[x, y], argTypes := ts }) (hx : a.eval x = u) (hy : a.eval y = v) (hf : ∀ W, (Builtin.max_ ts o.type #[u, v]).run P W = .ok r W) (hW : Below w.heap.size w W) :
    CalmRes P w r ((execOp a.eval o).run P W) := by
  unfold execOp
  simp only [ho, resolve, invoke, builtin, Sem.run_bind, Sem.run_pure, Result.andThen_ok, List.map_toArray, List.map_cons, List.map_nil, hx, hy, hf]
  exact ⟨rfl, hW⟩
theorem chain0 (h : calmList P ops w Q rest (putL a [])) : calmList P ops w Q rest a := h
end
attribute [irreducible] putL
end Go.Proofs.Ytjbbobhjomhnmaa.H
