/- Regions that keep their order by the same steps; slices built on the way. No conditions. -/
import Derived.Test.YtjgpcbednhoplaaChainS
import Derived.Test.YtjgpcbednhoplaaCalmL
import Derived.Test.YtjgpcbednhoplaaHSl
namespace Go.Proofs.Ytjgpcbednhoplaa.H
open Go Go.RowKit Go.Deep Go.Proofs.YtjgpcbednhoplaaW.PrintWords
set_option linter.unusedVariables false
section
variable {σ : Type} {P : Program} {ops : Array Oper} {R : σ → World → Prop} {le : σ → σ → Prop} {kd : Nat → Nat} {V : Nat → Value} {Q : Exit → Act → World → Prop}
theorem wpList_step {rest : List Oper} (hrf : ∀ s, le s s) : ∀ (l : List Oper) (k : Nat) (s : σ) (a : Act) (W : World), (∀ j, (l ++ rest)[j]? = ops[k + j]?) → stepList P ops R le kd V (fun s a' => ∀ W, R s W → wpList P ops Q rest a' W) l k s a → R s W → wpList P ops Q (l ++ rest) a W
  | [], _, s, a, W, _, h, hW => h W hW
  | o :: l, k, s, a, W, hl, h, hW => by
    have h0 : ops[k]? = some o := by simpa using (hl 0).symm
    have h1 := wpOp_of_step (K' := wpList P ops Q (l ++ rest)) (Q := Q) (fun s' a' h' W' hW' => wpList_step hrf l (k + 1) s' a' W' (fun j => by have := hl (j + 1); simpa [Nat.add_assoc, Nat.add_comm 1 j] using this) h' hW') hrf ((stepOp_some h0).2 h) hW
    unfold wpOp at h1
    simp only [h0] at h1
    exact h1
/-- The first n operations of a region that keeps its order. -/
theorem wpList_stepN {l : List Oper} {a : Act} {w : World} (R : σ → World → Prop) (le : σ → σ → Prop) (hrf : ∀ s, le s s) (s0 : σ) (K : List Nat) (VL : List Value) (n : Nat) (h0 : R s0 w) (h : stepList P l.toArray R le (kdOf K) (vOf VL) (fun s a' => ∀ W, R s W → wpList P l.toArray Q (l.drop n) a' W) (l.take n) 0 s0 a) : wpList P l.toArray Q l a w := by
  have := wpList_step (P := P) (ops := l.toArray) (rest := l.drop n) (Q := Q) hrf (l.take n) 0 s0 a w (fun j => by rw [List.take_append_drop]; simp) h h0
  rwa [List.take_append_drop] at this
/-- The same from the operation k0 on. -/
theorem wpList_stepK {l : List Oper} {a : Act} {w : World} (R : σ → World → Prop) (le : σ → σ → Prop) (hrf : ∀ s, le s s) (s0 : σ) (K : List Nat) (VL : List Value) (k0 n : Nat) (hl : ops.toList.drop k0 = l) (h0 : R s0 w) (h : stepList P ops R le (kdOf K) (vOf VL) (fun s a' => ∀ W, R s W → wpList P ops Q (l.drop n) a' W) (l.take n) k0 s0 a) : wpList P ops Q l a w := by
  have := wpList_step (P := P) (ops := ops) (rest := l.drop n) (Q := Q) hrf (l.take n) k0 s0 a w (fun j => by rw [List.take_append_drop, ← hl, List.getElem?_drop]; simp) h h0
  rwa [List.take_append_drop] at this
end
/-- What was there lies as it did; the slices that were built on the way. -/
def SumR (w : World) (s : List (Nat × List Int)) (W : World) : Prop := Below w.heap.size w W ∧ ∀ p ∈ s, Sl encI 1 W (some ⟨p.1, 0, none⟩) p.2
def leL (a b : List (Nat × List Int)) : Prop := ∀ p ∈ a, p ∈ b
theorem leL_refl (a : List (Nat × List Int)) : leL a a := fun _ h => h
theorem leL_trans (a b c : List (Nat × List Int)) (h : leL a b) (h' : leL b c) : leL a c := fun p hp => h' p (h p hp)
theorem SumR.start (w : World) : SumR w [] { w with drawn := w.drawn + 1 } := ⟨(Below.refl _ _).drew, fun p h => by cases h⟩
theorem SumR.start' (w : World) : SumR w [] w := ⟨Below.refl _ _, fun p h => by cases h⟩
theorem SumR.later {w W W' : World} {s : List (Nat × List Int)} (h : SumR w s W) (hb : Below W.heap.size W W') : SumR w s W' := ⟨h.1.trans (hb.mono h.1.size), fun p hp => (h.2 p hp).later hb⟩
theorem SumR.cell {w W : World} {s : List (Nat × List Int)} (h : SumR w s W) {b o : Nat} {v : Value} (hv : w.cell? ⟨b, o, none⟩ = some v) : W.cell? ⟨b, o, none⟩ = some v := (h.1.cell (p := ⟨b, o, none⟩) (World.block_lt_of_cell? w ⟨b, o, none⟩ hv)).trans hv
theorem SumR.row {w W : World} {s : List (Nat × List Int)} (h : SumR w s W) {b : Nat} {ob : Obj} (hv : w.heap[b]? = some ob) : W.heap[b]? = some ob := (h.1.block b (Array.getElem?_eq_some_iff.1 hv).1).trans hv
section
variable {P : Program} {w W : World} {s : List (Nat × List Int)} {a : Act} {o : Oper}
theorem scall_b {f : FuncId} {vs : Array Value} {v : Value} (h : SumR w s W) (hc : Calls P f vs W fun e W' => e = .returned v ∧ Below W.heap.size W W') : Calls P f vs W fun e W' => e = .returned v ∧ SumR w s W' := hc.mono fun _ _ ⟨he, hb⟩ => ⟨he, h.later hb⟩
theorem scall_q {f : FuncId} {vs : Array Value} {v : Value} (h : SumR w s W) (hc : Calls P f vs W fun e W' => e = .returned v ∧ W = W') : Calls P f vs W fun e W' => e = .returned v ∧ SumR w s W' := hc.mono fun _ _ ⟨he, hb⟩ => ⟨he, hb ▸ h⟩
theorem srun_mn {S : World → Prop} {x y : Operand} {ts : Array TypeId} {u v r : Value} (ho : o.op = .call { callee := .builtin .min, args := #[x, y], argTypes := ts }) (hx : a.eval x = u) (hy : a.eval y = v) (hf : ∀ W, (Builtin.min_ ts o.type #[u, v]).run P W = .ok r W) (hW : S W) :
    StepRes P S r ((execOp a.eval o).run P W) := by
  unfold execOp
  simp only [ho, resolve, invoke, builtin, Sem.run_bind, Sem.run_pure, Result.andThen_ok, List.map_toArray, List.map_cons, List.map_nil, hx, hy, hf]
  exact ⟨rfl, hW⟩
theorem srun_mx {S : World → Prop} {x y : Operand} {ts : Array TypeId} {u v r : Value} (ho : o.op = .call { callee := .builtin .max, args := #[x, y], argTypes := ts }) (hx : a.eval x = u) (hy : a.eval y = v) (hf : ∀ W, (Builtin.max_ ts o.type #[u, v]).run P W = .ok r W) (hW : S W) :
    StepRes P S r ((execOp a.eval o).run P W) := by
  unfold execOp
  simp only [ho, resolve, invoke, builtin, Sem.run_bind, Sem.run_pure, Result.andThen_ok, List.map_toArray, List.map_cons, List.map_nil, hx, hy, hf]
  exact ⟨rfl, hW⟩
/-- A slice of ints, built. -/
theorem srun_bs {t e : TypeId} {n : Nat} {parts : Array (Nat × Operand)} {vs : Array (Nat × Value)} {L : List Int} {cells : Array Value} (ho : o.op = .buildSlice t n parts) (hx : (parts.map fun (i, x) => (i, a.eval x)) = vs)
    (hf : ∀ W, (Instr.buildSlice t n vs).run P W = .ok (.slice (some ⟨W.heap.size, 0, none⟩) n n) (W.alloc (.cells cells e))) (hc : cells.toList = L.flatMap encI) (hm : L.length ≤ 9223372036854775807) (hW : SumR w s W) :
    StepResT P (fun v W' => ∃ s', (∃ g, v = .slice (some ⟨g, 0, none⟩) n n ∧ s' = (g, L) :: s) ∧ SumR w s' W') ((execOp a.eval o).run P W) := by
  simp only [execOp, ho, hx, Sem.run_bind, Sem.run_pure, hf, Result.andThen_ok]
  refine ⟨_, ⟨W.heap.size, rfl, rfl⟩, hW.1.alloc hW.1.size _, fun p hp => ?_⟩
  rcases List.mem_cons.1 hp with rfl | hp
  · exact Sl.of_block (enc := encI) (sz := 1) (fun _ => rfl) (heap_alloc_new W _) hc hm
  · exact (hW.2 p hp).later ((Below.refl _ _).alloc (Nat.le_refl _) _)
end
end Go.Proofs.Ytjgpcbednhoplaa.H
