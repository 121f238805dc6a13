/- Regions within a round: as anywhere. No conditions. -/
import Derived.Test.YtjbbobhjomhnmaaChainS
import Derived.Shelf.RegionOpen
import Derived.RangeFuncCalls
namespace Go.Proofs.Ytjbbobhjomhnmaa.H
open Go Go.RowKit
set_option linter.unusedVariables false
def noDefer (o : Oper) : Bool := match o.op with | .defer _ => false | _ => true
theorem noDefer_of {o : Oper} (h : noDefer o = true) : ∀ c, o.op ≠ .defer c := fun c e => by simp [noDefer, e] at h
section
variable {l n : Nat} {P : Program} {Q : Exit → Act → World → Prop}
theorem oper_rnd {o : Oper} {a : Act} {w : World} {K : Act → World → Prop} (hnd : ∀ c, o.op ≠ .defer c) (h : o.wp P a w K Q) : o.wpIn (Fence.wide.inRound l) n P a w K Q := by
  refine ⟨fun _ _ => trivial, ?_⟩
  rw [Fence.inRound_round, Oper.semAt_some l _ _ hnd]
  unfold Oper.wp at h
  generalize (execOp a.eval o).run P w = r at *
  cases r with
  | ok x w' =>
    cases x <;> simp only [Oper.upon, Oper.uponIn] at h ⊢
    case value => exact h
    case skip => exact h
    case defer => exact h
    case enter => exact ⟨(fun h => by cases h), CallsIn.inRound l (callsIn_wide.2 h)⟩
    case row row args => exact ⟨(fun h => by cases h), fun c cs _ => let ⟨v, w'', r, s⟩ := h c cs; ⟨v, w'', r, stepsIn_wide.2 s⟩⟩
  | halt x w' => cases x <;> simp only [Oper.upon, Oper.uponIn] at h ⊢ <;> exact h
theorem wpAny_rnd {md : Region.Mode} {ops : Array Oper} (hnd : ∀ (i : Nat) (o : Oper), ops[i]? = some o → ∀ c, o.op ≠ .defer c) (hQ : ¬ LetsOut Q) : ∀ (f : Nat) (listed : Array Bool) (a : Act) (w : World), wpAny P md ops Q f listed a w → wpAnyIn (Fence.wide.inRound l) n P md ops Q f listed a w
  | 0, listed, a, w, h => h
  | f + 1, listed, a, w, h => by
    refine ⟨h.1, fun i hi => ?_⟩
    have h2 := h.2 i hi
    unfold wpOp at h2
    unfold wpOpIn
    cases ho : ops[i]? with
    | none =>
      simp only [ho] at h2 ⊢
      exact wpAny_rnd hnd hQ f _ _ _ h2
    | some o =>
      simp only [ho] at h2 ⊢
      split
      · rename_i hw
        simp only [hw, if_true] at h2
        rcases h2 with h2 | ⟨_, h2⟩
        · exact Oper.wpIn_mono (wpAny_rnd hnd hQ f _) (oper_rnd (hnd i o ho) h2)
        · exact absurd h2 hQ
      · rename_i hw
        simp only [hw] at h2
        exact ⟨fun _ _ => trivial, wpAny_rnd hnd hQ f _ _ _ h2⟩
theorem wpIn_region_rnd {id : Nat} {ops : List Oper} {a : Act} {w : World} (hm : P.follows .mixedOrders = true) (hnd : ops.all noDefer = true) (hQ : ¬ LetsOut Q)
    (h : wpAny P .any ops.toArray Q ops.toArray.size (Array.replicate ops.toArray.size false) a { w with drawn := w.drawn + 1 }) : (Code.region id ops.toArray true).wpIn (Fence.wide.inRound l) n P Q a w :=
  wpIn_region_any hm (wpAny_rnd (fun i o ho => noDefer_of (List.all_eq_true.1 hnd o (by simpa using List.mem_of_getElem? (by simpa using ho)))) hQ _ _ _ _ h)
end
section
variable {P : Program} {S : World → Prop} {a : Act} {o : Oper} {W W' : World}
theorem srun_bsW {t : TypeId} {n : Nat} {parts : Array (Nat × Operand)} {vs : Array (Nat × Value)} {v : Value} (ho : o.op = .buildSlice t n parts) (hx : (parts.map fun (i, x) => (i, a.eval x)) = vs) (hf : (Instr.buildSlice t n vs).run P W = .ok v W') (hW : S W') : StepRes P S v ((execOp a.eval o).run P W) := by
  simp only [execOp, ho, hx, Sem.run_bind, Sem.run_pure, hf, Result.andThen_ok]
  exact ⟨rfl, hW⟩
theorem srun_apW {x y : Operand} {ts : Array TypeId} {u v r : Value} (ho : o.op = .call { callee := .builtin .append, args := #[x, y], argTypes := ts }) (hx : a.eval x = u) (hy : a.eval y = v) (hf : (Builtin.append_ ts o.type #[u, v]).run P W = .ok r W') (hW : S W') : StepRes P S r ((execOp a.eval o).run P W) := by
  unfold execOp
  simp only [ho, resolve, invoke, builtin, Sem.run_bind, Sem.run_pure, Result.andThen_ok, List.map_toArray, List.map_cons, List.map_nil, hx, hy, hf]
  exact ⟨rfl, hW⟩
end
/-- Worlds one behind the other. -/
def AtW (L : List World) (s : Nat) (W : World) : Prop := L[s]? = some W
theorem no_letsOut {Q : Exit → Act → World → Prop} (h : ∀ a w, ¬ Q .outgrown a w) : ¬ LetsOut Q := fun ⟨a, w, h2⟩ => h a w h2
end Go.Proofs.Ytjbbobhjomhnmaa.H
