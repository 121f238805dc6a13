/- Slices s[p:] and s[:p] of rows, as values. No conditions but bounds. -/
import Derived.Test.YtjbbobhjomhnmaaRf
namespace Go.Proofs.Ytjbbobhjomhnmaa.H
open Go Go.RowKit Go.Deep Go.Shelf Go.Proofs Go.Proofs.YtjbbobhjomhnmaaW.PrintWords
set_option linter.unusedVariables false
set_option linter.unusedSimpArgs false
theorem wpList_sl {P : Program} {ops : Array Oper} {rest : List Oper} {o : Oper} {a : Act} {w : World} {Q : Exit → Act → World → Prop} (hgd : o.guard = none) (t : TypeId) (x : Operand) (lo hi : Option Operand) (ho : o.op = .slice t x lo hi none) (u : Value) (l h : Option Value)
    (hx : a.eval x = u) (hlo : lo.map a.eval = l) (hhi : hi.map a.eval = h) (r : Value) (hf : ∀ W, (Instr.sliceAt t u l h none).run P W = .ok r W) (hk : wpList P ops Q rest (a.put o.dst r) w) : wpList P ops Q (o :: rest) a w := by
  refine wpList_plain hgd fun K hK => ?_
  unfold Oper.wp
  have e : (execOp a.eval o).run P w = .ok (.value r) w := by
    subst hx
    subst hlo
    subst hhi
    simp only [execOp, ho, Sem.run_bind, Sem.run_pure, Option.map_none, hf, Result.andThen_ok]
  rw [e]
  exact hK _ _ hk
theorem run_sl {P : Program} {w : World} {a : Act} {o : Oper} {W : World} {t : TypeId} {x : Operand} {lo hi : Option Operand} {u r : Value} {l h : Option Value} (ho : o.op = .slice t x lo hi none) (hx : a.eval x = u) (hlo : lo.map a.eval = l) (hhi : hi.map a.eval = h) (hf : ∀ W, (Instr.sliceAt t u l h none).run P W = .ok r W) (hW : Below w.heap.size w W) :
    CalmRes P w r ((execOp a.eval o).run P W) := by
  subst hlo
  subst hhi
  simp only [execOp, ho, hx, Sem.run_bind, Sem.run_pure, Option.map_none, hf, Result.andThen_ok]
  exact ⟨rfl, hW⟩
theorem map_some {a : Act} {x : Operand} {v : Value} (h : a.eval x = v) : (some x).map a.eval = some v := congrArg some h
theorem fromE (A : Option Addr) (m c p : Nat) (hp : p ≤ m) (hm : m ≤ c) : ∃ Ad, (∀ W, (Instr.sliceAt 64 (.slice A m c) (some (.int .i64 (p : Int))) none none).run Try.prog W = .ok (.slice Ad (m - p) (c - p)) W) ∧
    ∀ {w : World} {l : List Ent}, l.length = m → Sl encE 4 w A l → Sl encE 4 w Ad (l.drop p) := by
  have i1 : (0 : Int) ≤ p := by omega
  have i2 : (p : Int) ≤ m := by omega
  have i3 : (m : Int) ≤ c := by omega
  refine ⟨if c - p = 0 then A else A.map (fun x => x.add (p * 4)), fun W => ?_, fun {w l} hl hs => ?_⟩
  · by_cases h : c - p = 0
    · have h2 : c = p := by omega
      have h3 : m = p := by omega
      rw [if_pos h]
      go_simp
    · rw [if_neg h]
      have h2 : ¬ c = p := by omega
      go_simp
  · by_cases h : c - p = 0
    · rw [if_pos h, List.drop_eq_nil_of_le (by omega)]
      exact Sl.nil _ _ _ _
    · rw [if_neg h]
      exact hs.dropA p
theorem fromI (A : Option Addr) (m c p : Nat) (hp : p ≤ m) (hm : m ≤ c) : ∃ Ad, (∀ W, (Instr.sliceAt 26 (.slice A m c) (some (.int .i64 (p : Int))) none none).run Try.prog W = .ok (.slice Ad (m - p) (c - p)) W) ∧
    ∀ {w : World} {l : List Int}, l.length = m → Sl encI 1 w A l → Sl encI 1 w Ad (l.drop p) := by
  have i1 : (0 : Int) ≤ p := by omega
  have i2 : (p : Int) ≤ m := by omega
  have i3 : (m : Int) ≤ c := by omega
  refine ⟨if c - p = 0 then A else A.map (fun x => x.add (p * 1)), fun W => ?_, fun {w l} hl hs => ?_⟩
  · by_cases h : c - p = 0
    · have h2 : c = p := by omega
      have h3 : m = p := by omega
      rw [if_pos h]
      go_simp
    · rw [if_neg h]
      have h2 : ¬ c = p := by omega
      go_simp
  · by_cases h : c - p = 0
    · rw [if_pos h, List.drop_eq_nil_of_le (by omega)]
      exact Sl.nil _ _ _ _
    · rw [if_neg h]
      exact hs.dropA p
theorem toE_run (A : Option Addr) (m c p : Nat) (hp : p ≤ m) (hm : m ≤ c) (W : World) : (Instr.sliceAt 64 (.slice A m c) none (some (.int .i64 (p : Int))) none).run Try.prog W = .ok (.slice A p c) W := by
  have i1 : (0 : Int) ≤ p := by omega
  have i2 : (p : Int) ≤ m := by omega
  have i3 : (m : Int) ≤ c := by omega
  have i4 : (p : Int) ≤ c := by omega
  go_simp
theorem toI_run (A : Option Addr) (m c p : Nat) (hp : p ≤ m) (hm : m ≤ c) (W : World) : (Instr.sliceAt 26 (.slice A m c) none (some (.int .i64 (p : Int))) none).run Try.prog W = .ok (.slice A p c) W := by
  have i1 : (0 : Int) ≤ p := by omega
  have i2 : (p : Int) ≤ m := by omega
  have i3 : (m : Int) ≤ c := by omega
  have i4 : (p : Int) ≤ c := by omega
  go_simp
end Go.Proofs.Ytjbbobhjomhnmaa.H
