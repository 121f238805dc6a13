/- Small general steps: comparisons, loads, places in slices. No conditions but sizes. -/
import Derived.Test.YtjbbobhjomhnmaaSk18
import Derived.Test.YtjbbobhjomhnmaaSkB
namespace Go.Proofs.Ytjbbobhjomhnmaa.H
open Go Go.RowKit Go.Deep Go.Shelf Go.Proofs Go.Proofs.YtjbbobhjomhnmaaW.PrintWords
set_option linter.unusedVariables false
set_option linter.unusedSimpArgs false
theorem cmpN_run (k : IntKind) (t : TypeId) (x y : Operand) (a b : Int) (r : Bool) (h : decide (a ≤ b) = r) (W : World) : (do eqGuard .leq t x y (.int k a) (.int k b); binOp .leq t (.int k a) (.int k b) : Sem Value).run Try.prog W = .ok (.bool r) W := by
  subst h
  go_simp
theorem gtrN_run (k : IntKind) (t : TypeId) (x y : Operand) (a b : Int) (r : Bool) (h : decide (b < a) = r) (W : World) : (do eqGuard .gtr t x y (.int k a) (.int k b); binOp .gtr t (.int k a) (.int k b) : Sem Value).run Try.prog W = .ok (.bool r) W := by
  subst h
  go_simp
theorem neB_run (x y : Operand) (a b r : Bool) (h : (a != b) = r) (W : World) : (do eqGuard .neq 4 x y (.bool a) (.bool b); binOp .neq 4 (.bool a) (.bool b) : Sem Value).run Try.prog W = .ok (.bool r) W := by
  subst h
  cases a <;> cases b <;> go_simp
theorem neEnt_run (x y : Operand) (a b : Ent) (r : Bool) (h : (!decide (a = b)) = r) (W : World) : (do eqGuard .neq 53 x y (.agg (encE a).toArray) (.agg (encE b).toArray); binOp .neq 53 (.agg (encE a).toArray) (.agg (encE b).toArray) : Sem Value).run Try.prog W = .ok (.bool r) W := by
  subst h
  have hd : (a = b) = _ := propext (ent_eq a b)
  simp only [hd]
  unfold encE
  go_simp
  (repeat' split) <;> simp_all
theorem run_b0 {P : Program} {w W : World} {a : Act} {o : Oper} {t : TypeId} {r : Value} (ho : o.op = .build t #[]) (hf : ∀ W, (Instr.build t #[]).run P W = .ok r W) (hW : Below w.heap.size w W) : CalmRes P w r ((execOp a.eval o).run P W) := by
  simp only [execOp, ho, List.map_toArray, List.map_nil, Sem.run_bind, Sem.run_pure, hf, Result.andThen_ok]
  exact ⟨rfl, hW⟩
theorem zeroE_run (W : World) : (Instr.build 53 #[]).run Try.prog W = .ok (.agg (encE zeroE).toArray) W := by
  unfold encE zeroE
  go_simp
theorem idx0_run (b o m c : Nat) (h : 0 < m) (W : World) : (Instr.indexAt 64 (.slice (some ⟨b, o, none⟩) m c) (.int .i64 0)).run Try.prog W = .ok (.pointer (some ⟨b, o, none⟩)) W := by
  have := idx_run b o m c 0 h W
  simpa using this
theorem hgt_nil {draws : List Int} (i : Nat) (h : draws.length = 0) : hgt draws i = 1 := by
  unfold hgt
  rw [if_pos (List.length_eq_zero_iff.1 h)]
theorem hgt_cons {draws : List Int} {i nd y : Nat} (h : draws.length = nd) (hp : 0 < nd) (hy : draws[i % nd]? = some (y : Int)) : hgt draws i = 1 + y % 12 := by
  unfold hgt
  rw [if_neg (fun e => by rw [e] at h; simp at h; omega), h, List.getD_eq_getElem?_getD, hy]
  simp
theorem eqEnt_run (x y : Operand) (a b : Ent) (r : Bool) (h : decide (a = b) = r) (W : World) : (do eqGuard .eql 53 x y (.agg (encE a).toArray) (.agg (encE b).toArray); binOp .eql 53 (.agg (encE a).toArray) (.agg (encE b).toArray) : Sem Value).run Try.prog W = .ok (.bool r) W := by
  subst h
  have hd : (a = b) = _ := propext (ent_eq a b)
  simp only [hd]
  unfold encE
  go_simp
  (repeat' split) <;> simp_all
theorem idxI_run (b o m c k : Nat) (h : k < m) (W : World) : (Instr.indexAt 26 (.slice (some ⟨b, o, none⟩) m c) (.int .i64 (k : Int))).run Try.prog W = .ok (.pointer (some ⟨b, o + k, none⟩)) W := by
  have h0 : (0 : Int) ≤ k := by omega
  have h1 : (k : Int) < m := by omega
  go_simp
theorem wrap_rem (a b : Nat) (h : (a : Int) < 9223372036854775807) : IntKind.i64.wrap ((a : Int).tmod (b : Int)) = ((a % b : Nat) : Int) := by
  have h1 : (a : Int).tmod (b : Int) = ((a % b : Nat) : Int) := by rw [Int.tmod_eq_emod_of_nonneg (by omega)]; simp
  have h2 : a % b ≤ a := Nat.mod_le _ _
  rw [h1, IntKind.wrap_i64]
  omega
theorem toList_inj {a b : ByteArray} (h : a.toList = b.toList) : a = b := by
  rw [ByteArray.toList_eq, ByteArray.toList_eq] at h
  exact ByteArray.ext (Array.toList_inj.1 h)
theorem idxU_run (b o m c k : Nat) (h : k < m) (W : World) : (Instr.indexAt 83 (.slice (some ⟨b, o, none⟩) m c) (.int .i64 (k : Int))).run Try.prog W = .ok (.pointer (some ⟨b, o + k, none⟩)) W := by
  have h0 : (0 : Int) ≤ k := by omega
  have h1 : (k : Int) < m := by omega
  go_simp
theorem idxB_run (b o m c k : Nat) (h : k < m) (W : World) : (Instr.indexAt 32 (.slice (some ⟨b, o, none⟩) m c) (.int .i64 (k : Int))).run Try.prog W = .ok (.pointer (some ⟨b, o + k, none⟩)) W := by
  have h0 : (0 : Int) ≤ k := by omega
  have h1 : (k : Int) < m := by omega
  go_simp
theorem idxK_run (b o m c k : Nat) (h : k < m) (W : World) : (Instr.indexAt 93 (.slice (some ⟨b, o, none⟩) m c) (.int .i64 (k : Int))).run Try.prog W = .ok (.pointer (some ⟨b, o + k, none⟩)) W := by
  have h0 : (0 : Int) ≤ k := by omega
  have h1 : (k : Int) < m := by omega
  go_simp
theorem ldStr (b j : Nat) (s : ByteArray) (W : World) (h : W.cell? ⟨b, j, none⟩ = some (.string s)) : (Instr.loadAt 9 (.pointer (some ⟨b, j, none⟩))).run Try.prog W = .ok (.string s) W := by
  go_simp
theorem ldBo (b j : Nat) (s : Bool) (W : World) (h : W.cell? ⟨b, j, none⟩ = some (.bool s)) : (Instr.loadAt 4 (.pointer (some ⟨b, j, none⟩))).run Try.prog W = .ok (.bool s) W := by
  go_simp
theorem lssS_run (t : TypeId) (x y : Operand) (a b : ByteArray) (r : Bool) (h : Op.bytesLess a.toList b.toList = r) (W : World) : (do eqGuard .lss t x y (.string a) (.string b); binOp .lss t (.string a) (.string b) : Sem Value).run Try.prog W = .ok (.bool r) W := by
  subst h
  go_simp
theorem leqS_run (t : TypeId) (x y : Operand) (a b : ByteArray) (h : Op.bytesLess a.toList b.toList = false) (h2 : (a.toList == b.toList) = false) (W : World) : (do eqGuard .leq t x y (.string a) (.string b); binOp .leq t (.string a) (.string b) : Sem Value).run Try.prog W = .ok (.bool false) W := by
  go_simp
  first | done | simp [h, h2]
theorem gtr_yes (t : TypeId) (x y : Operand) (a : Int) (h : 0 < a) (W : World) : (do eqGuard .gtr t x y (.int .i64 a) (.int .i64 0); binOp .gtr t (.int .i64 a) (.int .i64 0) : Sem Value).run Try.prog W = .ok (.bool true) W := by
  go_simp
theorem gtr_no (t : TypeId) (x y : Operand) (a : Int) (k : a ≤ 0) (W : World) : (do eqGuard .gtr t x y (.int .i64 a) (.int .i64 0); binOp .gtr t (.int .i64 a) (.int .i64 0) : Sem Value).run Try.prog W = .ok (.bool false) W := by
  have h : ¬ 0 < a := by omega
  go_simp
theorem eqlS_yes (t : TypeId) (x y : Operand) (a b : ByteArray) (h : a = b) (W : World) : (do eqGuard .eql t x y (.string a) (.string b); binOp .eql t (.string a) (.string b) : Sem Value).run Try.prog W = .ok (.bool true) W := by
  subst h
  go_simp
theorem eqlS_no (t : TypeId) (x y : Operand) (a b : ByteArray) (h : a ≠ b) (W : World) : (do eqGuard .eql t x y (.string a) (.string b); binOp .eql t (.string a) (.string b) : Sem Value).run Try.prog W = .ok (.bool false) W := by
  have h2 : (a.toList == b.toList) = false := by
    rw [beq_eq_false_iff_ne]
    exact fun e => h (toList_inj e)
  go_simp
  first | done | exact h2 | simp [h, h2]
theorem ldHw (b j n c : Nat) (A : Option Addr) (W : World) (h : W.cell? ⟨b, j, none⟩ = some (.slice A n c)) : (Instr.loadAt 87 (.pointer (some ⟨b, j, none⟩))).run Try.prog W = .ok (.slice A n c) W := by
  go_simp
/-- Where an own row lies it stays, whatever else is written. -/
theorem sl_stay {α : Type} {enc : α → List Value} {sz : Nat} {w w' : World} {A : Option Addr} {l : List α} {T : Nat → Prop} (h : Sl enc sz w A l) (hu : Upd T w w') {lo hi : Nat} (hA : ∀ b o, A = some ⟨b, o, none⟩ → lo ≤ b ∧ b < hi) (hT : ∀ k, lo ≤ k → k < hi → ¬ T k) : Sl enc sz w' A l :=
  h.upd hu fun b o e => hT b (hA b o e).1 (hA b o e).2
theorem lssI_yes (t : TypeId) (x y : Operand) (a b : Int) (h : a < b) (W : World) : (do eqGuard .lss t x y (.int .i64 a) (.int .i64 b); binOp .lss t (.int .i64 a) (.int .i64 b) : Sem Value).run Try.prog W = .ok (.bool true) W := by
  go_simp
theorem subI_run (t : TypeId) (x y : Operand) (a b : Int) (h : -9223372036854775808 ≤ a - b ∧ a - b ≤ 9223372036854775807) (W : World) : (do eqGuard .sub t x y (.int .i64 a) (.int .i64 b); binOp .sub t (.int .i64 a) (.int .i64 b) : Sem Value).run Try.prog W = .ok (.int .i64 (a - b)) W := by
  have h2 : IntKind.i64.wrap (a - b) = a - b := by rw [IntKind.wrap_i64]; omega
  go_simp
theorem minL_run (ts : Array TypeId) (t : TypeId) (a b : Int) (h : a ≤ b) (W : World) : (Builtin.min_ ts t #[.int .i64 a, .int .i64 b]).run Try.prog W = .ok (.int .i64 a) W := by
  have h2 : ¬ b < a := by omega
  go_simp
theorem ldSE (b j n c : Nat) (A : Option Addr) (W : World) (h : W.cell? ⟨b, j, none⟩ = some (.slice A n c)) : (Instr.loadAt 64 (.pointer (some ⟨b, j, none⟩))).run Try.prog W = .ok (.slice A n c) W := by
  go_simp
end Go.Proofs.Ytjbbobhjomhnmaa.H
