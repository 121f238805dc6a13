/- The script of SkipAll as it comes in: a slice of calls. Conditions: sizes. -/
import Derived.Test.YtjbbobhjomhnmaaSkB
namespace Go.Proofs.Ytjbbobhjomhnmaa.H
open Go Go.RowKit Go.Deep Go.Shelf Go.Proofs Go.Proofs.YtjbbobhjomhnmaaW.PrintWords
set_option linter.unusedVariables false
set_option linter.unusedSimpArgs false
abbrev kOp5 : Kd (Int × Bool × Ent × Int) := Kd.pair (Kd.int .i64) (Kd.pair Kd.bool (Kd.pair kEntry (Kd.int .i64)))
def QOp5 (x : Int × Bool × Ent × Int) : Prop := (Lit.int .i64 x.1).wf = true ∧ True ∧ QEntry x.2.2.1 ∧ (Lit.int .i64 x.2.2.2).wf = true
set_option maxRecDepth 100000 in
theorem rd_op5 : Rd kOp5 Try.prog 55 QOp5 :=
  Rd.struct Try.underlying55 (by kernel_rfl) (.cons (Rd.int Try.underlying3) rfl (by kernel_rfl) (.cons (Rd.bool Try.underlying4) rfl (by kernel_rfl) (.cons rd_entry rfl (by kernel_rfl) (.one (Rd.int Try.underlying3) rfl (by kernel_rfl)))))
def encO5 (o : Int × Bool × Ent × Int) : List Value := [.int .i64 o.1, .bool o.2.1, .string o.2.2.1.1, .int .u64 o.2.2.1.2.1, .bool o.2.2.1.2.2.1, .string o.2.2.1.2.2.2, .int .i64 o.2.2.2]
theorem form_op5 {w : World} {y : Int × Bool × Ent × Int} {c : List Value} (h : kOp5.K w y c) : c = encO5 y := by
  obtain ⟨c1, c2, rfl, h1, c3, c4, rfl, h2, c5, c6, rfl, h3, h4⟩ := h
  have h5 := form_entry h3
  simp only [Kd.string, Kd.int, Kd.bool, Kd.scalar] at h1 h2 h4
  subst h1; subst h2; subst h4; subst h5
  rfl
theorem rd_ops5 : Rd (Kd.slice 55 kOp5) Try.prog 23 (fun xs => xs.length * Try.prog.bytesOf 55 ≤ 140737488351232 ∧ ∀ x ∈ xs, QOp5 x) := Rd.slice Try.underlying23 (by kernel_rfl) rd_op5
theorem sl_ops5 {w : World} {A : Option Addr} {l : List (Int × Bool × Ent × Int)} (h : kOp5.C w A l.length l) : Sl encO5 7 w A l := Sl.of_C (fun _ _ _ hk => form_op5 hk) rfl (fun _ => by simp [encO5]) h
theorem ops5_ok {l : List (Int × Bool × Ent × Int)} (h : l.length * Try.prog.bytesOf 55 ≤ 140737488351232 ∧ ∀ x ∈ l, QOp5 x) : l.length ≤ 1954687338211 ∧ ∀ x ∈ l, -9223372036854775808 ≤ x.2.2.2 ∧ x.2.2.2 ≤ 9223372036854775807 := by
  rw [show Try.prog.bytesOf 55 = 72 by kernel_rfl] at h
  exact ⟨by omega, fun x hx => wf_i64 (h.2 x hx).2.2.2⟩
end Go.Proofs.Ytjbbobhjomhnmaa.H
