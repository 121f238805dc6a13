/- A list of entries that comes in: how it reads. No conditions. -/
import Derived.Test.YtabnpacponkmhaaEHeap
namespace Go.Proofs.Ytabnpacponkmhaa.H
open Go.RowKit Go.Deep Go.Proofs.YtabnpacponkmhaaW.PrintWords
abbrev kEntry : Kd Ent := Kd.pair Kd.string (Kd.pair (Kd.int .u64) (Kd.pair Kd.bool Kd.string))
def QEntry (e : Ent) : Prop := e.1.size ≤ 140737488351232 ∧ (Lit.int .u64 e.2.1).wf = true ∧ True ∧ e.2.2.2.size ≤ 140737488351232
set_option maxRecDepth 100000 in
theorem rd_entry : Rd kEntry Try.prog 51 QEntry :=
  Rd.struct Try.underlying51 (by kernel_rfl) (.cons (Rd.string Try.underlying9) rfl (by kernel_rfl) (.cons (Rd.int Try.underlying49) rfl (by kernel_rfl) (.cons (Rd.bool Try.underlying4) rfl (by kernel_rfl) (.one (Rd.string Try.underlying9) rfl (by kernel_rfl)))))
theorem form_entry {w : World} {y : Ent} {c : List Value} (h : kEntry.K w y c) : c = encE y := by
  obtain ⟨c1, c2, rfl, h1, c3, c4, rfl, h2, c5, c6, rfl, h3, h4⟩ := h
  simp only [Kd.string, Kd.int, Kd.bool, Kd.scalar] at h1 h2 h3 h4
  subst h1; subst h2; subst h3; subst h4
  rfl
theorem rd_entries : Rd (Kd.slice 51 kEntry) Try.prog 45 (fun xs => xs.length * Try.prog.bytesOf 51 ≤ 140737488351232 ∧ ∀ x ∈ xs, QEntry x) := Rd.slice Try.underlying45 (by kernel_rfl) rd_entry
theorem sl_entries {w : World} {A : Option Addr} {l : List Ent} (h : kEntry.C w A l.length l) : Sl encE 4 w A l := Sl.of_C (fun _ _ _ hk => form_entry hk) rfl (fun _ => by simp [encE]) h
end Go.Proofs.Ytabnpacponkmhaa.H
