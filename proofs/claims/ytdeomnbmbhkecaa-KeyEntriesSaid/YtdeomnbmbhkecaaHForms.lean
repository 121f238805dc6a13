/- How entries and writes come in: the reading lemmas of the seat's structs. No conditions. -/
import Derived.Test.YtdeomnbmbhkecaaHRd
namespace Go.Proofs.Ytdeomnbmbhkecaa.H
open Go.RowKit Go.Proofs.YtdeomnbmbhkecaaW.PrintWords
abbrev kEntry : Kd (ByteArray × Int × Bool × ByteArray) := Kd.pair Kd.string (Kd.pair (Kd.int .u64) (Kd.pair Kd.bool Kd.string))
abbrev kWrite : Kd (ByteArray × Bool × ByteArray) := Kd.pair Kd.string (Kd.pair Kd.bool Kd.string)
def QEntry (y : ByteArray × Int × Bool × ByteArray) : Prop := y.1.size ≤ 140737488351232 ∧ (Lit.int .u64 y.2.1).wf = true ∧ True ∧ y.2.2.2.size ≤ 140737488351232
def QWrite (y : ByteArray × Bool × ByteArray) : Prop := y.1.size ≤ 140737488351232 ∧ True ∧ y.2.2.size ≤ 140737488351232
theorem rd_entry : Rd kEntry Try.prog 55 QEntry :=
  Rd.struct Try.underlying55 (by kernel_rfl) (.cons (Rd.string Try.underlying9) rfl (by kernel_rfl) (.cons (Rd.int Try.underlying28) rfl (by kernel_rfl) (.cons (Rd.bool Try.underlying4) rfl (by kernel_rfl) (.one (Rd.string Try.underlying9) rfl (by kernel_rfl)))))
theorem rd_write : Rd kWrite Try.prog 65 QWrite :=
  Rd.struct Try.underlying65 (by kernel_rfl) (.cons (Rd.string Try.underlying9) rfl (by kernel_rfl) (.cons (Rd.bool Try.underlying4) rfl (by kernel_rfl) (.one (Rd.string Try.underlying9) rfl (by kernel_rfl))))
theorem form_entry {w : World} {y : ByteArray × Int × Bool × ByteArray} {cs : List Value} (h : kEntry.K w y cs) : cs = [.string y.1, .int .u64 y.2.1, .bool y.2.2.1, .string y.2.2.2] := by
  obtain ⟨c0, c1, rfl, h0, c2, c3, rfl, h2, c4, c5, rfl, h4, h5⟩ := h
  simp only [Kd.string, Kd.int, Kd.bool, Kd.scalar] at h0 h2 h4 h5
  subst h0 h2 h4 h5
  rfl
theorem form_write {w : World} {y : ByteArray × Bool × ByteArray} {cs : List Value} (h : kWrite.K w y cs) : cs = [.string y.1, .bool y.2.1, .string y.2.2] := by
  obtain ⟨c0, c1, rfl, h0, c2, c3, rfl, h2, h3⟩ := h
  simp only [Kd.string, Kd.bool, Kd.scalar] at h0 h2 h3
  subst h0 h2 h3
  rfl
end Go.Proofs.Ytdeomnbmbhkecaa.H
