/- A list of ints that comes in: how it reads. No conditions. -/
import Derived.Test.YtabnpacponkmhaaHSl
namespace Go.Proofs.Ytabnpacponkmhaa.H
open Go.RowKit Go.Deep Go.Proofs.YtabnpacponkmhaaW.PrintWords
theorem rd_ints : Rd (Kd.slice 3 (Kd.int .i64)) Try.prog 25 (fun xs => xs.length * Try.prog.bytesOf 3 ≤ 140737488351232 ∧ ∀ x ∈ xs, (Lit.int .i64 x).wf = true) := Rd.slice Try.underlying25 (by kernel_rfl) (Rd.int Try.underlying3)
theorem sl_ints {w : World} {A : Option Addr} {l : List Int} (h : (Kd.int .i64).C w A l.length l) : Sl encI 1 w A l :=
  Sl.of_C (fun _ _ _ hk => by simpa [Kd.int, Kd.scalar, encI] using hk) rfl (fun _ => by simp [encI]) h
end Go.Proofs.Ytabnpacponkmhaa.H
