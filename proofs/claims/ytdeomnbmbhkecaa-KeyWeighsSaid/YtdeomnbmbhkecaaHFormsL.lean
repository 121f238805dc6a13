/- How lists of writes come in. No conditions. -/
import Derived.Test.YtdeomnbmbhkecaaHForms
import Derived.Test.YtdeomnbmbhkecaaHKey9
namespace Go.Proofs.Ytdeomnbmbhkecaa.H
open Go.RowKit Go.Proofs.YtdeomnbmbhkecaaW.PrintWords
theorem rd_writes : Rd (Kd.slice 65 kWrite) Try.prog 29 (fun xs => xs.length * Try.prog.bytesOf 65 ≤ 140737488351232 ∧ ∀ x ∈ xs, QWrite x) := Rd.slice Try.underlying29 (by kernel_rfl) rd_write
theorem sl_writes {w : World} {A : Option Addr} {l : List Wri} (h : kWrite.C w A l.length l) : Sl encW 3 w A l := Sl.of_C (fun _ _ _ hk => form_write hk) rfl (fun _ => by simp [encW]) h
end Go.Proofs.Ytdeomnbmbhkecaa.H
