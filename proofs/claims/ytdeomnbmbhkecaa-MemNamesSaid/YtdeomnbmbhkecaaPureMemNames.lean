/- The law MemNames (the limits of layer 6 are the document's) returns true, whatever the memory. No conditions. -/
import Derived.Test.YtdeomnbmbhkecaaPMemNamesx1
namespace Go.Proofs.Ytdeomnbmbhkecaa.Pure
open Go.RowKit Go.Proofs.Ytdeomnbmbhkecaa.PMemNames Go.Proofs.YtdeomnbmbhkecaaW.PrintWords Go.Proofs.YtdeomnbmbhkecaaW.PrintLast

/-- YOURS: screelaw6_MemNames.f  = some true
What it reaches (each with k first where it has rounds; `.mono`: more rounds tell the same; `.l0`, ..: its loops, with `.mono_l`): screelaw6_MemNames.f -/
theorem MemNames : screelaw6_MemNames.Pure := by
  rfl

end Go.Proofs.Ytdeomnbmbhkecaa.Pure
