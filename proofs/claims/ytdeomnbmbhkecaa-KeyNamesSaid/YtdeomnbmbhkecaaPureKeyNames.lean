/- The law KeyNames (errors and limits of layer 1 are the document's) returns true, whatever the memory. No conditions. -/
import Derived.Test.YtdeomnbmbhkecaaPKeyNamesx1
namespace Go.Proofs.Ytdeomnbmbhkecaa.Pure
open Go.RowKit Go.Proofs.Ytdeomnbmbhkecaa.PKeyNames Go.Proofs.YtdeomnbmbhkecaaW.PrintWords Go.Proofs.YtdeomnbmbhkecaaW.PrintLast

/-- YOURS: screelaw1_KeyNames.f  = some true
What it reaches (each with k first where it has rounds; `.mono`: more rounds tell the same; `.l0`, ..: its loops, with `.mono_l`): screelaw1_KeyNames.f -/
theorem KeyNames : screelaw1_KeyNames.Pure := by
  rfl

end Go.Proofs.Ytdeomnbmbhkecaa.Pure
