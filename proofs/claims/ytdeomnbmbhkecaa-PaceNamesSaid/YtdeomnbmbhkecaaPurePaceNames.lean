/- The law PaceNames (the error and limits of layer 15) returns true, whatever the memory. No conditions. -/
import Derived.Test.YtdeomnbmbhkecaaPPaceNamesx1
namespace Go.Proofs.Ytdeomnbmbhkecaa.Pure
open Go.RowKit Go.Proofs.Ytdeomnbmbhkecaa.PPaceNames Go.Proofs.YtdeomnbmbhkecaaW.PrintWords Go.Proofs.YtdeomnbmbhkecaaW.PrintLast

/-- YOURS: screelaw15_PaceNames.f  = some true
What it reaches (each with k first where it has rounds; `.mono`: more rounds tell the same; `.l0`, ..: its loops, with `.mono_l`): screelaw15_PaceNames.f -/
theorem PaceNames : screelaw15_PaceNames.Pure := by
  rfl

end Go.Proofs.Ytdeomnbmbhkecaa.Pure
