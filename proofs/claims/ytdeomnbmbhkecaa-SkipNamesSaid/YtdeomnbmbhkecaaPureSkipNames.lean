/- The law SkipNames (the limits of layer 5) returns true, whatever the memory. No conditions. -/
import Derived.Test.YtdeomnbmbhkecaaPSkipNamesx1
namespace Go.Proofs.Ytdeomnbmbhkecaa.Pure
open Go.RowKit Go.Proofs.Ytdeomnbmbhkecaa.PSkipNames Go.Proofs.YtdeomnbmbhkecaaW.PrintWords Go.Proofs.YtdeomnbmbhkecaaW.PrintLast

/-- YOURS: screelaw5_SkipNames.f  = some true
What it reaches (each with k first where it has rounds; `.mono`: more rounds tell the same; `.l0`, ..: its loops, with `.mono_l`): screelaw5_SkipNames.f -/
theorem SkipNames : screelaw5_SkipNames.Pure := by
  rfl

end Go.Proofs.Ytdeomnbmbhkecaa.Pure
