/- The law ScriptNames (errors, limits, kinds of layer 20) returns true, whatever the memory. No conditions. -/
import Derived.Test.YtdeomnbmbhkecaaPScriptNamesx1
namespace Go.Proofs.Ytdeomnbmbhkecaa.Pure
open Go.RowKit Go.Proofs.Ytdeomnbmbhkecaa.PScriptNames Go.Proofs.YtdeomnbmbhkecaaW.PrintWords Go.Proofs.YtdeomnbmbhkecaaW.PrintLast

/-- YOURS: screelaw20_ScriptNames.f  = some true
What it reaches (each with k first where it has rounds; `.mono`: more rounds tell the same; `.l0`, ..: its loops, with `.mono_l`): screelaw20_ScriptNames.f -/
theorem ScriptNames : screelaw20_ScriptNames.Pure := by
  rfl

end Go.Proofs.Ytdeomnbmbhkecaa.Pure
