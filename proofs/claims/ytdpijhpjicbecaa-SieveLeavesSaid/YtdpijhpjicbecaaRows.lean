/-
  No cell of these rows narrows 'for every input' (looked for: loops, veiled, ifaces, maps, wideKeys, modest, calm, conditions, laid).
  DERIVED. THE GIVEN ROWS OF THIS SEAT. 9 by the template 'for every input the law returns true; each argument reads behind the call as it read before'; 0 by the template 'total and deterministic' (their statements: YtdpijhpjicbecaaTotals.lean).
  GIVEN WITH THE SEED: the statements are not yours to turn. If you find one false, say at which input.
  Laid BY PROGRAM, IN A SANDBOX (cutbox-rows.mjs): the forced cells as the released guide's own fill.sh prints them over the translation e569e9f999099cdf… (all of the seat's roots in one cut). By AI agents, Wed Nov 11 2026. No macro, syntax, notation, axiom, sorry.
-/
import Derived.Test.YtdpijhpjicbecaaChecked
import GoSem.Claim
import GoSem.ClaimJoined
import GoSem.ClaimMapViews
import Derived.JoinedTies
import Derived.KernelRfl
namespace Go.Proofs.Ytdpijhpjicbecaa
/- THE CELL 'sum', in the pinned program and in every row, IS THE sha256 OF THE DUMP (.gsa) THAT YtdpijhpjicbecaaProg.lean LOADS. Nothing in Lean hashes anything: it is a label: what it is worth is what the hold of that sum in a sandbox is worth. -/
noncomputable def Try.pinned : Pinned := { name := "ytdpijhpjicbecaa", sum := "e569e9f999099cdf62c49db0305689500a700df085e7f0bb1df20b387e1a3dc4", checked := Try.checked }
namespace Rows
def none {H : Type} : Left H := { results := [], args := [] }

/-- 'screelaw11.MergeAll': WHATEVER THE INPUT: true; the input reads as it did. -/
def mergeAllSpec : ChangeSpec := { name := "mergeAll", fn := fun _ => fun
  | [d1, d2] => { results := [.lit (.bool true)], args := [d1, d2] }
  | _ => none }
def mergeAllRow : OpenClaim := { program := "ytdpijhpjicbecaa", sum := "e569e9f999099cdf62c49db0305689500a700df085e7f0bb1df20b387e1a3dc4", func := "scree/screelaw11.MergeAll", spec := "mergeAll", unfollowed := true, recurses := true, apart := false }
def MergeAllSaid : Prop := mergeAllRow.holds Try.pinned (OpenSpec.ofChange mergeAllSpec)

/-- ITS FALSE NEIGHBOUR: 'it returns false'. Refute it at one input. -/
def mergeAllWrong : ChangeSpec := { name := "mergeAll", fn := fun _ => fun
  | [d1, d2] => { results := [.lit (.bool false)], args := [d1, d2] }
  | _ => none }
def MergeAllWrongFalsely : Prop := mergeAllRow.holds Try.pinned (OpenSpec.ofChange mergeAllWrong)

/-- 'screelaw11.MergeLate': WHATEVER THE INPUT: true; the input reads as it did. -/
def mergeLateSpec : ChangeSpec := { name := "mergeLate", fn := fun _ => fun
  | [d1, d2] => { results := [.lit (.bool true)], args := [d1, d2] }
  | _ => none }
def mergeLateRow : OpenClaim := { program := "ytdpijhpjicbecaa", sum := "e569e9f999099cdf62c49db0305689500a700df085e7f0bb1df20b387e1a3dc4", func := "scree/screelaw11.MergeLate", spec := "mergeLate", unfollowed := true, recurses := true, apart := false }
def MergeLateSaid : Prop := mergeLateRow.holds Try.pinned (OpenSpec.ofChange mergeLateSpec)

/-- ITS FALSE NEIGHBOUR: 'it returns false'. Refute it at one input. -/
def mergeLateWrong : ChangeSpec := { name := "mergeLate", fn := fun _ => fun
  | [d1, d2] => { results := [.lit (.bool false)], args := [d1, d2] }
  | _ => none }
def MergeLateWrongFalsely : Prop := mergeLateRow.holds Try.pinned (OpenSpec.ofChange mergeLateWrong)

/-- 'screelaw11.MergeOrder': WHATEVER THE INPUT: true; the input reads as it did. -/
def mergeOrderSpec : ChangeSpec := { name := "mergeOrder", fn := fun _ => fun
  | [d] => { results := [.lit (.bool true)], args := [d] }
  | _ => none }
def mergeOrderRow : OpenClaim := { program := "ytdpijhpjicbecaa", sum := "e569e9f999099cdf62c49db0305689500a700df085e7f0bb1df20b387e1a3dc4", func := "scree/screelaw11.MergeOrder", spec := "mergeOrder", unfollowed := true, recurses := true, apart := false }
def MergeOrderSaid : Prop := mergeOrderRow.holds Try.pinned (OpenSpec.ofChange mergeOrderSpec)

/-- ITS FALSE NEIGHBOUR: 'it returns false'. Refute it at one input. -/
def mergeOrderWrong : ChangeSpec := { name := "mergeOrder", fn := fun _ => fun
  | [d] => { results := [.lit (.bool false)], args := [d] }
  | _ => none }
def MergeOrderWrongFalsely : Prop := mergeOrderRow.holds Try.pinned (OpenSpec.ofChange mergeOrderWrong)

/-- 'screelaw11.MergeParts': WHATEVER THE INPUT: true; the input reads as it did. -/
def mergePartsSpec : ChangeSpec := { name := "mergeParts", fn := fun _ => fun
  | [d1, d2, d3] => { results := [.lit (.bool true)], args := [d1, d2, d3] }
  | _ => none }
def mergePartsRow : OpenClaim := { program := "ytdpijhpjicbecaa", sum := "e569e9f999099cdf62c49db0305689500a700df085e7f0bb1df20b387e1a3dc4", func := "scree/screelaw11.MergeParts", spec := "mergeParts", unfollowed := true, recurses := true, apart := false }
def MergePartsSaid : Prop := mergePartsRow.holds Try.pinned (OpenSpec.ofChange mergePartsSpec)

/-- ITS FALSE NEIGHBOUR: 'it returns false'. Refute it at one input. -/
def mergePartsWrong : ChangeSpec := { name := "mergeParts", fn := fun _ => fun
  | [d1, d2, d3] => { results := [.lit (.bool false)], args := [d1, d2, d3] }
  | _ => none }
def MergePartsWrongFalsely : Prop := mergePartsRow.holds Try.pinned (OpenSpec.ofChange mergePartsWrong)

/-- 'screelaw11.MergeAny': WHATEVER THE INPUT: true; the input reads as it did. -/
def mergeAnySpec : ChangeSpec := { name := "mergeAny", fn := fun _ => fun
  | [d1, d2] => { results := [.lit (.bool true)], args := [d1, d2] }
  | _ => none }
def mergeAnyRow : OpenClaim := { program := "ytdpijhpjicbecaa", sum := "e569e9f999099cdf62c49db0305689500a700df085e7f0bb1df20b387e1a3dc4", func := "scree/screelaw11.MergeAny", spec := "mergeAny", unfollowed := true, recurses := true, apart := false }
def MergeAnySaid : Prop := mergeAnyRow.holds Try.pinned (OpenSpec.ofChange mergeAnySpec)

/-- ITS FALSE NEIGHBOUR: 'it returns false'. Refute it at one input. -/
def mergeAnyWrong : ChangeSpec := { name := "mergeAny", fn := fun _ => fun
  | [d1, d2] => { results := [.lit (.bool false)], args := [d1, d2] }
  | _ => none }
def MergeAnyWrongFalsely : Prop := mergeAnyRow.holds Try.pinned (OpenSpec.ofChange mergeAnyWrong)

/-- 'screelaw12.SievePicks': WHATEVER THE INPUT: true; the input reads as it did. -/
def sievePicksSpec : ChangeSpec := { name := "sievePicks", fn := fun _ => fun
  | [d1, d2] => { results := [.lit (.bool true)], args := [d1, d2] }
  | _ => none }
def sievePicksRow : OpenClaim := { program := "ytdpijhpjicbecaa", sum := "e569e9f999099cdf62c49db0305689500a700df085e7f0bb1df20b387e1a3dc4", func := "scree/screelaw12.SievePicks", spec := "sievePicks", unfollowed := true, recurses := true, apart := false }
def SievePicksSaid : Prop := sievePicksRow.holds Try.pinned (OpenSpec.ofChange sievePicksSpec)

/-- ITS FALSE NEIGHBOUR: 'it returns false'. Refute it at one input. -/
def sievePicksWrong : ChangeSpec := { name := "sievePicks", fn := fun _ => fun
  | [d1, d2] => { results := [.lit (.bool false)], args := [d1, d2] }
  | _ => none }
def SievePicksWrongFalsely : Prop := sievePicksRow.holds Try.pinned (OpenSpec.ofChange sievePicksWrong)

/-- 'screelaw12.SieveKeeps': WHATEVER THE INPUT: true; the input reads as it did. -/
def sieveKeepsSpec : ChangeSpec := { name := "sieveKeeps", fn := fun _ => fun
  | [d1, d2] => { results := [.lit (.bool true)], args := [d1, d2] }
  | _ => none }
def sieveKeepsRow : OpenClaim := { program := "ytdpijhpjicbecaa", sum := "e569e9f999099cdf62c49db0305689500a700df085e7f0bb1df20b387e1a3dc4", func := "scree/screelaw12.SieveKeeps", spec := "sieveKeeps", unfollowed := true, recurses := true, apart := false }
def SieveKeepsSaid : Prop := sieveKeepsRow.holds Try.pinned (OpenSpec.ofChange sieveKeepsSpec)

/-- ITS FALSE NEIGHBOUR: 'it returns false'. Refute it at one input. -/
def sieveKeepsWrong : ChangeSpec := { name := "sieveKeeps", fn := fun _ => fun
  | [d1, d2] => { results := [.lit (.bool false)], args := [d1, d2] }
  | _ => none }
def SieveKeepsWrongFalsely : Prop := sieveKeepsRow.holds Try.pinned (OpenSpec.ofChange sieveKeepsWrong)

/-- 'screelaw12.SieveLeaves': WHATEVER THE INPUT: true; the input reads as it did. -/
def sieveLeavesSpec : ChangeSpec := { name := "sieveLeaves", fn := fun _ => fun
  | [d1, d2, d3] => { results := [.lit (.bool true)], args := [d1, d2, d3] }
  | _ => none }
def sieveLeavesRow : OpenClaim := { program := "ytdpijhpjicbecaa", sum := "e569e9f999099cdf62c49db0305689500a700df085e7f0bb1df20b387e1a3dc4", func := "scree/screelaw12.SieveLeaves", spec := "sieveLeaves", unfollowed := true, recurses := true, apart := false }
def SieveLeavesSaid : Prop := sieveLeavesRow.holds Try.pinned (OpenSpec.ofChange sieveLeavesSpec)

/-- ITS FALSE NEIGHBOUR: 'it returns false'. Refute it at one input. -/
def sieveLeavesWrong : ChangeSpec := { name := "sieveLeaves", fn := fun _ => fun
  | [d1, d2, d3] => { results := [.lit (.bool false)], args := [d1, d2, d3] }
  | _ => none }
def SieveLeavesWrongFalsely : Prop := sieveLeavesRow.holds Try.pinned (OpenSpec.ofChange sieveLeavesWrong)

/-- 'screelaw12.SieveTrue': WHATEVER THE INPUT: true; the input reads as it did. -/
def sieveTrueSpec : ChangeSpec := { name := "sieveTrue", fn := fun _ => fun
  | [d1, d2, d3] => { results := [.lit (.bool true)], args := [d1, d2, d3] }
  | _ => none }
def sieveTrueRow : OpenClaim := { program := "ytdpijhpjicbecaa", sum := "e569e9f999099cdf62c49db0305689500a700df085e7f0bb1df20b387e1a3dc4", func := "scree/screelaw12.SieveTrue", spec := "sieveTrue", unfollowed := true, recurses := true, apart := false }
def SieveTrueSaid : Prop := sieveTrueRow.holds Try.pinned (OpenSpec.ofChange sieveTrueSpec)

/-- ITS FALSE NEIGHBOUR: 'it returns false'. Refute it at one input. -/
def sieveTrueWrong : ChangeSpec := { name := "sieveTrue", fn := fun _ => fun
  | [d1, d2, d3] => { results := [.lit (.bool false)], args := [d1, d2, d3] }
  | _ => none }
def SieveTrueWrongFalsely : Prop := sieveTrueRow.holds Try.pinned (OpenSpec.ofChange sieveTrueWrong)

/- THE SECOND FORM. 'bulk': how many values and letters a reading holds, each counted each time it is reached (what is shared counts as often as it is met; a slice's spare places count too). A statement '..UptoSaid' is the law's where the arguments, and the package variables that the reading takes, are together of bulk at most 1048576: NARROWER than '..Said'. Prove '..Said' where nothing that the law and all that it calls make is longer than what came in: it says more and counts as full. Else prove '..UptoSaid'. A law counts once. -/
mutual
def uptoBulk {H : Type} : DataW H → Nat
  | .lit (.string bytes) => bytes.length + 1
  | .lit _ => 1
  | .nil => 1
  | .ptr d => uptoBulk d + 1
  | .slice elems spare => uptoBulkAll elems + uptoBulkAll spare + 1
  | .agg parts => uptoBulkAll parts + 1
  | .iface _ d => uptoBulk d + 1
  | .map entries => uptoBulkEntries entries + 1
  | .held _ => 1
def uptoBulkAll {H : Type} : List (DataW H) → Nat
  | [] => 0
  | d :: r => uptoBulk d + uptoBulkAll r
def uptoBulkEntries {H : Type} : List (Lit × DataW H) → Nat
  | [] => 0
  | x :: r => uptoBulkEntry x + uptoBulkEntries r
def uptoBulkEntry {H : Type} : Lit × DataW H → Nat
  | (.string bytes, d) => bytes.length + uptoBulk d + 1
  | (_, d) => uptoBulk d + 1
 end
def uptoSmall : (H : Type) → List (DataW H) → Bool := fun _ ds => decide (uptoBulkAll ds ≤ 1048576)
def OpenSpec.upto (s : _root_.Go.ChangeSpec) : _root_.Go.OpenSpec := { _root_.Go.OpenSpec.ofChange s with cond := some uptoSmall }

/-- 'screelaw11.MergeAll', WHERE WHAT IT READS IS OF BULK AT MOST 1048576: true; the input reads as it did. -/
def mergeAllUptoRow : OpenClaim := { program := "ytdpijhpjicbecaa", sum := "e569e9f999099cdf62c49db0305689500a700df085e7f0bb1df20b387e1a3dc4", func := "scree/screelaw11.MergeAll", spec := "mergeAll", unfollowed := true, recurses := true, apart := false, narrowed := true }
def MergeAllUptoSaid : Prop := mergeAllUptoRow.holds Try.pinned (OpenSpec.upto mergeAllSpec)

/-- 'screelaw11.MergeLate', WHERE WHAT IT READS IS OF BULK AT MOST 1048576: true; the input reads as it did. -/
def mergeLateUptoRow : OpenClaim := { program := "ytdpijhpjicbecaa", sum := "e569e9f999099cdf62c49db0305689500a700df085e7f0bb1df20b387e1a3dc4", func := "scree/screelaw11.MergeLate", spec := "mergeLate", unfollowed := true, recurses := true, apart := false, narrowed := true }
def MergeLateUptoSaid : Prop := mergeLateUptoRow.holds Try.pinned (OpenSpec.upto mergeLateSpec)

/-- 'screelaw11.MergeOrder', WHERE WHAT IT READS IS OF BULK AT MOST 1048576: true; the input reads as it did. -/
def mergeOrderUptoRow : OpenClaim := { program := "ytdpijhpjicbecaa", sum := "e569e9f999099cdf62c49db0305689500a700df085e7f0bb1df20b387e1a3dc4", func := "scree/screelaw11.MergeOrder", spec := "mergeOrder", unfollowed := true, recurses := true, apart := false, narrowed := true }
def MergeOrderUptoSaid : Prop := mergeOrderUptoRow.holds Try.pinned (OpenSpec.upto mergeOrderSpec)

/-- 'screelaw11.MergeParts', WHERE WHAT IT READS IS OF BULK AT MOST 1048576: true; the input reads as it did. -/
def mergePartsUptoRow : OpenClaim := { program := "ytdpijhpjicbecaa", sum := "e569e9f999099cdf62c49db0305689500a700df085e7f0bb1df20b387e1a3dc4", func := "scree/screelaw11.MergeParts", spec := "mergeParts", unfollowed := true, recurses := true, apart := false, narrowed := true }
def MergePartsUptoSaid : Prop := mergePartsUptoRow.holds Try.pinned (OpenSpec.upto mergePartsSpec)

/-- 'screelaw11.MergeAny', WHERE WHAT IT READS IS OF BULK AT MOST 1048576: true; the input reads as it did. -/
def mergeAnyUptoRow : OpenClaim := { program := "ytdpijhpjicbecaa", sum := "e569e9f999099cdf62c49db0305689500a700df085e7f0bb1df20b387e1a3dc4", func := "scree/screelaw11.MergeAny", spec := "mergeAny", unfollowed := true, recurses := true, apart := false, narrowed := true }
def MergeAnyUptoSaid : Prop := mergeAnyUptoRow.holds Try.pinned (OpenSpec.upto mergeAnySpec)

/-- 'screelaw12.SievePicks', WHERE WHAT IT READS IS OF BULK AT MOST 1048576: true; the input reads as it did. -/
def sievePicksUptoRow : OpenClaim := { program := "ytdpijhpjicbecaa", sum := "e569e9f999099cdf62c49db0305689500a700df085e7f0bb1df20b387e1a3dc4", func := "scree/screelaw12.SievePicks", spec := "sievePicks", unfollowed := true, recurses := true, apart := false, narrowed := true }
def SievePicksUptoSaid : Prop := sievePicksUptoRow.holds Try.pinned (OpenSpec.upto sievePicksSpec)

/-- 'screelaw12.SieveKeeps', WHERE WHAT IT READS IS OF BULK AT MOST 1048576: true; the input reads as it did. -/
def sieveKeepsUptoRow : OpenClaim := { program := "ytdpijhpjicbecaa", sum := "e569e9f999099cdf62c49db0305689500a700df085e7f0bb1df20b387e1a3dc4", func := "scree/screelaw12.SieveKeeps", spec := "sieveKeeps", unfollowed := true, recurses := true, apart := false, narrowed := true }
def SieveKeepsUptoSaid : Prop := sieveKeepsUptoRow.holds Try.pinned (OpenSpec.upto sieveKeepsSpec)

/-- 'screelaw12.SieveLeaves', WHERE WHAT IT READS IS OF BULK AT MOST 1048576: true; the input reads as it did. -/
def sieveLeavesUptoRow : OpenClaim := { program := "ytdpijhpjicbecaa", sum := "e569e9f999099cdf62c49db0305689500a700df085e7f0bb1df20b387e1a3dc4", func := "scree/screelaw12.SieveLeaves", spec := "sieveLeaves", unfollowed := true, recurses := true, apart := false, narrowed := true }
def SieveLeavesUptoSaid : Prop := sieveLeavesUptoRow.holds Try.pinned (OpenSpec.upto sieveLeavesSpec)

/-- 'screelaw12.SieveTrue', WHERE WHAT IT READS IS OF BULK AT MOST 1048576: true; the input reads as it did. -/
def sieveTrueUptoRow : OpenClaim := { program := "ytdpijhpjicbecaa", sum := "e569e9f999099cdf62c49db0305689500a700df085e7f0bb1df20b387e1a3dc4", func := "scree/screelaw12.SieveTrue", spec := "sieveTrue", unfollowed := true, recurses := true, apart := false, narrowed := true }
def SieveTrueUptoSaid : Prop := sieveTrueUptoRow.holds Try.pinned (OpenSpec.upto sieveTrueSpec)

end Rows
end Go.Proofs.Ytdpijhpjicbecaa
