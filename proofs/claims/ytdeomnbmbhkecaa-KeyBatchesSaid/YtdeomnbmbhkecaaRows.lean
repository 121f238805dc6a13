/-
  No cell of these rows narrows 'for every input' (looked for: loops, veiled, ifaces, maps, wideKeys, modest, calm, conditions, laid).
  DERIVED. THE GIVEN ROWS OF THIS SEAT. 13 by the template 'for every input the law returns true; each argument reads behind the call as it read before'; 0 by the template 'total and deterministic' (their statements: YtdeomnbmbhkecaaTotals.lean).
  GIVEN WITH THE SEED: the statements are not yours to turn. If you find one false, say at which input.
  Laid BY PROGRAM, IN A SANDBOX (cutbox-rows.mjs): the forced cells as the released guide's own fill.sh prints them over the translation 9c6cc9496d1373ea… (all of the seat's roots in one cut). By AI agents, Wed Nov 11 2026. No macro, syntax, notation, axiom, sorry.
-/
import Derived.Test.YtdeomnbmbhkecaaChecked
import GoSem.Claim
import GoSem.ClaimJoined
import GoSem.ClaimMapViews
import Derived.JoinedTies
import Derived.KernelRfl
namespace Go.Proofs.Ytdeomnbmbhkecaa
/- THE CELL 'sum', in the pinned program and in every row, IS THE sha256 OF THE DUMP (.gsa) THAT YtdeomnbmbhkecaaProg.lean LOADS. Nothing in Lean hashes anything: it is a label: what it is worth is what the hold of that sum in a sandbox is worth. -/
noncomputable def Try.pinned : Pinned := { name := "ytdeomnbmbhkecaa", sum := "9c6cc9496d1373eaf0cfd005960ec9648bd401f10f4e413d8d9d6b3f40f1f8b1", checked := Try.checked }
namespace Rows
def none {H : Type} : Left H := { results := [], args := [] }

/-- 'screelaw1.KeyNames': WHATEVER THE INPUT: true; the input reads as it did. -/
def keyNamesSpec : ChangeSpec := { name := "keyNames", fn := fun _ => fun
  | [] => { results := [.lit (.bool true)], args := [] }
  | _ => none }
def keyNamesRow : OpenClaim := { program := "ytdeomnbmbhkecaa", sum := "9c6cc9496d1373eaf0cfd005960ec9648bd401f10f4e413d8d9d6b3f40f1f8b1", func := "scree/screelaw1.KeyNames", spec := "keyNames", apart := false }
def KeyNamesSaid : Prop := keyNamesRow.holds Try.pinned (OpenSpec.ofChange keyNamesSpec)

/-- ITS FALSE NEIGHBOUR: 'it returns false'. Refute it at one input. -/
def keyNamesWrong : ChangeSpec := { name := "keyNames", fn := fun _ => fun
  | [] => { results := [.lit (.bool false)], args := [] }
  | _ => none }
def KeyNamesWrongFalsely : Prop := keyNamesRow.holds Try.pinned (OpenSpec.ofChange keyNamesWrong)

/-- 'screelaw5.SkipNames': WHATEVER THE INPUT: true; the input reads as it did. -/
def skipNamesSpec : ChangeSpec := { name := "skipNames", fn := fun _ => fun
  | [] => { results := [.lit (.bool true)], args := [] }
  | _ => none }
def skipNamesRow : OpenClaim := { program := "ytdeomnbmbhkecaa", sum := "9c6cc9496d1373eaf0cfd005960ec9648bd401f10f4e413d8d9d6b3f40f1f8b1", func := "scree/screelaw5.SkipNames", spec := "skipNames", apart := false }
def SkipNamesSaid : Prop := skipNamesRow.holds Try.pinned (OpenSpec.ofChange skipNamesSpec)

/-- ITS FALSE NEIGHBOUR: 'it returns false'. Refute it at one input. -/
def skipNamesWrong : ChangeSpec := { name := "skipNames", fn := fun _ => fun
  | [] => { results := [.lit (.bool false)], args := [] }
  | _ => none }
def SkipNamesWrongFalsely : Prop := skipNamesRow.holds Try.pinned (OpenSpec.ofChange skipNamesWrong)

/-- 'screelaw15.PaceNames': WHATEVER THE INPUT: true; the input reads as it did. -/
def paceNamesSpec : ChangeSpec := { name := "paceNames", fn := fun _ => fun
  | [] => { results := [.lit (.bool true)], args := [] }
  | _ => none }
def paceNamesRow : OpenClaim := { program := "ytdeomnbmbhkecaa", sum := "9c6cc9496d1373eaf0cfd005960ec9648bd401f10f4e413d8d9d6b3f40f1f8b1", func := "scree/screelaw15.PaceNames", spec := "paceNames", apart := false }
def PaceNamesSaid : Prop := paceNamesRow.holds Try.pinned (OpenSpec.ofChange paceNamesSpec)

/-- ITS FALSE NEIGHBOUR: 'it returns false'. Refute it at one input. -/
def paceNamesWrong : ChangeSpec := { name := "paceNames", fn := fun _ => fun
  | [] => { results := [.lit (.bool false)], args := [] }
  | _ => none }
def PaceNamesWrongFalsely : Prop := paceNamesRow.holds Try.pinned (OpenSpec.ofChange paceNamesWrong)

/-- 'screelaw6.MemNames': WHATEVER THE INPUT: true; the input reads as it did. -/
def memNamesSpec : ChangeSpec := { name := "memNames", fn := fun _ => fun
  | [] => { results := [.lit (.bool true)], args := [] }
  | _ => none }
def memNamesRow : OpenClaim := { program := "ytdeomnbmbhkecaa", sum := "9c6cc9496d1373eaf0cfd005960ec9648bd401f10f4e413d8d9d6b3f40f1f8b1", func := "scree/screelaw6.MemNames", spec := "memNames", apart := false }
def MemNamesSaid : Prop := memNamesRow.holds Try.pinned (OpenSpec.ofChange memNamesSpec)

/-- ITS FALSE NEIGHBOUR: 'it returns false'. Refute it at one input. -/
def memNamesWrong : ChangeSpec := { name := "memNames", fn := fun _ => fun
  | [] => { results := [.lit (.bool false)], args := [] }
  | _ => none }
def MemNamesWrongFalsely : Prop := memNamesRow.holds Try.pinned (OpenSpec.ofChange memNamesWrong)

/-- 'screelaw20.ScriptNames': WHATEVER THE INPUT: true; the input reads as it did. -/
def scriptNamesSpec : ChangeSpec := { name := "scriptNames", fn := fun _ => fun
  | [] => { results := [.lit (.bool true)], args := [] }
  | _ => none }
def scriptNamesRow : OpenClaim := { program := "ytdeomnbmbhkecaa", sum := "9c6cc9496d1373eaf0cfd005960ec9648bd401f10f4e413d8d9d6b3f40f1f8b1", func := "scree/screelaw20.ScriptNames", spec := "scriptNames", apart := false }
def ScriptNamesSaid : Prop := scriptNamesRow.holds Try.pinned (OpenSpec.ofChange scriptNamesSpec)

/-- ITS FALSE NEIGHBOUR: 'it returns false'. Refute it at one input. -/
def scriptNamesWrong : ChangeSpec := { name := "scriptNames", fn := fun _ => fun
  | [] => { results := [.lit (.bool false)], args := [] }
  | _ => none }
def ScriptNamesWrongFalsely : Prop := scriptNamesRow.holds Try.pinned (OpenSpec.ofChange scriptNamesWrong)

/-- 'screelaw1.KeyChecks': WHATEVER THE INPUT: true; the input reads as it did. -/
def keyChecksSpec : ChangeSpec := { name := "keyChecks", fn := fun _ => fun
  | [d] => { results := [.lit (.bool true)], args := [d] }
  | _ => none }
def keyChecksRow : OpenClaim := { program := "ytdeomnbmbhkecaa", sum := "9c6cc9496d1373eaf0cfd005960ec9648bd401f10f4e413d8d9d6b3f40f1f8b1", func := "scree/screelaw1.KeyChecks", spec := "keyChecks", apart := false }
def KeyChecksSaid : Prop := keyChecksRow.holds Try.pinned (OpenSpec.ofChange keyChecksSpec)

/-- ITS FALSE NEIGHBOUR: 'it returns false'. Refute it at one input. -/
def keyChecksWrong : ChangeSpec := { name := "keyChecks", fn := fun _ => fun
  | [d] => { results := [.lit (.bool false)], args := [d] }
  | _ => none }
def KeyChecksWrongFalsely : Prop := keyChecksRow.holds Try.pinned (OpenSpec.ofChange keyChecksWrong)

/-- 'screelaw1.KeyEntries': WHATEVER THE INPUT: true; the input reads as it did. -/
def keyEntriesSpec : ChangeSpec := { name := "keyEntries", fn := fun _ => fun
  | [d1, d2] => { results := [.lit (.bool true)], args := [d1, d2] }
  | _ => none }
def keyEntriesRow : OpenClaim := { program := "ytdeomnbmbhkecaa", sum := "9c6cc9496d1373eaf0cfd005960ec9648bd401f10f4e413d8d9d6b3f40f1f8b1", func := "scree/screelaw1.KeyEntries", spec := "keyEntries", apart := false }
def KeyEntriesSaid : Prop := keyEntriesRow.holds Try.pinned (OpenSpec.ofChange keyEntriesSpec)

/-- ITS FALSE NEIGHBOUR: 'it returns false'. Refute it at one input. -/
def keyEntriesWrong : ChangeSpec := { name := "keyEntries", fn := fun _ => fun
  | [d1, d2] => { results := [.lit (.bool false)], args := [d1, d2] }
  | _ => none }
def KeyEntriesWrongFalsely : Prop := keyEntriesRow.holds Try.pinned (OpenSpec.ofChange keyEntriesWrong)

/-- 'screelaw1.KeyWeighs': WHATEVER THE INPUT: true; the input reads as it did. -/
def keyWeighsSpec : ChangeSpec := { name := "keyWeighs", fn := fun _ => fun
  | [d1, d2] => { results := [.lit (.bool true)], args := [d1, d2] }
  | _ => none }
def keyWeighsRow : OpenClaim := { program := "ytdeomnbmbhkecaa", sum := "9c6cc9496d1373eaf0cfd005960ec9648bd401f10f4e413d8d9d6b3f40f1f8b1", func := "scree/screelaw1.KeyWeighs", spec := "keyWeighs", apart := false }
def KeyWeighsSaid : Prop := keyWeighsRow.holds Try.pinned (OpenSpec.ofChange keyWeighsSpec)

/-- ITS FALSE NEIGHBOUR: 'it returns false'. Refute it at one input. -/
def keyWeighsWrong : ChangeSpec := { name := "keyWeighs", fn := fun _ => fun
  | [d1, d2] => { results := [.lit (.bool false)], args := [d1, d2] }
  | _ => none }
def KeyWeighsWrongFalsely : Prop := keyWeighsRow.holds Try.pinned (OpenSpec.ofChange keyWeighsWrong)

/-- 'screelaw1.KeyBatches': WHATEVER THE INPUT: true; the input reads as it did. -/
def keyBatchesSpec : ChangeSpec := { name := "keyBatches", fn := fun _ => fun
  | [d] => { results := [.lit (.bool true)], args := [d] }
  | _ => none }
def keyBatchesRow : OpenClaim := { program := "ytdeomnbmbhkecaa", sum := "9c6cc9496d1373eaf0cfd005960ec9648bd401f10f4e413d8d9d6b3f40f1f8b1", func := "scree/screelaw1.KeyBatches", spec := "keyBatches", apart := false }
def KeyBatchesSaid : Prop := keyBatchesRow.holds Try.pinned (OpenSpec.ofChange keyBatchesSpec)

/-- ITS FALSE NEIGHBOUR: 'it returns false'. Refute it at one input. -/
def keyBatchesWrong : ChangeSpec := { name := "keyBatches", fn := fun _ => fun
  | [d] => { results := [.lit (.bool false)], args := [d] }
  | _ => none }
def KeyBatchesWrongFalsely : Prop := keyBatchesRow.holds Try.pinned (OpenSpec.ofChange keyBatchesWrong)

/-- 'screelaw1.KeyCompares': WHATEVER THE INPUT: true; the input reads as it did. -/
def keyComparesSpec : ChangeSpec := { name := "keyCompares", fn := fun _ => fun
  | [d1, d2] => { results := [.lit (.bool true)], args := [d1, d2] }
  | _ => none }
def keyComparesRow : OpenClaim := { program := "ytdeomnbmbhkecaa", sum := "9c6cc9496d1373eaf0cfd005960ec9648bd401f10f4e413d8d9d6b3f40f1f8b1", func := "scree/screelaw1.KeyCompares", spec := "keyCompares", apart := false }
def KeyComparesSaid : Prop := keyComparesRow.holds Try.pinned (OpenSpec.ofChange keyComparesSpec)

/-- ITS FALSE NEIGHBOUR: 'it returns false'. Refute it at one input. -/
def keyComparesWrong : ChangeSpec := { name := "keyCompares", fn := fun _ => fun
  | [d1, d2] => { results := [.lit (.bool false)], args := [d1, d2] }
  | _ => none }
def KeyComparesWrongFalsely : Prop := keyComparesRow.holds Try.pinned (OpenSpec.ofChange keyComparesWrong)

/-- 'screelaw1.KeyTotal': WHATEVER THE INPUT: true; the input reads as it did. -/
def keyTotalSpec : ChangeSpec := { name := "keyTotal", fn := fun _ => fun
  | [d1, d2, d3] => { results := [.lit (.bool true)], args := [d1, d2, d3] }
  | _ => none }
def keyTotalRow : OpenClaim := { program := "ytdeomnbmbhkecaa", sum := "9c6cc9496d1373eaf0cfd005960ec9648bd401f10f4e413d8d9d6b3f40f1f8b1", func := "scree/screelaw1.KeyTotal", spec := "keyTotal", apart := false }
def KeyTotalSaid : Prop := keyTotalRow.holds Try.pinned (OpenSpec.ofChange keyTotalSpec)

/-- ITS FALSE NEIGHBOUR: 'it returns false'. Refute it at one input. -/
def keyTotalWrong : ChangeSpec := { name := "keyTotal", fn := fun _ => fun
  | [d1, d2, d3] => { results := [.lit (.bool false)], args := [d1, d2, d3] }
  | _ => none }
def KeyTotalWrongFalsely : Prop := keyTotalRow.holds Try.pinned (OpenSpec.ofChange keyTotalWrong)

/-- 'screelaw1.KeyLater': WHATEVER THE INPUT: true; the input reads as it did. -/
def keyLaterSpec : ChangeSpec := { name := "keyLater", fn := fun _ => fun
  | [d1, d2] => { results := [.lit (.bool true)], args := [d1, d2] }
  | _ => none }
def keyLaterRow : OpenClaim := { program := "ytdeomnbmbhkecaa", sum := "9c6cc9496d1373eaf0cfd005960ec9648bd401f10f4e413d8d9d6b3f40f1f8b1", func := "scree/screelaw1.KeyLater", spec := "keyLater", apart := false }
def KeyLaterSaid : Prop := keyLaterRow.holds Try.pinned (OpenSpec.ofChange keyLaterSpec)

/-- ITS FALSE NEIGHBOUR: 'it returns false'. Refute it at one input. -/
def keyLaterWrong : ChangeSpec := { name := "keyLater", fn := fun _ => fun
  | [d1, d2] => { results := [.lit (.bool false)], args := [d1, d2] }
  | _ => none }
def KeyLaterWrongFalsely : Prop := keyLaterRow.holds Try.pinned (OpenSpec.ofChange keyLaterWrong)

/-- 'screelaw1.KeyBounds': WHATEVER THE INPUT: true; the input reads as it did. -/
def keyBoundsSpec : ChangeSpec := { name := "keyBounds", fn := fun _ => fun
  | [d1, d2, d3] => { results := [.lit (.bool true)], args := [d1, d2, d3] }
  | _ => none }
def keyBoundsRow : OpenClaim := { program := "ytdeomnbmbhkecaa", sum := "9c6cc9496d1373eaf0cfd005960ec9648bd401f10f4e413d8d9d6b3f40f1f8b1", func := "scree/screelaw1.KeyBounds", spec := "keyBounds", apart := false }
def KeyBoundsSaid : Prop := keyBoundsRow.holds Try.pinned (OpenSpec.ofChange keyBoundsSpec)

/-- ITS FALSE NEIGHBOUR: 'it returns false'. Refute it at one input. -/
def keyBoundsWrong : ChangeSpec := { name := "keyBounds", fn := fun _ => fun
  | [d1, d2, d3] => { results := [.lit (.bool false)], args := [d1, d2, d3] }
  | _ => none }
def KeyBoundsWrongFalsely : Prop := keyBoundsRow.holds Try.pinned (OpenSpec.ofChange keyBoundsWrong)

/- THE SECOND FORM. 'bulk': how many values and letters a reading holds, each counted each time it is reached (what is shared counts as often as it is met; a slice's spare places count too). A statement '..UptoSaid' is the law's where the arguments, and the package variables that the reading takes, are together of bulk at most 1048576: NARROWER than '..Said'. Prove '..Said' where nothing that the law and all that it calls make is longer than what came in: it says more and counts as full. Else prove '..UptoSaid'. A law counts once. -/
mutual
def uptoBulk {H : Type} : DataW H → Nat
  | .lit (.string bytes) => bytes.length + 1
  | .lit _ => 1
  | .nil => 1
  | .ptr d => uptoBulk d + 1
  | .slice elems spare => uptoBulkAll elems + uptoBulkAll spare + 1
  | .agg parts => uptoBulkAll parts + 1
  | .iface _ d => uptoBulk d + 1
  | .map entries => uptoBulkEntries entries + 1
  | .held _ => 1
def uptoBulkAll {H : Type} : List (DataW H) → Nat
  | [] => 0
  | d :: r => uptoBulk d + uptoBulkAll r
def uptoBulkEntries {H : Type} : List (Lit × DataW H) → Nat
  | [] => 0
  | x :: r => uptoBulkEntry x + uptoBulkEntries r
def uptoBulkEntry {H : Type} : Lit × DataW H → Nat
  | (.string bytes, d) => bytes.length + uptoBulk d + 1
  | (_, d) => uptoBulk d + 1
 end
def uptoSmall : (H : Type) → List (DataW H) → Bool := fun _ ds => decide (uptoBulkAll ds ≤ 1048576)
def OpenSpec.upto (s : _root_.Go.ChangeSpec) : _root_.Go.OpenSpec := { _root_.Go.OpenSpec.ofChange s with cond := some uptoSmall }

/-- 'screelaw1.KeyNames', WHERE WHAT IT READS IS OF BULK AT MOST 1048576: true; the input reads as it did. -/
def keyNamesUptoRow : OpenClaim := { program := "ytdeomnbmbhkecaa", sum := "9c6cc9496d1373eaf0cfd005960ec9648bd401f10f4e413d8d9d6b3f40f1f8b1", func := "scree/screelaw1.KeyNames", spec := "keyNames", apart := false, narrowed := true }
def KeyNamesUptoSaid : Prop := keyNamesUptoRow.holds Try.pinned (OpenSpec.upto keyNamesSpec)

/-- 'screelaw5.SkipNames', WHERE WHAT IT READS IS OF BULK AT MOST 1048576: true; the input reads as it did. -/
def skipNamesUptoRow : OpenClaim := { program := "ytdeomnbmbhkecaa", sum := "9c6cc9496d1373eaf0cfd005960ec9648bd401f10f4e413d8d9d6b3f40f1f8b1", func := "scree/screelaw5.SkipNames", spec := "skipNames", apart := false, narrowed := true }
def SkipNamesUptoSaid : Prop := skipNamesUptoRow.holds Try.pinned (OpenSpec.upto skipNamesSpec)

/-- 'screelaw15.PaceNames', WHERE WHAT IT READS IS OF BULK AT MOST 1048576: true; the input reads as it did. -/
def paceNamesUptoRow : OpenClaim := { program := "ytdeomnbmbhkecaa", sum := "9c6cc9496d1373eaf0cfd005960ec9648bd401f10f4e413d8d9d6b3f40f1f8b1", func := "scree/screelaw15.PaceNames", spec := "paceNames", apart := false, narrowed := true }
def PaceNamesUptoSaid : Prop := paceNamesUptoRow.holds Try.pinned (OpenSpec.upto paceNamesSpec)

/-- 'screelaw6.MemNames', WHERE WHAT IT READS IS OF BULK AT MOST 1048576: true; the input reads as it did. -/
def memNamesUptoRow : OpenClaim := { program := "ytdeomnbmbhkecaa", sum := "9c6cc9496d1373eaf0cfd005960ec9648bd401f10f4e413d8d9d6b3f40f1f8b1", func := "scree/screelaw6.MemNames", spec := "memNames", apart := false, narrowed := true }
def MemNamesUptoSaid : Prop := memNamesUptoRow.holds Try.pinned (OpenSpec.upto memNamesSpec)

/-- 'screelaw20.ScriptNames', WHERE WHAT IT READS IS OF BULK AT MOST 1048576: true; the input reads as it did. -/
def scriptNamesUptoRow : OpenClaim := { program := "ytdeomnbmbhkecaa", sum := "9c6cc9496d1373eaf0cfd005960ec9648bd401f10f4e413d8d9d6b3f40f1f8b1", func := "scree/screelaw20.ScriptNames", spec := "scriptNames", apart := false, narrowed := true }
def ScriptNamesUptoSaid : Prop := scriptNamesUptoRow.holds Try.pinned (OpenSpec.upto scriptNamesSpec)

/-- 'screelaw1.KeyChecks', WHERE WHAT IT READS IS OF BULK AT MOST 1048576: true; the input reads as it did. -/
def keyChecksUptoRow : OpenClaim := { program := "ytdeomnbmbhkecaa", sum := "9c6cc9496d1373eaf0cfd005960ec9648bd401f10f4e413d8d9d6b3f40f1f8b1", func := "scree/screelaw1.KeyChecks", spec := "keyChecks", apart := false, narrowed := true }
def KeyChecksUptoSaid : Prop := keyChecksUptoRow.holds Try.pinned (OpenSpec.upto keyChecksSpec)

/-- 'screelaw1.KeyEntries', WHERE WHAT IT READS IS OF BULK AT MOST 1048576: true; the input reads as it did. -/
def keyEntriesUptoRow : OpenClaim := { program := "ytdeomnbmbhkecaa", sum := "9c6cc9496d1373eaf0cfd005960ec9648bd401f10f4e413d8d9d6b3f40f1f8b1", func := "scree/screelaw1.KeyEntries", spec := "keyEntries", apart := false, narrowed := true }
def KeyEntriesUptoSaid : Prop := keyEntriesUptoRow.holds Try.pinned (OpenSpec.upto keyEntriesSpec)

/-- 'screelaw1.KeyWeighs', WHERE WHAT IT READS IS OF BULK AT MOST 1048576: true; the input reads as it did. -/
def keyWeighsUptoRow : OpenClaim := { program := "ytdeomnbmbhkecaa", sum := "9c6cc9496d1373eaf0cfd005960ec9648bd401f10f4e413d8d9d6b3f40f1f8b1", func := "scree/screelaw1.KeyWeighs", spec := "keyWeighs", apart := false, narrowed := true }
def KeyWeighsUptoSaid : Prop := keyWeighsUptoRow.holds Try.pinned (OpenSpec.upto keyWeighsSpec)

/-- 'screelaw1.KeyBatches', WHERE WHAT IT READS IS OF BULK AT MOST 1048576: true; the input reads as it did. -/
def keyBatchesUptoRow : OpenClaim := { program := "ytdeomnbmbhkecaa", sum := "9c6cc9496d1373eaf0cfd005960ec9648bd401f10f4e413d8d9d6b3f40f1f8b1", func := "scree/screelaw1.KeyBatches", spec := "keyBatches", apart := false, narrowed := true }
def KeyBatchesUptoSaid : Prop := keyBatchesUptoRow.holds Try.pinned (OpenSpec.upto keyBatchesSpec)

/-- 'screelaw1.KeyCompares', WHERE WHAT IT READS IS OF BULK AT MOST 1048576: true; the input reads as it did. -/
def keyComparesUptoRow : OpenClaim := { program := "ytdeomnbmbhkecaa", sum := "9c6cc9496d1373eaf0cfd005960ec9648bd401f10f4e413d8d9d6b3f40f1f8b1", func := "scree/screelaw1.KeyCompares", spec := "keyCompares", apart := false, narrowed := true }
def KeyComparesUptoSaid : Prop := keyComparesUptoRow.holds Try.pinned (OpenSpec.upto keyComparesSpec)

/-- 'screelaw1.KeyTotal', WHERE WHAT IT READS IS OF BULK AT MOST 1048576: true; the input reads as it did. -/
def keyTotalUptoRow : OpenClaim := { program := "ytdeomnbmbhkecaa", sum := "9c6cc9496d1373eaf0cfd005960ec9648bd401f10f4e413d8d9d6b3f40f1f8b1", func := "scree/screelaw1.KeyTotal", spec := "keyTotal", apart := false, narrowed := true }
def KeyTotalUptoSaid : Prop := keyTotalUptoRow.holds Try.pinned (OpenSpec.upto keyTotalSpec)

/-- 'screelaw1.KeyLater', WHERE WHAT IT READS IS OF BULK AT MOST 1048576: true; the input reads as it did. -/
def keyLaterUptoRow : OpenClaim := { program := "ytdeomnbmbhkecaa", sum := "9c6cc9496d1373eaf0cfd005960ec9648bd401f10f4e413d8d9d6b3f40f1f8b1", func := "scree/screelaw1.KeyLater", spec := "keyLater", apart := false, narrowed := true }
def KeyLaterUptoSaid : Prop := keyLaterUptoRow.holds Try.pinned (OpenSpec.upto keyLaterSpec)

/-- 'screelaw1.KeyBounds', WHERE WHAT IT READS IS OF BULK AT MOST 1048576: true; the input reads as it did. -/
def keyBoundsUptoRow : OpenClaim := { program := "ytdeomnbmbhkecaa", sum := "9c6cc9496d1373eaf0cfd005960ec9648bd401f10f4e413d8d9d6b3f40f1f8b1", func := "scree/screelaw1.KeyBounds", spec := "keyBounds", apart := false, narrowed := true }
def KeyBoundsUptoSaid : Prop := keyBoundsUptoRow.holds Try.pinned (OpenSpec.upto keyBoundsSpec)

end Rows
end Go.Proofs.Ytdeomnbmbhkecaa
