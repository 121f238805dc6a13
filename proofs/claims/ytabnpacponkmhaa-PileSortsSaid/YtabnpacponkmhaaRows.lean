/-
  No cell of these rows narrows 'for every input' (looked for: loops, veiled, ifaces, maps, wideKeys, modest, calm, conditions, laid).
  DERIVED. THE GIVEN ROWS OF THIS SEAT. 5 by the template 'for every input the law returns true; each argument reads behind the call as it read before'; 0 by the template 'total and deterministic' (their statements: YtabnpacponkmhaaTotals.lean).
  GIVEN WITH THE SEED: the statements are not yours to turn. If you find one false, say at which input.
  Laid BY PROGRAM, IN A SANDBOX (cutbox-rows.mjs): the forced cells as the released guide's own fill.sh prints them over the translation d627a52da84f10f9… (all of the seat's roots in one cut). By AI agents, Wed Nov 11 2026. No macro, syntax, notation, axiom, sorry.
-/
import Derived.Test.YtabnpacponkmhaaChecked
import GoSem.Claim
import GoSem.ClaimJoined
import GoSem.ClaimMapViews
import Derived.JoinedTies
import Derived.KernelRfl
namespace Go.Proofs.Ytabnpacponkmhaa
/- THE CELL 'sum', in the pinned program and in every row, IS THE sha256 OF THE DUMP (.gsa) THAT YtabnpacponkmhaaProg.lean LOADS. Nothing in Lean hashes anything: it is a label: what it is worth is what the hold of that sum in a sandbox is worth. -/
noncomputable def Try.pinned : Pinned := { name := "ytabnpacponkmhaa", sum := "d627a52da84f10f90780283a314b294c3347ff450b6e37fea16d20632b28518b", checked := Try.checked }
namespace Rows
def none {H : Type} : Left H := { results := [], args := [] }

/-- 'screelaw4.LineFair': WHATEVER THE INPUT: true; the input reads as it did. -/
def lineFairSpec : ChangeSpec := { name := "lineFair", fn := fun _ => fun
  | [d] => { results := [.lit (.bool true)], args := [d] }
  | _ => none }
def lineFairRow : OpenClaim := { program := "ytabnpacponkmhaa", sum := "d627a52da84f10f90780283a314b294c3347ff450b6e37fea16d20632b28518b", func := "scree/screelaw4.LineFair", spec := "lineFair", apart := false }
def LineFairSaid : Prop := lineFairRow.holds Try.pinned (OpenSpec.ofChange lineFairSpec)

/-- ITS FALSE NEIGHBOUR: 'it returns false'. Refute it at one input. -/
def lineFairWrong : ChangeSpec := { name := "lineFair", fn := fun _ => fun
  | [d] => { results := [.lit (.bool false)], args := [d] }
  | _ => none }
def LineFairWrongFalsely : Prop := lineFairRow.holds Try.pinned (OpenSpec.ofChange lineFairWrong)

/-- 'screelaw4.PilePlays': WHATEVER THE INPUT: true; the input reads as it did. -/
def pilePlaysSpec : ChangeSpec := { name := "pilePlays", fn := fun _ => fun
  | [d1, d2, d3] => { results := [.lit (.bool true)], args := [d1, d2, d3] }
  | _ => none }
def pilePlaysRow : OpenClaim := { program := "ytabnpacponkmhaa", sum := "d627a52da84f10f90780283a314b294c3347ff450b6e37fea16d20632b28518b", func := "scree/screelaw4.PilePlays", spec := "pilePlays", unfollowed := true, recurses := true, apart := false }
def PilePlaysSaid : Prop := pilePlaysRow.holds Try.pinned (OpenSpec.ofChange pilePlaysSpec)

/-- ITS FALSE NEIGHBOUR: 'it returns false'. Refute it at one input. -/
def pilePlaysWrong : ChangeSpec := { name := "pilePlays", fn := fun _ => fun
  | [d1, d2, d3] => { results := [.lit (.bool false)], args := [d1, d2, d3] }
  | _ => none }
def PilePlaysWrongFalsely : Prop := pilePlaysRow.holds Try.pinned (OpenSpec.ofChange pilePlaysWrong)

/-- 'screelaw4.PileSorts': WHATEVER THE INPUT: true; the input reads as it did. -/
def pileSortsSpec : ChangeSpec := { name := "pileSorts", fn := fun _ => fun
  | [d1, d2] => { results := [.lit (.bool true)], args := [d1, d2] }
  | _ => none }
def pileSortsRow : OpenClaim := { program := "ytabnpacponkmhaa", sum := "d627a52da84f10f90780283a314b294c3347ff450b6e37fea16d20632b28518b", func := "scree/screelaw4.PileSorts", spec := "pileSorts", unfollowed := true, recurses := true, apart := false }
def PileSortsSaid : Prop := pileSortsRow.holds Try.pinned (OpenSpec.ofChange pileSortsSpec)

/-- ITS FALSE NEIGHBOUR: 'it returns false'. Refute it at one input. -/
def pileSortsWrong : ChangeSpec := { name := "pileSorts", fn := fun _ => fun
  | [d1, d2] => { results := [.lit (.bool false)], args := [d1, d2] }
  | _ => none }
def PileSortsWrongFalsely : Prop := pileSortsRow.holds Try.pinned (OpenSpec.ofChange pileSortsWrong)

/-- 'screelaw4.PileAny': WHATEVER THE INPUT: true; the input reads as it did. -/
def pileAnySpec : ChangeSpec := { name := "pileAny", fn := fun _ => fun
  | [d1, d2] => { results := [.lit (.bool true)], args := [d1, d2] }
  | _ => none }
def pileAnyRow : OpenClaim := { program := "ytabnpacponkmhaa", sum := "d627a52da84f10f90780283a314b294c3347ff450b6e37fea16d20632b28518b", func := "scree/screelaw4.PileAny", spec := "pileAny", unfollowed := true, recurses := true, apart := false }
def PileAnySaid : Prop := pileAnyRow.holds Try.pinned (OpenSpec.ofChange pileAnySpec)

/-- ITS FALSE NEIGHBOUR: 'it returns false'. Refute it at one input. -/
def pileAnyWrong : ChangeSpec := { name := "pileAny", fn := fun _ => fun
  | [d1, d2] => { results := [.lit (.bool false)], args := [d1, d2] }
  | _ => none }
def PileAnyWrongFalsely : Prop := pileAnyRow.holds Try.pinned (OpenSpec.ofChange pileAnyWrong)

/-- 'screelaw4.PileMany': WHATEVER THE INPUT: true; the input reads as it did. -/
def pileManySpec : ChangeSpec := { name := "pileMany", fn := fun _ => fun
  | [d1, d2] => { results := [.lit (.bool true)], args := [d1, d2] }
  | _ => none }
def pileManyRow : OpenClaim := { program := "ytabnpacponkmhaa", sum := "d627a52da84f10f90780283a314b294c3347ff450b6e37fea16d20632b28518b", func := "scree/screelaw4.PileMany", spec := "pileMany", unfollowed := true, recurses := true, apart := false }
def PileManySaid : Prop := pileManyRow.holds Try.pinned (OpenSpec.ofChange pileManySpec)

/-- ITS FALSE NEIGHBOUR: 'it returns false'. Refute it at one input. -/
def pileManyWrong : ChangeSpec := { name := "pileMany", fn := fun _ => fun
  | [d1, d2] => { results := [.lit (.bool false)], args := [d1, d2] }
  | _ => none }
def PileManyWrongFalsely : Prop := pileManyRow.holds Try.pinned (OpenSpec.ofChange pileManyWrong)

/- THE SECOND FORM. 'bulk': how many values and letters a reading holds, each counted each time it is reached (what is shared counts as often as it is met; a slice's spare places count too). A statement '..UptoSaid' is the law's where the arguments, and the package variables that the reading takes, are together of bulk at most 1048576: NARROWER than '..Said'. Prove '..Said' where nothing that the law and all that it calls make is longer than what came in: it says more and counts as full. Else prove '..UptoSaid'. A law counts once. -/
mutual
def uptoBulk {H : Type} : DataW H → Nat
  | .lit (.string bytes) => bytes.length + 1
  | .lit _ => 1
  | .nil => 1
  | .ptr d => uptoBulk d + 1
  | .slice elems spare => uptoBulkAll elems + uptoBulkAll spare + 1
  | .agg parts => uptoBulkAll parts + 1
  | .iface _ d => uptoBulk d + 1
  | .map entries => uptoBulkEntries entries + 1
  | .held _ => 1
def uptoBulkAll {H : Type} : List (DataW H) → Nat
  | [] => 0
  | d :: r => uptoBulk d + uptoBulkAll r
def uptoBulkEntries {H : Type} : List (Lit × DataW H) → Nat
  | [] => 0
  | x :: r => uptoBulkEntry x + uptoBulkEntries r
def uptoBulkEntry {H : Type} : Lit × DataW H → Nat
  | (.string bytes, d) => bytes.length + uptoBulk d + 1
  | (_, d) => uptoBulk d + 1
 end
def uptoSmall : (H : Type) → List (DataW H) → Bool := fun _ ds => decide (uptoBulkAll ds ≤ 1048576)
def OpenSpec.upto (s : _root_.Go.ChangeSpec) : _root_.Go.OpenSpec := { _root_.Go.OpenSpec.ofChange s with cond := some uptoSmall }

/-- 'screelaw4.LineFair', WHERE WHAT IT READS IS OF BULK AT MOST 1048576: true; the input reads as it did. -/
def lineFairUptoRow : OpenClaim := { program := "ytabnpacponkmhaa", sum := "d627a52da84f10f90780283a314b294c3347ff450b6e37fea16d20632b28518b", func := "scree/screelaw4.LineFair", spec := "lineFair", apart := false, narrowed := true }
def LineFairUptoSaid : Prop := lineFairUptoRow.holds Try.pinned (OpenSpec.upto lineFairSpec)

/-- 'screelaw4.PilePlays', WHERE WHAT IT READS IS OF BULK AT MOST 1048576: true; the input reads as it did. -/
def pilePlaysUptoRow : OpenClaim := { program := "ytabnpacponkmhaa", sum := "d627a52da84f10f90780283a314b294c3347ff450b6e37fea16d20632b28518b", func := "scree/screelaw4.PilePlays", spec := "pilePlays", unfollowed := true, recurses := true, apart := false, narrowed := true }
def PilePlaysUptoSaid : Prop := pilePlaysUptoRow.holds Try.pinned (OpenSpec.upto pilePlaysSpec)

/-- 'screelaw4.PileSorts', WHERE WHAT IT READS IS OF BULK AT MOST 1048576: true; the input reads as it did. -/
def pileSortsUptoRow : OpenClaim := { program := "ytabnpacponkmhaa", sum := "d627a52da84f10f90780283a314b294c3347ff450b6e37fea16d20632b28518b", func := "scree/screelaw4.PileSorts", spec := "pileSorts", unfollowed := true, recurses := true, apart := false, narrowed := true }
def PileSortsUptoSaid : Prop := pileSortsUptoRow.holds Try.pinned (OpenSpec.upto pileSortsSpec)

/-- 'screelaw4.PileAny', WHERE WHAT IT READS IS OF BULK AT MOST 1048576: true; the input reads as it did. -/
def pileAnyUptoRow : OpenClaim := { program := "ytabnpacponkmhaa", sum := "d627a52da84f10f90780283a314b294c3347ff450b6e37fea16d20632b28518b", func := "scree/screelaw4.PileAny", spec := "pileAny", unfollowed := true, recurses := true, apart := false, narrowed := true }
def PileAnyUptoSaid : Prop := pileAnyUptoRow.holds Try.pinned (OpenSpec.upto pileAnySpec)

/-- 'screelaw4.PileMany', WHERE WHAT IT READS IS OF BULK AT MOST 1048576: true; the input reads as it did. -/
def pileManyUptoRow : OpenClaim := { program := "ytabnpacponkmhaa", sum := "d627a52da84f10f90780283a314b294c3347ff450b6e37fea16d20632b28518b", func := "scree/screelaw4.PileMany", spec := "pileMany", unfollowed := true, recurses := true, apart := false, narrowed := true }
def PileManyUptoSaid : Prop := pileManyUptoRow.holds Try.pinned (OpenSpec.upto pileManySpec)

end Rows
end Go.Proofs.Ytabnpacponkmhaa
