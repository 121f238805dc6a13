/-
  No cell of these rows narrows 'for every input' (looked for: loops, veiled, ifaces, maps, wideKeys, modest, calm, conditions, laid).
  DERIVED. THE GIVEN ROWS OF THIS SEAT. 8 by the template 'for every input the law returns true; each argument reads behind the call as it read before'; 0 by the template 'total and deterministic' (their statements: YtjgpcbednhoplaaTotals.lean).
  GIVEN WITH THE SEED: the statements are not yours to turn. If you find one false, say at which input.
  Laid BY PROGRAM, IN A SANDBOX (cutbox-rows.mjs): the forced cells as the released guide's own fill.sh prints them over the translation 4aaa509e48506721… (all of the seat's roots in one cut). By AI agents, Wed Nov 11 2026. No macro, syntax, notation, axiom, sorry.
-/
import Derived.Test.YtjgpcbednhoplaaChecked
import GoSem.Claim
import GoSem.ClaimJoined
import GoSem.ClaimMapViews
import Derived.JoinedTies
import Derived.KernelRfl
namespace Go.Proofs.Ytjgpcbednhoplaa
/- THE CELL 'sum', in the pinned program and in every row, IS THE sha256 OF THE DUMP (.gsa) THAT YtjgpcbednhoplaaProg.lean LOADS. Nothing in Lean hashes anything: it is a label: what it is worth is what the hold of that sum in a sandbox is worth. -/
noncomputable def Try.pinned : Pinned := { name := "ytjgpcbednhoplaa", sum := "4aaa509e48506721a8b3804e70c14c78bd4d83880da02bc55f0e340947cf312e", checked := Try.checked }
namespace Rows
def none {H : Type} : Left H := { results := [], args := [] }

/-- 'screelaw15.PaceChecks': WHATEVER THE INPUT: true; the input reads as it did. -/
def paceChecksSpec : ChangeSpec := { name := "paceChecks", fn := fun _ => fun
  | [d] => { results := [.lit (.bool true)], args := [d] }
  | _ => none }
def paceChecksRow : OpenClaim := { program := "ytjgpcbednhoplaa", sum := "4aaa509e48506721a8b3804e70c14c78bd4d83880da02bc55f0e340947cf312e", func := "scree/screelaw15.PaceChecks", spec := "paceChecks", apart := false }
def PaceChecksSaid : Prop := paceChecksRow.holds Try.pinned (OpenSpec.ofChange paceChecksSpec)

/-- ITS FALSE NEIGHBOUR: 'it returns false'. Refute it at one input. -/
def paceChecksWrong : ChangeSpec := { name := "paceChecks", fn := fun _ => fun
  | [d] => { results := [.lit (.bool false)], args := [d] }
  | _ => none }
def PaceChecksWrongFalsely : Prop := paceChecksRow.holds Try.pinned (OpenSpec.ofChange paceChecksWrong)

/-- 'screelaw15.PacePlays': WHATEVER THE INPUT: true; the input reads as it did. -/
def pacePlaysSpec : ChangeSpec := { name := "pacePlays", fn := fun _ => fun
  | [d1, d2, d3] => { results := [.lit (.bool true)], args := [d1, d2, d3] }
  | _ => none }
def pacePlaysRow : OpenClaim := { program := "ytjgpcbednhoplaa", sum := "4aaa509e48506721a8b3804e70c14c78bd4d83880da02bc55f0e340947cf312e", func := "scree/screelaw15.PacePlays", spec := "pacePlays", apart := false }
def PacePlaysSaid : Prop := pacePlaysRow.holds Try.pinned (OpenSpec.ofChange pacePlaysSpec)

/-- ITS FALSE NEIGHBOUR: 'it returns false'. Refute it at one input. -/
def pacePlaysWrong : ChangeSpec := { name := "pacePlays", fn := fun _ => fun
  | [d1, d2, d3] => { results := [.lit (.bool false)], args := [d1, d2, d3] }
  | _ => none }
def PacePlaysWrongFalsely : Prop := pacePlaysRow.holds Try.pinned (OpenSpec.ofChange pacePlaysWrong)

/-- 'screelaw15.PaceHolds': WHATEVER THE INPUT: true; the input reads as it did. -/
def paceHoldsSpec : ChangeSpec := { name := "paceHolds", fn := fun _ => fun
  | [d1, d2, d3, d4] => { results := [.lit (.bool true)], args := [d1, d2, d3, d4] }
  | _ => none }
def paceHoldsRow : OpenClaim := { program := "ytjgpcbednhoplaa", sum := "4aaa509e48506721a8b3804e70c14c78bd4d83880da02bc55f0e340947cf312e", func := "scree/screelaw15.PaceHolds", spec := "paceHolds", apart := false }
def PaceHoldsSaid : Prop := paceHoldsRow.holds Try.pinned (OpenSpec.ofChange paceHoldsSpec)

/-- ITS FALSE NEIGHBOUR: 'it returns false'. Refute it at one input. -/
def paceHoldsWrong : ChangeSpec := { name := "paceHolds", fn := fun _ => fun
  | [d1, d2, d3, d4] => { results := [.lit (.bool false)], args := [d1, d2, d3, d4] }
  | _ => none }
def PaceHoldsWrongFalsely : Prop := paceHoldsRow.holds Try.pinned (OpenSpec.ofChange paceHoldsWrong)

/-- 'screelaw15.PaceLine': WHATEVER THE INPUT: true; the input reads as it did. -/
def paceLineSpec : ChangeSpec := { name := "paceLine", fn := fun _ => fun
  | [d1, d2, d3, d4] => { results := [.lit (.bool true)], args := [d1, d2, d3, d4] }
  | _ => none }
def paceLineRow : OpenClaim := { program := "ytjgpcbednhoplaa", sum := "4aaa509e48506721a8b3804e70c14c78bd4d83880da02bc55f0e340947cf312e", func := "scree/screelaw15.PaceLine", spec := "paceLine", apart := false }
def PaceLineSaid : Prop := paceLineRow.holds Try.pinned (OpenSpec.ofChange paceLineSpec)

/-- ITS FALSE NEIGHBOUR: 'it returns false'. Refute it at one input. -/
def paceLineWrong : ChangeSpec := { name := "paceLine", fn := fun _ => fun
  | [d1, d2, d3, d4] => { results := [.lit (.bool false)], args := [d1, d2, d3, d4] }
  | _ => none }
def PaceLineWrongFalsely : Prop := paceLineRow.holds Try.pinned (OpenSpec.ofChange paceLineWrong)

/-- 'screelaw15.PaceCaps': WHATEVER THE INPUT: true; the input reads as it did. -/
def paceCapsSpec : ChangeSpec := { name := "paceCaps", fn := fun _ => fun
  | [d1, d2] => { results := [.lit (.bool true)], args := [d1, d2] }
  | _ => none }
def paceCapsRow : OpenClaim := { program := "ytjgpcbednhoplaa", sum := "4aaa509e48506721a8b3804e70c14c78bd4d83880da02bc55f0e340947cf312e", func := "scree/screelaw15.PaceCaps", spec := "paceCaps", apart := false }
def PaceCapsSaid : Prop := paceCapsRow.holds Try.pinned (OpenSpec.ofChange paceCapsSpec)

/-- ITS FALSE NEIGHBOUR: 'it returns false'. Refute it at one input. -/
def paceCapsWrong : ChangeSpec := { name := "paceCaps", fn := fun _ => fun
  | [d1, d2] => { results := [.lit (.bool false)], args := [d1, d2] }
  | _ => none }
def PaceCapsWrongFalsely : Prop := paceCapsRow.holds Try.pinned (OpenSpec.ofChange paceCapsWrong)

/-- 'screelaw15.PaceSums': WHATEVER THE INPUT: true; the input reads as it did. -/
def paceSumsSpec : ChangeSpec := { name := "paceSums", fn := fun _ => fun
  | [d1, d2] => { results := [.lit (.bool true)], args := [d1, d2] }
  | _ => none }
def paceSumsRow : OpenClaim := { program := "ytjgpcbednhoplaa", sum := "4aaa509e48506721a8b3804e70c14c78bd4d83880da02bc55f0e340947cf312e", func := "scree/screelaw15.PaceSums", spec := "paceSums", apart := false }
def PaceSumsSaid : Prop := paceSumsRow.holds Try.pinned (OpenSpec.ofChange paceSumsSpec)

/-- ITS FALSE NEIGHBOUR: 'it returns false'. Refute it at one input. -/
def paceSumsWrong : ChangeSpec := { name := "paceSums", fn := fun _ => fun
  | [d1, d2] => { results := [.lit (.bool false)], args := [d1, d2] }
  | _ => none }
def PaceSumsWrongFalsely : Prop := paceSumsRow.holds Try.pinned (OpenSpec.ofChange paceSumsWrong)

/-- 'screelaw15.PaceRises': WHATEVER THE INPUT: true; the input reads as it did. -/
def paceRisesSpec : ChangeSpec := { name := "paceRises", fn := fun _ => fun
  | [d1, d2, d3] => { results := [.lit (.bool true)], args := [d1, d2, d3] }
  | _ => none }
def paceRisesRow : OpenClaim := { program := "ytjgpcbednhoplaa", sum := "4aaa509e48506721a8b3804e70c14c78bd4d83880da02bc55f0e340947cf312e", func := "scree/screelaw15.PaceRises", spec := "paceRises", apart := false }
def PaceRisesSaid : Prop := paceRisesRow.holds Try.pinned (OpenSpec.ofChange paceRisesSpec)

/-- ITS FALSE NEIGHBOUR: 'it returns false'. Refute it at one input. -/
def paceRisesWrong : ChangeSpec := { name := "paceRises", fn := fun _ => fun
  | [d1, d2, d3] => { results := [.lit (.bool false)], args := [d1, d2, d3] }
  | _ => none }
def PaceRisesWrongFalsely : Prop := paceRisesRow.holds Try.pinned (OpenSpec.ofChange paceRisesWrong)

/-- 'screelaw15.PaceFormulas': WHATEVER THE INPUT: true; the input reads as it did. -/
def paceFormulasSpec : ChangeSpec := { name := "paceFormulas", fn := fun _ => fun
  | [d1, d2, d3] => { results := [.lit (.bool true)], args := [d1, d2, d3] }
  | _ => none }
def paceFormulasRow : OpenClaim := { program := "ytjgpcbednhoplaa", sum := "4aaa509e48506721a8b3804e70c14c78bd4d83880da02bc55f0e340947cf312e", func := "scree/screelaw15.PaceFormulas", spec := "paceFormulas", apart := false }
def PaceFormulasSaid : Prop := paceFormulasRow.holds Try.pinned (OpenSpec.ofChange paceFormulasSpec)

/-- ITS FALSE NEIGHBOUR: 'it returns false'. Refute it at one input. -/
def paceFormulasWrong : ChangeSpec := { name := "paceFormulas", fn := fun _ => fun
  | [d1, d2, d3] => { results := [.lit (.bool false)], args := [d1, d2, d3] }
  | _ => none }
def PaceFormulasWrongFalsely : Prop := paceFormulasRow.holds Try.pinned (OpenSpec.ofChange paceFormulasWrong)

/- THE SECOND FORM. 'bulk': how many values and letters a reading holds, each counted each time it is reached (what is shared counts as often as it is met; a slice's spare places count too). A statement '..UptoSaid' is the law's where the arguments, and the package variables that the reading takes, are together of bulk at most 1048576: NARROWER than '..Said'. Prove '..Said' where nothing that the law and all that it calls make is longer than what came in: it says more and counts as full. Else prove '..UptoSaid'. A law counts once. -/
mutual
def uptoBulk {H : Type} : DataW H → Nat
  | .lit (.string bytes) => bytes.length + 1
  | .lit _ => 1
  | .nil => 1
  | .ptr d => uptoBulk d + 1
  | .slice elems spare => uptoBulkAll elems + uptoBulkAll spare + 1
  | .agg parts => uptoBulkAll parts + 1
  | .iface _ d => uptoBulk d + 1
  | .map entries => uptoBulkEntries entries + 1
  | .held _ => 1
def uptoBulkAll {H : Type} : List (DataW H) → Nat
  | [] => 0
  | d :: r => uptoBulk d + uptoBulkAll r
def uptoBulkEntries {H : Type} : List (Lit × DataW H) → Nat
  | [] => 0
  | x :: r => uptoBulkEntry x + uptoBulkEntries r
def uptoBulkEntry {H : Type} : Lit × DataW H → Nat
  | (.string bytes, d) => bytes.length + uptoBulk d + 1
  | (_, d) => uptoBulk d + 1
 end
def uptoSmall : (H : Type) → List (DataW H) → Bool := fun _ ds => decide (uptoBulkAll ds ≤ 1048576)
def OpenSpec.upto (s : _root_.Go.ChangeSpec) : _root_.Go.OpenSpec := { _root_.Go.OpenSpec.ofChange s with cond := some uptoSmall }

/-- 'screelaw15.PaceChecks', WHERE WHAT IT READS IS OF BULK AT MOST 1048576: true; the input reads as it did. -/
def paceChecksUptoRow : OpenClaim := { program := "ytjgpcbednhoplaa", sum := "4aaa509e48506721a8b3804e70c14c78bd4d83880da02bc55f0e340947cf312e", func := "scree/screelaw15.PaceChecks", spec := "paceChecks", apart := false, narrowed := true }
def PaceChecksUptoSaid : Prop := paceChecksUptoRow.holds Try.pinned (OpenSpec.upto paceChecksSpec)

/-- 'screelaw15.PacePlays', WHERE WHAT IT READS IS OF BULK AT MOST 1048576: true; the input reads as it did. -/
def pacePlaysUptoRow : OpenClaim := { program := "ytjgpcbednhoplaa", sum := "4aaa509e48506721a8b3804e70c14c78bd4d83880da02bc55f0e340947cf312e", func := "scree/screelaw15.PacePlays", spec := "pacePlays", apart := false, narrowed := true }
def PacePlaysUptoSaid : Prop := pacePlaysUptoRow.holds Try.pinned (OpenSpec.upto pacePlaysSpec)

/-- 'screelaw15.PaceHolds', WHERE WHAT IT READS IS OF BULK AT MOST 1048576: true; the input reads as it did. -/
def paceHoldsUptoRow : OpenClaim := { program := "ytjgpcbednhoplaa", sum := "4aaa509e48506721a8b3804e70c14c78bd4d83880da02bc55f0e340947cf312e", func := "scree/screelaw15.PaceHolds", spec := "paceHolds", apart := false, narrowed := true }
def PaceHoldsUptoSaid : Prop := paceHoldsUptoRow.holds Try.pinned (OpenSpec.upto paceHoldsSpec)

/-- 'screelaw15.PaceLine', WHERE WHAT IT READS IS OF BULK AT MOST 1048576: true; the input reads as it did. -/
def paceLineUptoRow : OpenClaim := { program := "ytjgpcbednhoplaa", sum := "4aaa509e48506721a8b3804e70c14c78bd4d83880da02bc55f0e340947cf312e", func := "scree/screelaw15.PaceLine", spec := "paceLine", apart := false, narrowed := true }
def PaceLineUptoSaid : Prop := paceLineUptoRow.holds Try.pinned (OpenSpec.upto paceLineSpec)

/-- 'screelaw15.PaceCaps', WHERE WHAT IT READS IS OF BULK AT MOST 1048576: true; the input reads as it did. -/
def paceCapsUptoRow : OpenClaim := { program := "ytjgpcbednhoplaa", sum := "4aaa509e48506721a8b3804e70c14c78bd4d83880da02bc55f0e340947cf312e", func := "scree/screelaw15.PaceCaps", spec := "paceCaps", apart := false, narrowed := true }
def PaceCapsUptoSaid : Prop := paceCapsUptoRow.holds Try.pinned (OpenSpec.upto paceCapsSpec)

/-- 'screelaw15.PaceSums', WHERE WHAT IT READS IS OF BULK AT MOST 1048576: true; the input reads as it did. -/
def paceSumsUptoRow : OpenClaim := { program := "ytjgpcbednhoplaa", sum := "4aaa509e48506721a8b3804e70c14c78bd4d83880da02bc55f0e340947cf312e", func := "scree/screelaw15.PaceSums", spec := "paceSums", apart := false, narrowed := true }
def PaceSumsUptoSaid : Prop := paceSumsUptoRow.holds Try.pinned (OpenSpec.upto paceSumsSpec)

/-- 'screelaw15.PaceRises', WHERE WHAT IT READS IS OF BULK AT MOST 1048576: true; the input reads as it did. -/
def paceRisesUptoRow : OpenClaim := { program := "ytjgpcbednhoplaa", sum := "4aaa509e48506721a8b3804e70c14c78bd4d83880da02bc55f0e340947cf312e", func := "scree/screelaw15.PaceRises", spec := "paceRises", apart := false, narrowed := true }
def PaceRisesUptoSaid : Prop := paceRisesUptoRow.holds Try.pinned (OpenSpec.upto paceRisesSpec)

/-- 'screelaw15.PaceFormulas', WHERE WHAT IT READS IS OF BULK AT MOST 1048576: true; the input reads as it did. -/
def paceFormulasUptoRow : OpenClaim := { program := "ytjgpcbednhoplaa", sum := "4aaa509e48506721a8b3804e70c14c78bd4d83880da02bc55f0e340947cf312e", func := "scree/screelaw15.PaceFormulas", spec := "paceFormulas", apart := false, narrowed := true }
def PaceFormulasUptoSaid : Prop := paceFormulasUptoRow.holds Try.pinned (OpenSpec.upto paceFormulasSpec)

end Rows
end Go.Proofs.Ytjgpcbednhoplaa
