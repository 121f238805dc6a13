/-
  No cell of these rows narrows 'for every input' (looked for: loops, veiled, ifaces, maps, wideKeys, modest, calm, conditions, laid).
  DERIVED. THE GIVEN ROWS OF THIS SEAT. 9 by the template 'for every input the law returns true; each argument reads behind the call as it read before'; 0 by the template 'total and deterministic' (their statements: YtjbbobhjomhnmaaTotals.lean).
  GIVEN WITH THE SEED: the statements are not yours to turn. If you find one false, say at which input.
  Laid BY PROGRAM, IN A SANDBOX (cutbox-rows.mjs): the forced cells as the released guide's own fill.sh prints them over the translation 1ae20982d6b03e1a… (all of the seat's roots in one cut). By AI agents, Wed Nov 11 2026. No macro, syntax, notation, axiom, sorry.
-/
import Derived.Test.YtjbbobhjomhnmaaChecked
import GoSem.Claim
import GoSem.ClaimJoined
import GoSem.ClaimMapViews
import Derived.JoinedTies
import Derived.KernelRfl
namespace Go.Proofs.Ytjbbobhjomhnmaa
/- THE CELL 'sum', in the pinned program and in every row, IS THE sha256 OF THE DUMP (.gsa) THAT YtjbbobhjomhnmaaProg.lean LOADS. Nothing in Lean hashes anything: it is a label: what it is worth is what the hold of that sum in a sandbox is worth. -/
noncomputable def Try.pinned : Pinned := { name := "ytjbbobhjomhnmaa", sum := "1ae20982d6b03e1aab29bf1f40bdd78f006533184cadb9197c3f0d8cacd8173d", checked := Try.checked }
namespace Rows
def none {H : Type} : Left H := { results := [], args := [] }

/-- 'screelaw5.SkipAll': WHATEVER THE INPUT: true; the input reads as it did. -/
def skipAllSpec : ChangeSpec := { name := "skipAll", fn := fun _ => fun
  | [d1, d2, d3] => { results := [.lit (.bool true)], args := [d1, d2, d3] }
  | _ => none }
def skipAllRow : OpenClaim := { program := "ytjbbobhjomhnmaa", sum := "1ae20982d6b03e1aab29bf1f40bdd78f006533184cadb9197c3f0d8cacd8173d", func := "scree/screelaw5.SkipAll", spec := "skipAll", unfollowed := true, recurses := true, apart := false }
def SkipAllSaid : Prop := skipAllRow.holds Try.pinned (OpenSpec.ofChange skipAllSpec)

/-- ITS FALSE NEIGHBOUR: 'it returns false'. Refute it at one input. -/
def skipAllWrong : ChangeSpec := { name := "skipAll", fn := fun _ => fun
  | [d1, d2, d3] => { results := [.lit (.bool false)], args := [d1, d2, d3] }
  | _ => none }
def SkipAllWrongFalsely : Prop := skipAllRow.holds Try.pinned (OpenSpec.ofChange skipAllWrong)

/-- 'screelaw5.SkipOrder': WHATEVER THE INPUT: true; the input reads as it did. -/
def skipOrderSpec : ChangeSpec := { name := "skipOrder", fn := fun _ => fun
  | [d1, d2] => { results := [.lit (.bool true)], args := [d1, d2] }
  | _ => none }
def skipOrderRow : OpenClaim := { program := "ytjbbobhjomhnmaa", sum := "1ae20982d6b03e1aab29bf1f40bdd78f006533184cadb9197c3f0d8cacd8173d", func := "scree/screelaw5.SkipOrder", spec := "skipOrder", unfollowed := true, recurses := true, apart := false }
def SkipOrderSaid : Prop := skipOrderRow.holds Try.pinned (OpenSpec.ofChange skipOrderSpec)

/-- ITS FALSE NEIGHBOUR: 'it returns false'. Refute it at one input. -/
def skipOrderWrong : ChangeSpec := { name := "skipOrder", fn := fun _ => fun
  | [d1, d2] => { results := [.lit (.bool false)], args := [d1, d2] }
  | _ => none }
def SkipOrderWrongFalsely : Prop := skipOrderRow.holds Try.pinned (OpenSpec.ofChange skipOrderWrong)

/-- 'screelaw5.SkipSet': WHATEVER THE INPUT: true; the input reads as it did. -/
def skipSetSpec : ChangeSpec := { name := "skipSet", fn := fun _ => fun
  | [d1, d2, d3] => { results := [.lit (.bool true)], args := [d1, d2, d3] }
  | _ => none }
def skipSetRow : OpenClaim := { program := "ytjbbobhjomhnmaa", sum := "1ae20982d6b03e1aab29bf1f40bdd78f006533184cadb9197c3f0d8cacd8173d", func := "scree/screelaw5.SkipSet", spec := "skipSet", unfollowed := true, recurses := true, apart := false }
def SkipSetSaid : Prop := skipSetRow.holds Try.pinned (OpenSpec.ofChange skipSetSpec)

/-- ITS FALSE NEIGHBOUR: 'it returns false'. Refute it at one input. -/
def skipSetWrong : ChangeSpec := { name := "skipSet", fn := fun _ => fun
  | [d1, d2, d3] => { results := [.lit (.bool false)], args := [d1, d2, d3] }
  | _ => none }
def SkipSetWrongFalsely : Prop := skipSetRow.holds Try.pinned (OpenSpec.ofChange skipSetWrong)

/-- 'screelaw5.SkipSeek': WHATEVER THE INPUT: true; the input reads as it did. -/
def skipSeekSpec : ChangeSpec := { name := "skipSeek", fn := fun _ => fun
  | [d1, d2, d3, d4] => { results := [.lit (.bool true)], args := [d1, d2, d3, d4] }
  | _ => none }
def skipSeekRow : OpenClaim := { program := "ytjbbobhjomhnmaa", sum := "1ae20982d6b03e1aab29bf1f40bdd78f006533184cadb9197c3f0d8cacd8173d", func := "scree/screelaw5.SkipSeek", spec := "skipSeek", unfollowed := true, recurses := true, apart := false }
def SkipSeekSaid : Prop := skipSeekRow.holds Try.pinned (OpenSpec.ofChange skipSeekSpec)

/-- ITS FALSE NEIGHBOUR: 'it returns false'. Refute it at one input. -/
def skipSeekWrong : ChangeSpec := { name := "skipSeek", fn := fun _ => fun
  | [d1, d2, d3, d4] => { results := [.lit (.bool false)], args := [d1, d2, d3, d4] }
  | _ => none }
def SkipSeekWrongFalsely : Prop := skipSeekRow.holds Try.pinned (OpenSpec.ofChange skipSeekWrong)

/-- 'screelaw6.MemOrder': WHATEVER THE INPUT: true; the input reads as it did. -/
def memOrderSpec : ChangeSpec := { name := "memOrder", fn := fun _ => fun
  | [d1, d2, d3] => { results := [.lit (.bool true)], args := [d1, d2, d3] }
  | _ => none }
def memOrderRow : OpenClaim := { program := "ytjbbobhjomhnmaa", sum := "1ae20982d6b03e1aab29bf1f40bdd78f006533184cadb9197c3f0d8cacd8173d", func := "scree/screelaw6.MemOrder", spec := "memOrder", unfollowed := true, recurses := true, apart := false }
def MemOrderSaid : Prop := memOrderRow.holds Try.pinned (OpenSpec.ofChange memOrderSpec)

/-- ITS FALSE NEIGHBOUR: 'it returns false'. Refute it at one input. -/
def memOrderWrong : ChangeSpec := { name := "memOrder", fn := fun _ => fun
  | [d1, d2, d3] => { results := [.lit (.bool false)], args := [d1, d2, d3] }
  | _ => none }
def MemOrderWrongFalsely : Prop := memOrderRow.holds Try.pinned (OpenSpec.ofChange memOrderWrong)

/-- 'screelaw6.MemReads': WHATEVER THE INPUT: true; the input reads as it did. -/
def memReadsSpec : ChangeSpec := { name := "memReads", fn := fun _ => fun
  | [d1, d2, d3, d4] => { results := [.lit (.bool true)], args := [d1, d2, d3, d4] }
  | _ => none }
def memReadsRow : OpenClaim := { program := "ytjbbobhjomhnmaa", sum := "1ae20982d6b03e1aab29bf1f40bdd78f006533184cadb9197c3f0d8cacd8173d", func := "scree/screelaw6.MemReads", spec := "memReads", unfollowed := true, recurses := true, apart := false }
def MemReadsSaid : Prop := memReadsRow.holds Try.pinned (OpenSpec.ofChange memReadsSpec)

/-- ITS FALSE NEIGHBOUR: 'it returns false'. Refute it at one input. -/
def memReadsWrong : ChangeSpec := { name := "memReads", fn := fun _ => fun
  | [d1, d2, d3, d4] => { results := [.lit (.bool false)], args := [d1, d2, d3, d4] }
  | _ => none }
def MemReadsWrongFalsely : Prop := memReadsRow.holds Try.pinned (OpenSpec.ofChange memReadsWrong)

/-- 'screelaw6.MemSeen': WHATEVER THE INPUT: true; the input reads as it did. -/
def memSeenSpec : ChangeSpec := { name := "memSeen", fn := fun _ => fun
  | [d1, d2, d3, d4, d5] => { results := [.lit (.bool true)], args := [d1, d2, d3, d4, d5] }
  | _ => none }
def memSeenRow : OpenClaim := { program := "ytjbbobhjomhnmaa", sum := "1ae20982d6b03e1aab29bf1f40bdd78f006533184cadb9197c3f0d8cacd8173d", func := "scree/screelaw6.MemSeen", spec := "memSeen", unfollowed := true, recurses := true, apart := false }
def MemSeenSaid : Prop := memSeenRow.holds Try.pinned (OpenSpec.ofChange memSeenSpec)

/-- ITS FALSE NEIGHBOUR: 'it returns false'. Refute it at one input. -/
def memSeenWrong : ChangeSpec := { name := "memSeen", fn := fun _ => fun
  | [d1, d2, d3, d4, d5] => { results := [.lit (.bool false)], args := [d1, d2, d3, d4, d5] }
  | _ => none }
def MemSeenWrongFalsely : Prop := memSeenRow.holds Try.pinned (OpenSpec.ofChange memSeenWrong)

/-- 'screelaw6.MemAll': WHATEVER THE INPUT: true; the input reads as it did. -/
def memAllSpec : ChangeSpec := { name := "memAll", fn := fun _ => fun
  | [d1, d2, d3] => { results := [.lit (.bool true)], args := [d1, d2, d3] }
  | _ => none }
def memAllRow : OpenClaim := { program := "ytjbbobhjomhnmaa", sum := "1ae20982d6b03e1aab29bf1f40bdd78f006533184cadb9197c3f0d8cacd8173d", func := "scree/screelaw6.MemAll", spec := "memAll", unfollowed := true, recurses := true, apart := false }
def MemAllSaid : Prop := memAllRow.holds Try.pinned (OpenSpec.ofChange memAllSpec)

/-- ITS FALSE NEIGHBOUR: 'it returns false'. Refute it at one input. -/
def memAllWrong : ChangeSpec := { name := "memAll", fn := fun _ => fun
  | [d1, d2, d3] => { results := [.lit (.bool false)], args := [d1, d2, d3] }
  | _ => none }
def MemAllWrongFalsely : Prop := memAllRow.holds Try.pinned (OpenSpec.ofChange memAllWrong)

/-- 'screelaw6.MemFresh': WHATEVER THE INPUT: true; the input reads as it did. -/
def memFreshSpec : ChangeSpec := { name := "memFresh", fn := fun _ => fun
  | [d1, d2] => { results := [.lit (.bool true)], args := [d1, d2] }
  | _ => none }
def memFreshRow : OpenClaim := { program := "ytjbbobhjomhnmaa", sum := "1ae20982d6b03e1aab29bf1f40bdd78f006533184cadb9197c3f0d8cacd8173d", func := "scree/screelaw6.MemFresh", spec := "memFresh", unfollowed := true, recurses := true, apart := false }
def MemFreshSaid : Prop := memFreshRow.holds Try.pinned (OpenSpec.ofChange memFreshSpec)

/-- ITS FALSE NEIGHBOUR: 'it returns false'. Refute it at one input. -/
def memFreshWrong : ChangeSpec := { name := "memFresh", fn := fun _ => fun
  | [d1, d2] => { results := [.lit (.bool false)], args := [d1, d2] }
  | _ => none }
def MemFreshWrongFalsely : Prop := memFreshRow.holds Try.pinned (OpenSpec.ofChange memFreshWrong)

/- THE SECOND FORM. 'bulk': how many values and letters a reading holds, each counted each time it is reached (what is shared counts as often as it is met; a slice's spare places count too). A statement '..UptoSaid' is the law's where the arguments, and the package variables that the reading takes, are together of bulk at most 1048576: NARROWER than '..Said'. Prove '..Said' where nothing that the law and all that it calls make is longer than what came in: it says more and counts as full. Else prove '..UptoSaid'. A law counts once. -/
mutual
def uptoBulk {H : Type} : DataW H → Nat
  | .lit (.string bytes) => bytes.length + 1
  | .lit _ => 1
  | .nil => 1
  | .ptr d => uptoBulk d + 1
  | .slice elems spare => uptoBulkAll elems + uptoBulkAll spare + 1
  | .agg parts => uptoBulkAll parts + 1
  | .iface _ d => uptoBulk d + 1
  | .map entries => uptoBulkEntries entries + 1
  | .held _ => 1
def uptoBulkAll {H : Type} : List (DataW H) → Nat
  | [] => 0
  | d :: r => uptoBulk d + uptoBulkAll r
def uptoBulkEntries {H : Type} : List (Lit × DataW H) → Nat
  | [] => 0
  | x :: r => uptoBulkEntry x + uptoBulkEntries r
def uptoBulkEntry {H : Type} : Lit × DataW H → Nat
  | (.string bytes, d) => bytes.length + uptoBulk d + 1
  | (_, d) => uptoBulk d + 1
 end
def uptoSmall : (H : Type) → List (DataW H) → Bool := fun _ ds => decide (uptoBulkAll ds ≤ 1048576)
def OpenSpec.upto (s : _root_.Go.ChangeSpec) : _root_.Go.OpenSpec := { _root_.Go.OpenSpec.ofChange s with cond := some uptoSmall }

/-- 'screelaw5.SkipAll', WHERE WHAT IT READS IS OF BULK AT MOST 1048576: true; the input reads as it did. -/
def skipAllUptoRow : OpenClaim := { program := "ytjbbobhjomhnmaa", sum := "1ae20982d6b03e1aab29bf1f40bdd78f006533184cadb9197c3f0d8cacd8173d", func := "scree/screelaw5.SkipAll", spec := "skipAll", unfollowed := true, recurses := true, apart := false, narrowed := true }
def SkipAllUptoSaid : Prop := skipAllUptoRow.holds Try.pinned (OpenSpec.upto skipAllSpec)

/-- 'screelaw5.SkipOrder', WHERE WHAT IT READS IS OF BULK AT MOST 1048576: true; the input reads as it did. -/
def skipOrderUptoRow : OpenClaim := { program := "ytjbbobhjomhnmaa", sum := "1ae20982d6b03e1aab29bf1f40bdd78f006533184cadb9197c3f0d8cacd8173d", func := "scree/screelaw5.SkipOrder", spec := "skipOrder", unfollowed := true, recurses := true, apart := false, narrowed := true }
def SkipOrderUptoSaid : Prop := skipOrderUptoRow.holds Try.pinned (OpenSpec.upto skipOrderSpec)

/-- 'screelaw5.SkipSet', WHERE WHAT IT READS IS OF BULK AT MOST 1048576: true; the input reads as it did. -/
def skipSetUptoRow : OpenClaim := { program := "ytjbbobhjomhnmaa", sum := "1ae20982d6b03e1aab29bf1f40bdd78f006533184cadb9197c3f0d8cacd8173d", func := "scree/screelaw5.SkipSet", spec := "skipSet", unfollowed := true, recurses := true, apart := false, narrowed := true }
def SkipSetUptoSaid : Prop := skipSetUptoRow.holds Try.pinned (OpenSpec.upto skipSetSpec)

/-- 'screelaw5.SkipSeek', WHERE WHAT IT READS IS OF BULK AT MOST 1048576: true; the input reads as it did. -/
def skipSeekUptoRow : OpenClaim := { program := "ytjbbobhjomhnmaa", sum := "1ae20982d6b03e1aab29bf1f40bdd78f006533184cadb9197c3f0d8cacd8173d", func := "scree/screelaw5.SkipSeek", spec := "skipSeek", unfollowed := true, recurses := true, apart := false, narrowed := true }
def SkipSeekUptoSaid : Prop := skipSeekUptoRow.holds Try.pinned (OpenSpec.upto skipSeekSpec)

/-- 'screelaw6.MemOrder', WHERE WHAT IT READS IS OF BULK AT MOST 1048576: true; the input reads as it did. -/
def memOrderUptoRow : OpenClaim := { program := "ytjbbobhjomhnmaa", sum := "1ae20982d6b03e1aab29bf1f40bdd78f006533184cadb9197c3f0d8cacd8173d", func := "scree/screelaw6.MemOrder", spec := "memOrder", unfollowed := true, recurses := true, apart := false, narrowed := true }
def MemOrderUptoSaid : Prop := memOrderUptoRow.holds Try.pinned (OpenSpec.upto memOrderSpec)

/-- 'screelaw6.MemReads', WHERE WHAT IT READS IS OF BULK AT MOST 1048576: true; the input reads as it did. -/
def memReadsUptoRow : OpenClaim := { program := "ytjbbobhjomhnmaa", sum := "1ae20982d6b03e1aab29bf1f40bdd78f006533184cadb9197c3f0d8cacd8173d", func := "scree/screelaw6.MemReads", spec := "memReads", unfollowed := true, recurses := true, apart := false, narrowed := true }
def MemReadsUptoSaid : Prop := memReadsUptoRow.holds Try.pinned (OpenSpec.upto memReadsSpec)

/-- 'screelaw6.MemSeen', WHERE WHAT IT READS IS OF BULK AT MOST 1048576: true; the input reads as it did. -/
def memSeenUptoRow : OpenClaim := { program := "ytjbbobhjomhnmaa", sum := "1ae20982d6b03e1aab29bf1f40bdd78f006533184cadb9197c3f0d8cacd8173d", func := "scree/screelaw6.MemSeen", spec := "memSeen", unfollowed := true, recurses := true, apart := false, narrowed := true }
def MemSeenUptoSaid : Prop := memSeenUptoRow.holds Try.pinned (OpenSpec.upto memSeenSpec)

/-- 'screelaw6.MemAll', WHERE WHAT IT READS IS OF BULK AT MOST 1048576: true; the input reads as it did. -/
def memAllUptoRow : OpenClaim := { program := "ytjbbobhjomhnmaa", sum := "1ae20982d6b03e1aab29bf1f40bdd78f006533184cadb9197c3f0d8cacd8173d", func := "scree/screelaw6.MemAll", spec := "memAll", unfollowed := true, recurses := true, apart := false, narrowed := true }
def MemAllUptoSaid : Prop := memAllUptoRow.holds Try.pinned (OpenSpec.upto memAllSpec)

/-- 'screelaw6.MemFresh', WHERE WHAT IT READS IS OF BULK AT MOST 1048576: true; the input reads as it did. -/
def memFreshUptoRow : OpenClaim := { program := "ytjbbobhjomhnmaa", sum := "1ae20982d6b03e1aab29bf1f40bdd78f006533184cadb9197c3f0d8cacd8173d", func := "scree/screelaw6.MemFresh", spec := "memFresh", unfollowed := true, recurses := true, apart := false, narrowed := true }
def MemFreshUptoSaid : Prop := memFreshUptoRow.holds Try.pinned (OpenSpec.upto memFreshSpec)

end Rows
end Go.Proofs.Ytjbbobhjomhnmaa
