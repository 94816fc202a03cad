/-
  No cell of these rows narrows 'for every input' (looked for: loops, veiled, ifaces, maps, wideKeys, modest, calm, conditions, laid).
  DERIVED. THE GIVEN ROWS OF THIS SEAT. 6 by the template 'for every input the law returns true; each argument reads behind the call as it read before'; 0 by the template 'total and deterministic' (their statements: YtkbdlifjhcmgbaaTotals.lean).
  GIVEN WITH THE SEED: the statements are not yours to turn. If you find one false, say at which input.
  Laid BY PROGRAM, IN A SANDBOX (cutbox-rows.mjs): the forced cells as the released guide's own fill.sh prints them over the translation 5e036d33bb171463… (all of the seat's roots in one cut). By AI agents, Wed Nov 11 2026. No macro, syntax, notation, axiom, sorry.
-/
import Derived.Test.YtkbdlifjhcmgbaaChecked
import GoSem.Claim
import GoSem.ClaimJoined
import GoSem.ClaimMapViews
import Derived.JoinedTies
import Derived.KernelRfl
namespace Go.Proofs.Ytkbdlifjhcmgbaa
/- THE CELL 'sum', in the pinned program and in every row, IS THE sha256 OF THE DUMP (.gsa) THAT YtkbdlifjhcmgbaaProg.lean LOADS. Nothing in Lean hashes anything: it is a label: what it is worth is what the hold of that sum in a sandbox is worth. -/
noncomputable def Try.pinned : Pinned := { name := "ytkbdlifjhcmgbaa", sum := "5e036d33bb171463252e0390b47723e9a45292782cddabc47f1f6fe814fd24f1", checked := Try.checked }
namespace Rows
def none {H : Type} : Left H := { results := [], args := [] }

/-- 'stratagemlaw05.TrailDoes': WHATEVER THE INPUT: true; the input reads as it did. -/
def trailDoesSpec : ChangeSpec := { name := "trailDoes", fn := fun _ => fun
  | [d1, d2] => { results := [.lit (.bool true)], args := [d1, d2] }
  | _ => none }
def trailDoesRow : OpenClaim := { program := "ytkbdlifjhcmgbaa", sum := "5e036d33bb171463252e0390b47723e9a45292782cddabc47f1f6fe814fd24f1", func := "stratagem/stratagemlaw05.TrailDoes", spec := "trailDoes", unfollowed := true, recurses := true, apart := false }
def TrailDoesSaid : Prop := trailDoesRow.holds Try.pinned (OpenSpec.ofChange trailDoesSpec)

/-- ITS FALSE NEIGHBOUR: 'it returns false'. Refute it at one input. -/
def trailDoesWrong : ChangeSpec := { name := "trailDoes", fn := fun _ => fun
  | [d1, d2] => { results := [.lit (.bool false)], args := [d1, d2] }
  | _ => none }
def TrailDoesWrongFalsely : Prop := trailDoesRow.holds Try.pinned (OpenSpec.ofChange trailDoesWrong)

/-- 'stratagemlaw05.TrailBack': WHATEVER THE INPUT: true; the input reads as it did. -/
def trailBackSpec : ChangeSpec := { name := "trailBack", fn := fun _ => fun
  | [d1, d2, d3] => { results := [.lit (.bool true)], args := [d1, d2, d3] }
  | _ => none }
def trailBackRow : OpenClaim := { program := "ytkbdlifjhcmgbaa", sum := "5e036d33bb171463252e0390b47723e9a45292782cddabc47f1f6fe814fd24f1", func := "stratagem/stratagemlaw05.TrailBack", spec := "trailBack", unfollowed := true, recurses := true, apart := false }
def TrailBackSaid : Prop := trailBackRow.holds Try.pinned (OpenSpec.ofChange trailBackSpec)

/-- ITS FALSE NEIGHBOUR: 'it returns false'. Refute it at one input. -/
def trailBackWrong : ChangeSpec := { name := "trailBack", fn := fun _ => fun
  | [d1, d2, d3] => { results := [.lit (.bool false)], args := [d1, d2, d3] }
  | _ => none }
def TrailBackWrongFalsely : Prop := trailBackRow.holds Try.pinned (OpenSpec.ofChange trailBackWrong)

/-- 'stratagemlaw05.TrailTypes': WHATEVER THE INPUT: true; the input reads as it did. -/
def trailTypesSpec : ChangeSpec := { name := "trailTypes", fn := fun _ => fun
  | [d1, d2] => { results := [.lit (.bool true)], args := [d1, d2] }
  | _ => none }
def trailTypesRow : OpenClaim := { program := "ytkbdlifjhcmgbaa", sum := "5e036d33bb171463252e0390b47723e9a45292782cddabc47f1f6fe814fd24f1", func := "stratagem/stratagemlaw05.TrailTypes", spec := "trailTypes", unfollowed := true, recurses := true, apart := false }
def TrailTypesSaid : Prop := trailTypesRow.holds Try.pinned (OpenSpec.ofChange trailTypesSpec)

/-- ITS FALSE NEIGHBOUR: 'it returns false'. Refute it at one input. -/
def trailTypesWrong : ChangeSpec := { name := "trailTypes", fn := fun _ => fun
  | [d1, d2] => { results := [.lit (.bool false)], args := [d1, d2] }
  | _ => none }
def TrailTypesWrongFalsely : Prop := trailTypesRow.holds Try.pinned (OpenSpec.ofChange trailTypesWrong)

/-- 'stratagemlaw03.SpansTells': WHATEVER THE INPUT: true; the input reads as it did. -/
def spansTellsSpec : ChangeSpec := { name := "spansTells", fn := fun _ => fun
  | [d1, d2, d3, d4] => { results := [.lit (.bool true)], args := [d1, d2, d3, d4] }
  | _ => none }
def spansTellsRow : OpenClaim := { program := "ytkbdlifjhcmgbaa", sum := "5e036d33bb171463252e0390b47723e9a45292782cddabc47f1f6fe814fd24f1", func := "stratagem/stratagemlaw03.SpansTells", spec := "spansTells", unfollowed := true, recurses := true, apart := false }
def SpansTellsSaid : Prop := spansTellsRow.holds Try.pinned (OpenSpec.ofChange spansTellsSpec)

/-- ITS FALSE NEIGHBOUR: 'it returns false'. Refute it at one input. -/
def spansTellsWrong : ChangeSpec := { name := "spansTells", fn := fun _ => fun
  | [d1, d2, d3, d4] => { results := [.lit (.bool false)], args := [d1, d2, d3, d4] }
  | _ => none }
def SpansTellsWrongFalsely : Prop := spansTellsRow.holds Try.pinned (OpenSpec.ofChange spansTellsWrong)

/-- 'stratagemlaw03.SpansSets': WHATEVER THE INPUT: true; the input reads as it did. -/
def spansSetsSpec : ChangeSpec := { name := "spansSets", fn := fun _ => fun
  | [d1, d2] => { results := [.lit (.bool true)], args := [d1, d2] }
  | _ => none }
def spansSetsRow : OpenClaim := { program := "ytkbdlifjhcmgbaa", sum := "5e036d33bb171463252e0390b47723e9a45292782cddabc47f1f6fe814fd24f1", func := "stratagem/stratagemlaw03.SpansSets", spec := "spansSets", unfollowed := true, recurses := true, apart := false }
def SpansSetsSaid : Prop := spansSetsRow.holds Try.pinned (OpenSpec.ofChange spansSetsSpec)

/-- ITS FALSE NEIGHBOUR: 'it returns false'. Refute it at one input. -/
def spansSetsWrong : ChangeSpec := { name := "spansSets", fn := fun _ => fun
  | [d1, d2] => { results := [.lit (.bool false)], args := [d1, d2] }
  | _ => none }
def SpansSetsWrongFalsely : Prop := spansSetsRow.holds Try.pinned (OpenSpec.ofChange spansSetsWrong)

/-- 'stratagemlaw03.SpansOne': WHATEVER THE INPUT: true; the input reads as it did. -/
def spansOneSpec : ChangeSpec := { name := "spansOne", fn := fun _ => fun
  | [d1, d2] => { results := [.lit (.bool true)], args := [d1, d2] }
  | _ => none }
def spansOneRow : OpenClaim := { program := "ytkbdlifjhcmgbaa", sum := "5e036d33bb171463252e0390b47723e9a45292782cddabc47f1f6fe814fd24f1", func := "stratagem/stratagemlaw03.SpansOne", spec := "spansOne", unfollowed := true, recurses := true, apart := false }
def SpansOneSaid : Prop := spansOneRow.holds Try.pinned (OpenSpec.ofChange spansOneSpec)

/-- ITS FALSE NEIGHBOUR: 'it returns false'. Refute it at one input. -/
def spansOneWrong : ChangeSpec := { name := "spansOne", fn := fun _ => fun
  | [d1, d2] => { results := [.lit (.bool false)], args := [d1, d2] }
  | _ => none }
def SpansOneWrongFalsely : Prop := spansOneRow.holds Try.pinned (OpenSpec.ofChange spansOneWrong)

/- THE SECOND FORM. 'bulk': how many values and letters a reading holds, each counted each time it is reached (what is shared counts as often as it is met; a slice's spare places count too). A statement '..UptoSaid' is the law's where the arguments, and the package variables that the reading takes, are together of bulk at most 1048576: NARROWER than '..Said'. Prove '..Said' where nothing that the law and all that it calls make is longer than what came in: it says more and counts as full. Else prove '..UptoSaid'. A law counts once. -/
mutual
def uptoBulk {H : Type} : DataW H → Nat
  | .lit (.string bytes) => bytes.length + 1
  | .lit _ => 1
  | .nil => 1
  | .ptr d => uptoBulk d + 1
  | .slice elems spare => uptoBulkAll elems + uptoBulkAll spare + 1
  | .agg parts => uptoBulkAll parts + 1
  | .iface _ d => uptoBulk d + 1
  | .map entries => uptoBulkEntries entries + 1
  | .held _ => 1
def uptoBulkAll {H : Type} : List (DataW H) → Nat
  | [] => 0
  | d :: r => uptoBulk d + uptoBulkAll r
def uptoBulkEntries {H : Type} : List (Lit × DataW H) → Nat
  | [] => 0
  | x :: r => uptoBulkEntry x + uptoBulkEntries r
def uptoBulkEntry {H : Type} : Lit × DataW H → Nat
  | (.string bytes, d) => bytes.length + uptoBulk d + 1
  | (_, d) => uptoBulk d + 1
 end
def uptoSmall : (H : Type) → List (DataW H) → Bool := fun _ ds => decide (uptoBulkAll ds ≤ 1048576)
def OpenSpec.upto (s : _root_.Go.ChangeSpec) : _root_.Go.OpenSpec := { _root_.Go.OpenSpec.ofChange s with cond := some uptoSmall }

/-- 'stratagemlaw05.TrailDoes', WHERE WHAT IT READS IS OF BULK AT MOST 1048576: true; the input reads as it did. -/
def trailDoesUptoRow : OpenClaim := { program := "ytkbdlifjhcmgbaa", sum := "5e036d33bb171463252e0390b47723e9a45292782cddabc47f1f6fe814fd24f1", func := "stratagem/stratagemlaw05.TrailDoes", spec := "trailDoes", unfollowed := true, recurses := true, apart := false, narrowed := true }
def TrailDoesUptoSaid : Prop := trailDoesUptoRow.holds Try.pinned (OpenSpec.upto trailDoesSpec)

/-- 'stratagemlaw05.TrailBack', WHERE WHAT IT READS IS OF BULK AT MOST 1048576: true; the input reads as it did. -/
def trailBackUptoRow : OpenClaim := { program := "ytkbdlifjhcmgbaa", sum := "5e036d33bb171463252e0390b47723e9a45292782cddabc47f1f6fe814fd24f1", func := "stratagem/stratagemlaw05.TrailBack", spec := "trailBack", unfollowed := true, recurses := true, apart := false, narrowed := true }
def TrailBackUptoSaid : Prop := trailBackUptoRow.holds Try.pinned (OpenSpec.upto trailBackSpec)

/-- 'stratagemlaw05.TrailTypes', WHERE WHAT IT READS IS OF BULK AT MOST 1048576: true; the input reads as it did. -/
def trailTypesUptoRow : OpenClaim := { program := "ytkbdlifjhcmgbaa", sum := "5e036d33bb171463252e0390b47723e9a45292782cddabc47f1f6fe814fd24f1", func := "stratagem/stratagemlaw05.TrailTypes", spec := "trailTypes", unfollowed := true, recurses := true, apart := false, narrowed := true }
def TrailTypesUptoSaid : Prop := trailTypesUptoRow.holds Try.pinned (OpenSpec.upto trailTypesSpec)

/-- 'stratagemlaw03.SpansTells', WHERE WHAT IT READS IS OF BULK AT MOST 1048576: true; the input reads as it did. -/
def spansTellsUptoRow : OpenClaim := { program := "ytkbdlifjhcmgbaa", sum := "5e036d33bb171463252e0390b47723e9a45292782cddabc47f1f6fe814fd24f1", func := "stratagem/stratagemlaw03.SpansTells", spec := "spansTells", unfollowed := true, recurses := true, apart := false, narrowed := true }
def SpansTellsUptoSaid : Prop := spansTellsUptoRow.holds Try.pinned (OpenSpec.upto spansTellsSpec)

/-- 'stratagemlaw03.SpansSets', WHERE WHAT IT READS IS OF BULK AT MOST 1048576: true; the input reads as it did. -/
def spansSetsUptoRow : OpenClaim := { program := "ytkbdlifjhcmgbaa", sum := "5e036d33bb171463252e0390b47723e9a45292782cddabc47f1f6fe814fd24f1", func := "stratagem/stratagemlaw03.SpansSets", spec := "spansSets", unfollowed := true, recurses := true, apart := false, narrowed := true }
def SpansSetsUptoSaid : Prop := spansSetsUptoRow.holds Try.pinned (OpenSpec.upto spansSetsSpec)

/-- 'stratagemlaw03.SpansOne', WHERE WHAT IT READS IS OF BULK AT MOST 1048576: true; the input reads as it did. -/
def spansOneUptoRow : OpenClaim := { program := "ytkbdlifjhcmgbaa", sum := "5e036d33bb171463252e0390b47723e9a45292782cddabc47f1f6fe814fd24f1", func := "stratagem/stratagemlaw03.SpansOne", spec := "spansOne", unfollowed := true, recurses := true, apart := false, narrowed := true }
def SpansOneUptoSaid : Prop := spansOneUptoRow.holds Try.pinned (OpenSpec.upto spansOneSpec)

end Rows
end Go.Proofs.Ytkbdlifjhcmgbaa
