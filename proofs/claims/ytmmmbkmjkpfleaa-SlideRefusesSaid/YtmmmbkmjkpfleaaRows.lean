/-
  No cell of these rows narrows 'for every input' (looked for: loops, veiled, ifaces, maps, wideKeys, modest, calm, conditions, laid).
  DERIVED. THE GIVEN ROWS OF THIS SEAT. 5 by the template 'for every input the law returns true; each argument reads behind the call as it read before'; 0 by the template 'total and deterministic' (their statements: YtmmmbkmjkpfleaaTotals.lean).
  GIVEN WITH THE SEED: the statements are not yours to turn. If you find one false, say at which input.
  Laid BY PROGRAM, IN A SANDBOX (cutbox-rows.mjs): the forced cells as the released guide's own fill.sh prints them over the translation bb121623ad763b6f… (all of the seat's roots in one cut). By AI agents, Wed Nov 11 2026. No macro, syntax, notation, axiom, sorry.
-/
import Derived.Test.YtmmmbkmjkpfleaaChecked
import GoSem.Claim
import GoSem.ClaimJoined
import GoSem.ClaimMapViews
import Derived.JoinedTies
import Derived.KernelRfl
namespace Go.Proofs.Ytmmmbkmjkpfleaa
/- THE CELL 'sum', in the pinned program and in every row, IS THE sha256 OF THE DUMP (.gsa) THAT YtmmmbkmjkpfleaaProg.lean LOADS. Nothing in Lean hashes anything: it is a label: what it is worth is what the hold of that sum in a sandbox is worth. -/
noncomputable def Try.pinned : Pinned := { name := "ytmmmbkmjkpfleaa", sum := "bb121623ad763b6fc2659db4146e1f04f8ebb498a680dd0874e72d004a9a63b2", checked := Try.checked }
namespace Rows
def none {H : Type} : Left H := { results := [], args := [] }

/-- 'gleaninglaw16.SlideRefuses': WHATEVER THE INPUT: true; the input reads as it did. -/
def slideRefusesSpec : ChangeSpec := { name := "slideRefuses", fn := fun _ => fun
  | [d1, d2, d3] => { results := [.lit (.bool true)], args := [d1, d2, d3] }
  | _ => none }
def slideRefusesRow : OpenClaim := { program := "ytmmmbkmjkpfleaa", sum := "bb121623ad763b6fc2659db4146e1f04f8ebb498a680dd0874e72d004a9a63b2", func := "gleaning/gleaninglaw16.SlideRefuses", spec := "slideRefuses", unfollowed := true, recurses := true, apart := false }
def SlideRefusesSaid : Prop := slideRefusesRow.holds Try.pinned (OpenSpec.ofChange slideRefusesSpec)

/-- ITS FALSE NEIGHBOUR: 'it returns false'. Refute it at one input. -/
def slideRefusesWrong : ChangeSpec := { name := "slideRefuses", fn := fun _ => fun
  | [d1, d2, d3] => { results := [.lit (.bool false)], args := [d1, d2, d3] }
  | _ => none }
def SlideRefusesWrongFalsely : Prop := slideRefusesRow.holds Try.pinned (OpenSpec.ofChange slideRefusesWrong)

/-- 'gleaninglaw16.SlideHeads': WHATEVER THE INPUT: true; the input reads as it did. -/
def slideHeadsSpec : ChangeSpec := { name := "slideHeads", fn := fun _ => fun
  | [d] => { results := [.lit (.bool true)], args := [d] }
  | _ => none }
def slideHeadsRow : OpenClaim := { program := "ytmmmbkmjkpfleaa", sum := "bb121623ad763b6fc2659db4146e1f04f8ebb498a680dd0874e72d004a9a63b2", func := "gleaning/gleaninglaw16.SlideHeads", spec := "slideHeads", unfollowed := true, recurses := true, apart := false }
def SlideHeadsSaid : Prop := slideHeadsRow.holds Try.pinned (OpenSpec.ofChange slideHeadsSpec)

/-- ITS FALSE NEIGHBOUR: 'it returns false'. Refute it at one input. -/
def slideHeadsWrong : ChangeSpec := { name := "slideHeads", fn := fun _ => fun
  | [d] => { results := [.lit (.bool false)], args := [d] }
  | _ => none }
def SlideHeadsWrongFalsely : Prop := slideHeadsRow.holds Try.pinned (OpenSpec.ofChange slideHeadsWrong)

/-- 'gleaninglaw16.SlideRoots': WHATEVER THE INPUT: true; the input reads as it did. -/
def slideRootsSpec : ChangeSpec := { name := "slideRoots", fn := fun _ => fun
  | [d] => { results := [.lit (.bool true)], args := [d] }
  | _ => none }
def slideRootsRow : OpenClaim := { program := "ytmmmbkmjkpfleaa", sum := "bb121623ad763b6fc2659db4146e1f04f8ebb498a680dd0874e72d004a9a63b2", func := "gleaning/gleaninglaw16.SlideRoots", spec := "slideRoots", unfollowed := true, recurses := true, apart := false }
def SlideRootsSaid : Prop := slideRootsRow.holds Try.pinned (OpenSpec.ofChange slideRootsSpec)

/-- ITS FALSE NEIGHBOUR: 'it returns false'. Refute it at one input. -/
def slideRootsWrong : ChangeSpec := { name := "slideRoots", fn := fun _ => fun
  | [d] => { results := [.lit (.bool false)], args := [d] }
  | _ => none }
def SlideRootsWrongFalsely : Prop := slideRootsRow.holds Try.pinned (OpenSpec.ofChange slideRootsWrong)

/-- 'gleaninglaw16.SlideAll': WHATEVER THE INPUT: true; the input reads as it did. -/
def slideAllSpec : ChangeSpec := { name := "slideAll", fn := fun _ => fun
  | [d] => { results := [.lit (.bool true)], args := [d] }
  | _ => none }
def slideAllRow : OpenClaim := { program := "ytmmmbkmjkpfleaa", sum := "bb121623ad763b6fc2659db4146e1f04f8ebb498a680dd0874e72d004a9a63b2", func := "gleaning/gleaninglaw16.SlideAll", spec := "slideAll", unfollowed := true, recurses := true, apart := false }
def SlideAllSaid : Prop := slideAllRow.holds Try.pinned (OpenSpec.ofChange slideAllSpec)

/-- ITS FALSE NEIGHBOUR: 'it returns false'. Refute it at one input. -/
def slideAllWrong : ChangeSpec := { name := "slideAll", fn := fun _ => fun
  | [d] => { results := [.lit (.bool false)], args := [d] }
  | _ => none }
def SlideAllWrongFalsely : Prop := slideAllRow.holds Try.pinned (OpenSpec.ofChange slideAllWrong)

/-- 'gleaninglaw16.SlideWords': WHATEVER THE INPUT: true; the input reads as it did. -/
def slideWordsSpec : ChangeSpec := { name := "slideWords", fn := fun _ => fun
  | [d] => { results := [.lit (.bool true)], args := [d] }
  | _ => none }
def slideWordsRow : OpenClaim := { program := "ytmmmbkmjkpfleaa", sum := "bb121623ad763b6fc2659db4146e1f04f8ebb498a680dd0874e72d004a9a63b2", func := "gleaning/gleaninglaw16.SlideWords", spec := "slideWords", unfollowed := true, recurses := true, apart := false }
def SlideWordsSaid : Prop := slideWordsRow.holds Try.pinned (OpenSpec.ofChange slideWordsSpec)

/-- ITS FALSE NEIGHBOUR: 'it returns false'. Refute it at one input. -/
def slideWordsWrong : ChangeSpec := { name := "slideWords", fn := fun _ => fun
  | [d] => { results := [.lit (.bool false)], args := [d] }
  | _ => none }
def SlideWordsWrongFalsely : Prop := slideWordsRow.holds Try.pinned (OpenSpec.ofChange slideWordsWrong)

/- THE SECOND FORM. 'bulk': how many values and letters a reading holds, each counted each time it is reached (what is shared counts as often as it is met; a slice's spare places count too). A statement '..UptoSaid' is the law's where the arguments, and the package variables that the reading takes, are together of bulk at most 1048576: NARROWER than '..Said'. Prove '..Said' where nothing that the law and all that it calls make is longer than what came in: it says more and counts as full. Else prove '..UptoSaid'. A law counts once. -/
mutual
def uptoBulk {H : Type} : DataW H → Nat
  | .lit (.string bytes) => bytes.length + 1
  | .lit _ => 1
  | .nil => 1
  | .ptr d => uptoBulk d + 1
  | .slice elems spare => uptoBulkAll elems + uptoBulkAll spare + 1
  | .agg parts => uptoBulkAll parts + 1
  | .iface _ d => uptoBulk d + 1
  | .map entries => uptoBulkEntries entries + 1
  | .held _ => 1
def uptoBulkAll {H : Type} : List (DataW H) → Nat
  | [] => 0
  | d :: r => uptoBulk d + uptoBulkAll r
def uptoBulkEntries {H : Type} : List (Lit × DataW H) → Nat
  | [] => 0
  | x :: r => uptoBulkEntry x + uptoBulkEntries r
def uptoBulkEntry {H : Type} : Lit × DataW H → Nat
  | (.string bytes, d) => bytes.length + uptoBulk d + 1
  | (_, d) => uptoBulk d + 1
 end
def uptoSmall : (H : Type) → List (DataW H) → Bool := fun _ ds => decide (uptoBulkAll ds ≤ 1048576)
def OpenSpec.upto (s : _root_.Go.ChangeSpec) : _root_.Go.OpenSpec := { _root_.Go.OpenSpec.ofChange s with cond := some uptoSmall }

/-- 'gleaninglaw16.SlideRefuses', WHERE WHAT IT READS IS OF BULK AT MOST 1048576: true; the input reads as it did. -/
def slideRefusesUptoRow : OpenClaim := { program := "ytmmmbkmjkpfleaa", sum := "bb121623ad763b6fc2659db4146e1f04f8ebb498a680dd0874e72d004a9a63b2", func := "gleaning/gleaninglaw16.SlideRefuses", spec := "slideRefuses", unfollowed := true, recurses := true, apart := false, narrowed := true }
def SlideRefusesUptoSaid : Prop := slideRefusesUptoRow.holds Try.pinned (OpenSpec.upto slideRefusesSpec)

/-- 'gleaninglaw16.SlideHeads', WHERE WHAT IT READS IS OF BULK AT MOST 1048576: true; the input reads as it did. -/
def slideHeadsUptoRow : OpenClaim := { program := "ytmmmbkmjkpfleaa", sum := "bb121623ad763b6fc2659db4146e1f04f8ebb498a680dd0874e72d004a9a63b2", func := "gleaning/gleaninglaw16.SlideHeads", spec := "slideHeads", unfollowed := true, recurses := true, apart := false, narrowed := true }
def SlideHeadsUptoSaid : Prop := slideHeadsUptoRow.holds Try.pinned (OpenSpec.upto slideHeadsSpec)

/-- 'gleaninglaw16.SlideRoots', WHERE WHAT IT READS IS OF BULK AT MOST 1048576: true; the input reads as it did. -/
def slideRootsUptoRow : OpenClaim := { program := "ytmmmbkmjkpfleaa", sum := "bb121623ad763b6fc2659db4146e1f04f8ebb498a680dd0874e72d004a9a63b2", func := "gleaning/gleaninglaw16.SlideRoots", spec := "slideRoots", unfollowed := true, recurses := true, apart := false, narrowed := true }
def SlideRootsUptoSaid : Prop := slideRootsUptoRow.holds Try.pinned (OpenSpec.upto slideRootsSpec)

/-- 'gleaninglaw16.SlideAll', WHERE WHAT IT READS IS OF BULK AT MOST 1048576: true; the input reads as it did. -/
def slideAllUptoRow : OpenClaim := { program := "ytmmmbkmjkpfleaa", sum := "bb121623ad763b6fc2659db4146e1f04f8ebb498a680dd0874e72d004a9a63b2", func := "gleaning/gleaninglaw16.SlideAll", spec := "slideAll", unfollowed := true, recurses := true, apart := false, narrowed := true }
def SlideAllUptoSaid : Prop := slideAllUptoRow.holds Try.pinned (OpenSpec.upto slideAllSpec)

/-- 'gleaninglaw16.SlideWords', WHERE WHAT IT READS IS OF BULK AT MOST 1048576: true; the input reads as it did. -/
def slideWordsUptoRow : OpenClaim := { program := "ytmmmbkmjkpfleaa", sum := "bb121623ad763b6fc2659db4146e1f04f8ebb498a680dd0874e72d004a9a63b2", func := "gleaning/gleaninglaw16.SlideWords", spec := "slideWords", unfollowed := true, recurses := true, apart := false, narrowed := true }
def SlideWordsUptoSaid : Prop := slideWordsUptoRow.holds Try.pinned (OpenSpec.upto slideWordsSpec)

end Rows
end Go.Proofs.Ytmmmbkmjkpfleaa
