/-
  No cell of these rows narrows 'for every input' (looked for: loops, veiled, ifaces, maps, wideKeys, modest, calm, conditions, laid).
  DERIVED. THE GIVEN ROWS OF THIS SEAT. 6 by the template 'for every input the law returns true; each argument reads behind the call as it read before'; 0 by the template 'total and deterministic' (their statements: YthlmpppddloiaaaTotals.lean).
  GIVEN WITH THE SEED: the statements are not yours to turn. If you find one false, say at which input.
  Laid BY PROGRAM, IN A SANDBOX (cutbox-rows.mjs): the forced cells as the released guide's own fill.sh prints them over the translation c6230947b6691ac9… (all of the seat's roots in one cut). By AI agents, Wed Nov 11 2026. No macro, syntax, notation, axiom, sorry.
-/
import Derived.Test.YthlmpppddloiaaaChecked
import GoSem.Claim
import GoSem.ClaimJoined
import GoSem.ClaimMapViews
import Derived.JoinedTies
import Derived.KernelRfl
namespace Go.Proofs.Ythlmpppddloiaaa
/- THE CELL 'sum', in the pinned program and in every row, IS THE sha256 OF THE DUMP (.gsa) THAT YthlmpppddloiaaaProg.lean LOADS. Nothing in Lean hashes anything: it is a label: what it is worth is what the hold of that sum in a sandbox is worth. -/
noncomputable def Try.pinned : Pinned := { name := "ythlmpppddloiaaa", sum := "c6230947b6691ac98568a85d479fe76180506c0a90f2a8a07d6d40f4043dd8fc", checked := Try.checked }
namespace Rows
def none {H : Type} : Left H := { results := [], args := [] }

/-- 'linguistlaw3.ColorRuns': WHATEVER THE INPUT: true; the input reads as it did. -/
def colorRunsSpec : ChangeSpec := { name := "colorRuns", fn := fun _ => fun
  | [] => { results := [.lit (.bool true)], args := [] }
  | _ => none }
def colorRunsRow : OpenClaim := { program := "ythlmpppddloiaaa", sum := "c6230947b6691ac98568a85d479fe76180506c0a90f2a8a07d6d40f4043dd8fc", func := "linguist/linguistlaw3.ColorRuns", spec := "colorRuns", apart := false }
def ColorRunsSaid : Prop := colorRunsRow.holds Try.pinned (OpenSpec.ofChange colorRunsSpec)

/-- ITS FALSE NEIGHBOUR: 'it returns false'. Refute it at one input. -/
def colorRunsWrong : ChangeSpec := { name := "colorRuns", fn := fun _ => fun
  | [] => { results := [.lit (.bool false)], args := [] }
  | _ => none }
def ColorRunsWrongFalsely : Prop := colorRunsRow.holds Try.pinned (OpenSpec.ofChange colorRunsWrong)

/-- 'linguistlaw3.ColorTells': WHATEVER THE INPUT: true; the input reads as it did. -/
def colorTellsSpec : ChangeSpec := { name := "colorTells", fn := fun _ => fun
  | [d1, d2] => { results := [.lit (.bool true)], args := [d1, d2] }
  | _ => none }
def colorTellsRow : OpenClaim := { program := "ythlmpppddloiaaa", sum := "c6230947b6691ac98568a85d479fe76180506c0a90f2a8a07d6d40f4043dd8fc", func := "linguist/linguistlaw3.ColorTells", spec := "colorTells", apart := false }
def ColorTellsSaid : Prop := colorTellsRow.holds Try.pinned (OpenSpec.ofChange colorTellsSpec)

/-- ITS FALSE NEIGHBOUR: 'it returns false'. Refute it at one input. -/
def colorTellsWrong : ChangeSpec := { name := "colorTells", fn := fun _ => fun
  | [d1, d2] => { results := [.lit (.bool false)], args := [d1, d2] }
  | _ => none }
def ColorTellsWrongFalsely : Prop := colorTellsRow.holds Try.pinned (OpenSpec.ofChange colorTellsWrong)

/-- 'linguistlaw3.ColorNear': WHATEVER THE INPUT: true; the input reads as it did. -/
def colorNearSpec : ChangeSpec := { name := "colorNear", fn := fun _ => fun
  | [d1, d2] => { results := [.lit (.bool true)], args := [d1, d2] }
  | _ => none }
def colorNearRow : OpenClaim := { program := "ythlmpppddloiaaa", sum := "c6230947b6691ac98568a85d479fe76180506c0a90f2a8a07d6d40f4043dd8fc", func := "linguist/linguistlaw3.ColorNear", spec := "colorNear", apart := false }
def ColorNearSaid : Prop := colorNearRow.holds Try.pinned (OpenSpec.ofChange colorNearSpec)

/-- ITS FALSE NEIGHBOUR: 'it returns false'. Refute it at one input. -/
def colorNearWrong : ChangeSpec := { name := "colorNear", fn := fun _ => fun
  | [d1, d2] => { results := [.lit (.bool false)], args := [d1, d2] }
  | _ => none }
def ColorNearWrongFalsely : Prop := colorNearRow.holds Try.pinned (OpenSpec.ofChange colorNearWrong)

/-- 'linguistlaw3.ColorMade': WHATEVER THE INPUT: true; the input reads as it did. -/
def colorMadeSpec : ChangeSpec := { name := "colorMade", fn := fun _ => fun
  | [d1, d2, d3, d4] => { results := [.lit (.bool true)], args := [d1, d2, d3, d4] }
  | _ => none }
def colorMadeRow : OpenClaim := { program := "ythlmpppddloiaaa", sum := "c6230947b6691ac98568a85d479fe76180506c0a90f2a8a07d6d40f4043dd8fc", func := "linguist/linguistlaw3.ColorMade", spec := "colorMade", apart := false }
def ColorMadeSaid : Prop := colorMadeRow.holds Try.pinned (OpenSpec.ofChange colorMadeSpec)

/-- ITS FALSE NEIGHBOUR: 'it returns false'. Refute it at one input. -/
def colorMadeWrong : ChangeSpec := { name := "colorMade", fn := fun _ => fun
  | [d1, d2, d3, d4] => { results := [.lit (.bool false)], args := [d1, d2, d3, d4] }
  | _ => none }
def ColorMadeWrongFalsely : Prop := colorMadeRow.holds Try.pinned (OpenSpec.ofChange colorMadeWrong)

/-- 'linguistlaw3.ColorFar': WHATEVER THE INPUT: true; the input reads as it did. -/
def colorFarSpec : ChangeSpec := { name := "colorFar", fn := fun _ => fun
  | [d1, d2, d3] => { results := [.lit (.bool true)], args := [d1, d2, d3] }
  | _ => none }
def colorFarRow : OpenClaim := { program := "ythlmpppddloiaaa", sum := "c6230947b6691ac98568a85d479fe76180506c0a90f2a8a07d6d40f4043dd8fc", func := "linguist/linguistlaw3.ColorFar", spec := "colorFar", apart := false }
def ColorFarSaid : Prop := colorFarRow.holds Try.pinned (OpenSpec.ofChange colorFarSpec)

/-- ITS FALSE NEIGHBOUR: 'it returns false'. Refute it at one input. -/
def colorFarWrong : ChangeSpec := { name := "colorFar", fn := fun _ => fun
  | [d1, d2, d3] => { results := [.lit (.bool false)], args := [d1, d2, d3] }
  | _ => none }
def ColorFarWrongFalsely : Prop := colorFarRow.holds Try.pinned (OpenSpec.ofChange colorFarWrong)

/-- 'linguistlaw3.ColorGrades': WHATEVER THE INPUT: true; the input reads as it did. -/
def colorGradesSpec : ChangeSpec := { name := "colorGrades", fn := fun _ => fun
  | [d1, d2, d3] => { results := [.lit (.bool true)], args := [d1, d2, d3] }
  | _ => none }
def colorGradesRow : OpenClaim := { program := "ythlmpppddloiaaa", sum := "c6230947b6691ac98568a85d479fe76180506c0a90f2a8a07d6d40f4043dd8fc", func := "linguist/linguistlaw3.ColorGrades", spec := "colorGrades", apart := false }
def ColorGradesSaid : Prop := colorGradesRow.holds Try.pinned (OpenSpec.ofChange colorGradesSpec)

/-- ITS FALSE NEIGHBOUR: 'it returns false'. Refute it at one input. -/
def colorGradesWrong : ChangeSpec := { name := "colorGrades", fn := fun _ => fun
  | [d1, d2, d3] => { results := [.lit (.bool false)], args := [d1, d2, d3] }
  | _ => none }
def ColorGradesWrongFalsely : Prop := colorGradesRow.holds Try.pinned (OpenSpec.ofChange colorGradesWrong)

/- THE SECOND FORM. 'bulk': how many values and letters a reading holds, each counted each time it is reached (what is shared counts as often as it is met; a slice's spare places count too). A statement '..UptoSaid' is the law's where the arguments, and the package variables that the reading takes, are together of bulk at most 1048576: NARROWER than '..Said'. Prove '..Said' where nothing that the law and all that it calls make is longer than what came in: it says more and counts as full. Else prove '..UptoSaid'. A law counts once. -/
mutual
def uptoBulk {H : Type} : DataW H → Nat
  | .lit (.string bytes) => bytes.length + 1
  | .lit _ => 1
  | .nil => 1
  | .ptr d => uptoBulk d + 1
  | .slice elems spare => uptoBulkAll elems + uptoBulkAll spare + 1
  | .agg parts => uptoBulkAll parts + 1
  | .iface _ d => uptoBulk d + 1
  | .map entries => uptoBulkEntries entries + 1
  | .held _ => 1
def uptoBulkAll {H : Type} : List (DataW H) → Nat
  | [] => 0
  | d :: r => uptoBulk d + uptoBulkAll r
def uptoBulkEntries {H : Type} : List (Lit × DataW H) → Nat
  | [] => 0
  | x :: r => uptoBulkEntry x + uptoBulkEntries r
def uptoBulkEntry {H : Type} : Lit × DataW H → Nat
  | (.string bytes, d) => bytes.length + uptoBulk d + 1
  | (_, d) => uptoBulk d + 1
 end
def uptoSmall : (H : Type) → List (DataW H) → Bool := fun _ ds => decide (uptoBulkAll ds ≤ 1048576)
def OpenSpec.upto (s : _root_.Go.ChangeSpec) : _root_.Go.OpenSpec := { _root_.Go.OpenSpec.ofChange s with cond := some uptoSmall }

/-- 'linguistlaw3.ColorRuns', WHERE WHAT IT READS IS OF BULK AT MOST 1048576: true; the input reads as it did. -/
def colorRunsUptoRow : OpenClaim := { program := "ythlmpppddloiaaa", sum := "c6230947b6691ac98568a85d479fe76180506c0a90f2a8a07d6d40f4043dd8fc", func := "linguist/linguistlaw3.ColorRuns", spec := "colorRuns", apart := false, narrowed := true }
def ColorRunsUptoSaid : Prop := colorRunsUptoRow.holds Try.pinned (OpenSpec.upto colorRunsSpec)

/-- 'linguistlaw3.ColorTells', WHERE WHAT IT READS IS OF BULK AT MOST 1048576: true; the input reads as it did. -/
def colorTellsUptoRow : OpenClaim := { program := "ythlmpppddloiaaa", sum := "c6230947b6691ac98568a85d479fe76180506c0a90f2a8a07d6d40f4043dd8fc", func := "linguist/linguistlaw3.ColorTells", spec := "colorTells", apart := false, narrowed := true }
def ColorTellsUptoSaid : Prop := colorTellsUptoRow.holds Try.pinned (OpenSpec.upto colorTellsSpec)

/-- 'linguistlaw3.ColorNear', WHERE WHAT IT READS IS OF BULK AT MOST 1048576: true; the input reads as it did. -/
def colorNearUptoRow : OpenClaim := { program := "ythlmpppddloiaaa", sum := "c6230947b6691ac98568a85d479fe76180506c0a90f2a8a07d6d40f4043dd8fc", func := "linguist/linguistlaw3.ColorNear", spec := "colorNear", apart := false, narrowed := true }
def ColorNearUptoSaid : Prop := colorNearUptoRow.holds Try.pinned (OpenSpec.upto colorNearSpec)

/-- 'linguistlaw3.ColorMade', WHERE WHAT IT READS IS OF BULK AT MOST 1048576: true; the input reads as it did. -/
def colorMadeUptoRow : OpenClaim := { program := "ythlmpppddloiaaa", sum := "c6230947b6691ac98568a85d479fe76180506c0a90f2a8a07d6d40f4043dd8fc", func := "linguist/linguistlaw3.ColorMade", spec := "colorMade", apart := false, narrowed := true }
def ColorMadeUptoSaid : Prop := colorMadeUptoRow.holds Try.pinned (OpenSpec.upto colorMadeSpec)

/-- 'linguistlaw3.ColorFar', WHERE WHAT IT READS IS OF BULK AT MOST 1048576: true; the input reads as it did. -/
def colorFarUptoRow : OpenClaim := { program := "ythlmpppddloiaaa", sum := "c6230947b6691ac98568a85d479fe76180506c0a90f2a8a07d6d40f4043dd8fc", func := "linguist/linguistlaw3.ColorFar", spec := "colorFar", apart := false, narrowed := true }
def ColorFarUptoSaid : Prop := colorFarUptoRow.holds Try.pinned (OpenSpec.upto colorFarSpec)

/-- 'linguistlaw3.ColorGrades', WHERE WHAT IT READS IS OF BULK AT MOST 1048576: true; the input reads as it did. -/
def colorGradesUptoRow : OpenClaim := { program := "ythlmpppddloiaaa", sum := "c6230947b6691ac98568a85d479fe76180506c0a90f2a8a07d6d40f4043dd8fc", func := "linguist/linguistlaw3.ColorGrades", spec := "colorGrades", apart := false, narrowed := true }
def ColorGradesUptoSaid : Prop := colorGradesUptoRow.holds Try.pinned (OpenSpec.upto colorGradesSpec)

end Rows
end Go.Proofs.Ythlmpppddloiaaa
