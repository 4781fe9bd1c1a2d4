/-
  No cell of these rows narrows 'for every input' (looked for: loops, veiled, ifaces, maps, wideKeys, modest, calm, conditions, laid).
  DERIVED. THE GIVEN ROWS OF THIS SEAT. 5 by the template 'for every input the law returns true; each argument reads behind the call as it read before'; 0 by the template 'total and deterministic' (their statements: YtklfdmnmiadgpaaTotals.lean).
  GIVEN WITH THE SEED: the statements are not yours to turn. If you find one false, say at which input.
  Laid BY PROGRAM, IN A SANDBOX (cutbox-rows.mjs): the forced cells as the released guide's own fill.sh prints them over the translation c06d55ce5c718f70… (all of the seat's roots in one cut). By AI agents, Wed Nov 11 2026. No macro, syntax, notation, axiom, sorry.
-/
import Derived.Test.YtklfdmnmiadgpaaChecked
import GoSem.Claim
import GoSem.ClaimJoined
import GoSem.ClaimMapViews
import Derived.JoinedTies
import Derived.KernelRfl
namespace Go.Proofs.Ytklfdmnmiadgpaa
/- THE CELL 'sum', in the pinned program and in every row, IS THE sha256 OF THE DUMP (.gsa) THAT YtklfdmnmiadgpaaProg.lean LOADS. Nothing in Lean hashes anything: it is a label: what it is worth is what the hold of that sum in a sandbox is worth. -/
noncomputable def Try.pinned : Pinned := { name := "ytklfdmnmiadgpaa", sum := "c06d55ce5c718f70c43d58c60945e99bb48b444c884ba7946e1b9a66e1f44001", checked := Try.checked }
namespace Rows
def none {H : Type} : Left H := { results := [], args := [] }

/-- 'linguistlaw2.CellRuns': WHATEVER THE INPUT: true; the input reads as it did. -/
def cellRunsSpec : ChangeSpec := { name := "cellRuns", fn := fun _ => fun
  | [] => { results := [.lit (.bool true)], args := [] }
  | _ => none }
def cellRunsRow : OpenClaim := { program := "ytklfdmnmiadgpaa", sum := "c06d55ce5c718f70c43d58c60945e99bb48b444c884ba7946e1b9a66e1f44001", func := "linguist/linguistlaw2.CellRuns", spec := "cellRuns", apart := false }
def CellRunsSaid : Prop := cellRunsRow.holds Try.pinned (OpenSpec.ofChange cellRunsSpec)

/-- ITS FALSE NEIGHBOUR: 'it returns false'. Refute it at one input. -/
def cellRunsWrong : ChangeSpec := { name := "cellRuns", fn := fun _ => fun
  | [] => { results := [.lit (.bool false)], args := [] }
  | _ => none }
def CellRunsWrongFalsely : Prop := cellRunsRow.holds Try.pinned (OpenSpec.ofChange cellRunsWrong)

/-- 'linguistlaw2.CellWidths': WHATEVER THE INPUT: true; the input reads as it did. -/
def cellWidthsSpec : ChangeSpec := { name := "cellWidths", fn := fun _ => fun
  | [d] => { results := [.lit (.bool true)], args := [d] }
  | _ => none }
def cellWidthsRow : OpenClaim := { program := "ytklfdmnmiadgpaa", sum := "c06d55ce5c718f70c43d58c60945e99bb48b444c884ba7946e1b9a66e1f44001", func := "linguist/linguistlaw2.CellWidths", spec := "cellWidths", apart := false }
def CellWidthsSaid : Prop := cellWidthsRow.holds Try.pinned (OpenSpec.ofChange cellWidthsSpec)

/-- ITS FALSE NEIGHBOUR: 'it returns false'. Refute it at one input. -/
def cellWidthsWrong : ChangeSpec := { name := "cellWidths", fn := fun _ => fun
  | [d] => { results := [.lit (.bool false)], args := [d] }
  | _ => none }
def CellWidthsWrongFalsely : Prop := cellWidthsRow.holds Try.pinned (OpenSpec.ofChange cellWidthsWrong)

/-- 'linguistlaw2.CellTells': WHATEVER THE INPUT: true; the input reads as it did. -/
def cellTellsSpec : ChangeSpec := { name := "cellTells", fn := fun _ => fun
  | [d1, d2, d3] => { results := [.lit (.bool true)], args := [d1, d2, d3] }
  | _ => none }
def cellTellsRow : OpenClaim := { program := "ytklfdmnmiadgpaa", sum := "c06d55ce5c718f70c43d58c60945e99bb48b444c884ba7946e1b9a66e1f44001", func := "linguist/linguistlaw2.CellTells", spec := "cellTells", apart := false }
def CellTellsSaid : Prop := cellTellsRow.holds Try.pinned (OpenSpec.ofChange cellTellsSpec)

/-- ITS FALSE NEIGHBOUR: 'it returns false'. Refute it at one input. -/
def cellTellsWrong : ChangeSpec := { name := "cellTells", fn := fun _ => fun
  | [d1, d2, d3] => { results := [.lit (.bool false)], args := [d1, d2, d3] }
  | _ => none }
def CellTellsWrongFalsely : Prop := cellTellsRow.holds Try.pinned (OpenSpec.ofChange cellTellsWrong)

/-- 'linguistlaw2.CellFlags': WHATEVER THE INPUT: true; the input reads as it did. -/
def cellFlagsSpec : ChangeSpec := { name := "cellFlags", fn := fun _ => fun
  | [d1, d2] => { results := [.lit (.bool true)], args := [d1, d2] }
  | _ => none }
def cellFlagsRow : OpenClaim := { program := "ytklfdmnmiadgpaa", sum := "c06d55ce5c718f70c43d58c60945e99bb48b444c884ba7946e1b9a66e1f44001", func := "linguist/linguistlaw2.CellFlags", spec := "cellFlags", apart := false }
def CellFlagsSaid : Prop := cellFlagsRow.holds Try.pinned (OpenSpec.ofChange cellFlagsSpec)

/-- ITS FALSE NEIGHBOUR: 'it returns false'. Refute it at one input. -/
def cellFlagsWrong : ChangeSpec := { name := "cellFlags", fn := fun _ => fun
  | [d1, d2] => { results := [.lit (.bool false)], args := [d1, d2] }
  | _ => none }
def CellFlagsWrongFalsely : Prop := cellFlagsRow.holds Try.pinned (OpenSpec.ofChange cellFlagsWrong)

/-- 'linguistlaw2.CellPacks': WHATEVER THE INPUT: true; the input reads as it did. -/
def cellPacksSpec : ChangeSpec := { name := "cellPacks", fn := fun _ => fun
  | [d1, d2, d3, d4] => { results := [.lit (.bool true)], args := [d1, d2, d3, d4] }
  | _ => none }
def cellPacksRow : OpenClaim := { program := "ytklfdmnmiadgpaa", sum := "c06d55ce5c718f70c43d58c60945e99bb48b444c884ba7946e1b9a66e1f44001", func := "linguist/linguistlaw2.CellPacks", spec := "cellPacks", apart := false }
def CellPacksSaid : Prop := cellPacksRow.holds Try.pinned (OpenSpec.ofChange cellPacksSpec)

/-- ITS FALSE NEIGHBOUR: 'it returns false'. Refute it at one input. -/
def cellPacksWrong : ChangeSpec := { name := "cellPacks", fn := fun _ => fun
  | [d1, d2, d3, d4] => { results := [.lit (.bool false)], args := [d1, d2, d3, d4] }
  | _ => none }
def CellPacksWrongFalsely : Prop := cellPacksRow.holds Try.pinned (OpenSpec.ofChange cellPacksWrong)

/- THE SECOND FORM. 'bulk': how many values and letters a reading holds, each counted each time it is reached (what is shared counts as often as it is met; a slice's spare places count too). A statement '..UptoSaid' is the law's where the arguments, and the package variables that the reading takes, are together of bulk at most 1048576: NARROWER than '..Said'. Prove '..Said' where nothing that the law and all that it calls make is longer than what came in: it says more and counts as full. Else prove '..UptoSaid'. A law counts once. -/
mutual
def uptoBulk {H : Type} : DataW H → Nat
  | .lit (.string bytes) => bytes.length + 1
  | .lit _ => 1
  | .nil => 1
  | .ptr d => uptoBulk d + 1
  | .slice elems spare => uptoBulkAll elems + uptoBulkAll spare + 1
  | .agg parts => uptoBulkAll parts + 1
  | .iface _ d => uptoBulk d + 1
  | .map entries => uptoBulkEntries entries + 1
  | .held _ => 1
def uptoBulkAll {H : Type} : List (DataW H) → Nat
  | [] => 0
  | d :: r => uptoBulk d + uptoBulkAll r
def uptoBulkEntries {H : Type} : List (Lit × DataW H) → Nat
  | [] => 0
  | x :: r => uptoBulkEntry x + uptoBulkEntries r
def uptoBulkEntry {H : Type} : Lit × DataW H → Nat
  | (.string bytes, d) => bytes.length + uptoBulk d + 1
  | (_, d) => uptoBulk d + 1
 end
def uptoSmall : (H : Type) → List (DataW H) → Bool := fun _ ds => decide (uptoBulkAll ds ≤ 1048576)
def OpenSpec.upto (s : _root_.Go.ChangeSpec) : _root_.Go.OpenSpec := { _root_.Go.OpenSpec.ofChange s with cond := some uptoSmall }

/-- 'linguistlaw2.CellRuns', WHERE WHAT IT READS IS OF BULK AT MOST 1048576: true; the input reads as it did. -/
def cellRunsUptoRow : OpenClaim := { program := "ytklfdmnmiadgpaa", sum := "c06d55ce5c718f70c43d58c60945e99bb48b444c884ba7946e1b9a66e1f44001", func := "linguist/linguistlaw2.CellRuns", spec := "cellRuns", apart := false, narrowed := true }
def CellRunsUptoSaid : Prop := cellRunsUptoRow.holds Try.pinned (OpenSpec.upto cellRunsSpec)

/-- 'linguistlaw2.CellWidths', WHERE WHAT IT READS IS OF BULK AT MOST 1048576: true; the input reads as it did. -/
def cellWidthsUptoRow : OpenClaim := { program := "ytklfdmnmiadgpaa", sum := "c06d55ce5c718f70c43d58c60945e99bb48b444c884ba7946e1b9a66e1f44001", func := "linguist/linguistlaw2.CellWidths", spec := "cellWidths", apart := false, narrowed := true }
def CellWidthsUptoSaid : Prop := cellWidthsUptoRow.holds Try.pinned (OpenSpec.upto cellWidthsSpec)

/-- 'linguistlaw2.CellTells', WHERE WHAT IT READS IS OF BULK AT MOST 1048576: true; the input reads as it did. -/
def cellTellsUptoRow : OpenClaim := { program := "ytklfdmnmiadgpaa", sum := "c06d55ce5c718f70c43d58c60945e99bb48b444c884ba7946e1b9a66e1f44001", func := "linguist/linguistlaw2.CellTells", spec := "cellTells", apart := false, narrowed := true }
def CellTellsUptoSaid : Prop := cellTellsUptoRow.holds Try.pinned (OpenSpec.upto cellTellsSpec)

/-- 'linguistlaw2.CellFlags', WHERE WHAT IT READS IS OF BULK AT MOST 1048576: true; the input reads as it did. -/
def cellFlagsUptoRow : OpenClaim := { program := "ytklfdmnmiadgpaa", sum := "c06d55ce5c718f70c43d58c60945e99bb48b444c884ba7946e1b9a66e1f44001", func := "linguist/linguistlaw2.CellFlags", spec := "cellFlags", apart := false, narrowed := true }
def CellFlagsUptoSaid : Prop := cellFlagsUptoRow.holds Try.pinned (OpenSpec.upto cellFlagsSpec)

/-- 'linguistlaw2.CellPacks', WHERE WHAT IT READS IS OF BULK AT MOST 1048576: true; the input reads as it did. -/
def cellPacksUptoRow : OpenClaim := { program := "ytklfdmnmiadgpaa", sum := "c06d55ce5c718f70c43d58c60945e99bb48b444c884ba7946e1b9a66e1f44001", func := "linguist/linguistlaw2.CellPacks", spec := "cellPacks", apart := false, narrowed := true }
def CellPacksUptoSaid : Prop := cellPacksUptoRow.holds Try.pinned (OpenSpec.upto cellPacksSpec)

end Rows
end Go.Proofs.Ytklfdmnmiadgpaa
