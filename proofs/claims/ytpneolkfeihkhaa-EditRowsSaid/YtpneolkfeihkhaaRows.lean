/-
  No cell of these rows narrows 'for every input' (looked for: loops, veiled, ifaces, maps, wideKeys, modest, calm, conditions, laid).
  DERIVED. THE GIVEN ROWS OF THIS SEAT. 5 by the template 'for every input the law returns true; each argument reads behind the call as it read before'; 0 by the template 'total and deterministic' (their statements: YtpneolkfeihkhaaTotals.lean).
  GIVEN WITH THE SEED: the statements are not yours to turn. If you find one false, say at which input.
  Laid BY PROGRAM, IN A SANDBOX (cutbox-rows.mjs): the forced cells as the released guide's own fill.sh prints them over the translation 09fdd7968906d193… (all of the seat's roots in one cut). By AI agents, Wed Nov 11 2026. No macro, syntax, notation, axiom, sorry.
-/
import Derived.Test.YtpneolkfeihkhaaChecked
import GoSem.Claim
import GoSem.ClaimJoined
import GoSem.ClaimMapViews
import Derived.JoinedTies
import Derived.KernelRfl
namespace Go.Proofs.Ytpneolkfeihkhaa
/- THE CELL 'sum', in the pinned program and in every row, IS THE sha256 OF THE DUMP (.gsa) THAT YtpneolkfeihkhaaProg.lean LOADS. Nothing in Lean hashes anything: it is a label: what it is worth is what the hold of that sum in a sandbox is worth. -/
noncomputable def Try.pinned : Pinned := { name := "ytpneolkfeihkhaa", sum := "09fdd7968906d1934d34f162dafee8dc2d4c3fc5c2fe38f806a12cb4c6321780", checked := Try.checked }
namespace Rows
def none {H : Type} : Left H := { results := [], args := [] }

/-- 'linguistlaw8.EditRuns': WHATEVER THE INPUT: true; the input reads as it did. -/
def editRunsSpec : ChangeSpec := { name := "editRuns", fn := fun _ => fun
  | [] => { results := [.lit (.bool true)], args := [] }
  | _ => none }
def editRunsRow : OpenClaim := { program := "ytpneolkfeihkhaa", sum := "09fdd7968906d1934d34f162dafee8dc2d4c3fc5c2fe38f806a12cb4c6321780", func := "linguist/linguistlaw8.EditRuns", spec := "editRuns", inPlace := ["internal/abi.NoEscape"], apart := false }
def EditRunsSaid : Prop := editRunsRow.holds Try.pinned (OpenSpec.ofChange editRunsSpec)

/-- ITS FALSE NEIGHBOUR: 'it returns false'. Refute it at one input. -/
def editRunsWrong : ChangeSpec := { name := "editRuns", fn := fun _ => fun
  | [] => { results := [.lit (.bool false)], args := [] }
  | _ => none }
def EditRunsWrongFalsely : Prop := editRunsRow.holds Try.pinned (OpenSpec.ofChange editRunsWrong)

/-- 'linguistlaw8.EditParts': WHATEVER THE INPUT: true; the input reads as it did. -/
def editPartsSpec : ChangeSpec := { name := "editParts", fn := fun _ => fun
  | [d1, d2, d3, d4] => { results := [.lit (.bool true)], args := [d1, d2, d3, d4] }
  | _ => none }
def editPartsRow : OpenClaim := { program := "ytpneolkfeihkhaa", sum := "09fdd7968906d1934d34f162dafee8dc2d4c3fc5c2fe38f806a12cb4c6321780", func := "linguist/linguistlaw8.EditParts", spec := "editParts", inPlace := ["internal/abi.NoEscape"], apart := false }
def EditPartsSaid : Prop := editPartsRow.holds Try.pinned (OpenSpec.ofChange editPartsSpec)

/-- ITS FALSE NEIGHBOUR: 'it returns false'. Refute it at one input. -/
def editPartsWrong : ChangeSpec := { name := "editParts", fn := fun _ => fun
  | [d1, d2, d3, d4] => { results := [.lit (.bool false)], args := [d1, d2, d3, d4] }
  | _ => none }
def EditPartsWrongFalsely : Prop := editPartsRow.holds Try.pinned (OpenSpec.ofChange editPartsWrong)

/-- 'linguistlaw8.EditRows': WHATEVER THE INPUT: true; the input reads as it did. -/
def editRowsSpec : ChangeSpec := { name := "editRows", fn := fun _ => fun
  | [d1, d2, d3] => { results := [.lit (.bool true)], args := [d1, d2, d3] }
  | _ => none }
def editRowsRow : OpenClaim := { program := "ytpneolkfeihkhaa", sum := "09fdd7968906d1934d34f162dafee8dc2d4c3fc5c2fe38f806a12cb4c6321780", func := "linguist/linguistlaw8.EditRows", spec := "editRows", inPlace := ["internal/abi.NoEscape"], apart := false }
def EditRowsSaid : Prop := editRowsRow.holds Try.pinned (OpenSpec.ofChange editRowsSpec)

/-- ITS FALSE NEIGHBOUR: 'it returns false'. Refute it at one input. -/
def editRowsWrong : ChangeSpec := { name := "editRows", fn := fun _ => fun
  | [d1, d2, d3] => { results := [.lit (.bool false)], args := [d1, d2, d3] }
  | _ => none }
def EditRowsWrongFalsely : Prop := editRowsRow.holds Try.pinned (OpenSpec.ofChange editRowsWrong)

/-- 'linguistlaw8.EditPlays': WHATEVER THE INPUT: true; the input reads as it did. -/
def editPlaysSpec : ChangeSpec := { name := "editPlays", fn := fun _ => fun
  | [d1, d2] => { results := [.lit (.bool true)], args := [d1, d2] }
  | _ => none }
def editPlaysRow : OpenClaim := { program := "ytpneolkfeihkhaa", sum := "09fdd7968906d1934d34f162dafee8dc2d4c3fc5c2fe38f806a12cb4c6321780", func := "linguist/linguistlaw8.EditPlays", spec := "editPlays", inPlace := ["internal/abi.NoEscape"], apart := false }
def EditPlaysSaid : Prop := editPlaysRow.holds Try.pinned (OpenSpec.ofChange editPlaysSpec)

/-- ITS FALSE NEIGHBOUR: 'it returns false'. Refute it at one input. -/
def editPlaysWrong : ChangeSpec := { name := "editPlays", fn := fun _ => fun
  | [d1, d2] => { results := [.lit (.bool false)], args := [d1, d2] }
  | _ => none }
def EditPlaysWrongFalsely : Prop := editPlaysRow.holds Try.pinned (OpenSpec.ofChange editPlaysWrong)

/-- 'linguistlaw8.EditLaws': WHATEVER THE INPUT: true; the input reads as it did. -/
def editLawsSpec : ChangeSpec := { name := "editLaws", fn := fun _ => fun
  | [d1, d2, d3, d4, d5] => { results := [.lit (.bool true)], args := [d1, d2, d3, d4, d5] }
  | _ => none }
def editLawsRow : OpenClaim := { program := "ytpneolkfeihkhaa", sum := "09fdd7968906d1934d34f162dafee8dc2d4c3fc5c2fe38f806a12cb4c6321780", func := "linguist/linguistlaw8.EditLaws", spec := "editLaws", inPlace := ["internal/abi.NoEscape"], apart := false }
def EditLawsSaid : Prop := editLawsRow.holds Try.pinned (OpenSpec.ofChange editLawsSpec)

/-- ITS FALSE NEIGHBOUR: 'it returns false'. Refute it at one input. -/
def editLawsWrong : ChangeSpec := { name := "editLaws", fn := fun _ => fun
  | [d1, d2, d3, d4, d5] => { results := [.lit (.bool false)], args := [d1, d2, d3, d4, d5] }
  | _ => none }
def EditLawsWrongFalsely : Prop := editLawsRow.holds Try.pinned (OpenSpec.ofChange editLawsWrong)

/- THE SECOND FORM. 'bulk': how many values and letters a reading holds, each counted each time it is reached (what is shared counts as often as it is met; a slice's spare places count too). A statement '..UptoSaid' is the law's where the arguments, and the package variables that the reading takes, are together of bulk at most 1048576: NARROWER than '..Said'. Prove '..Said' where nothing that the law and all that it calls make is longer than what came in: it says more and counts as full. Else prove '..UptoSaid'. A law counts once. -/
mutual
def uptoBulk {H : Type} : DataW H → Nat
  | .lit (.string bytes) => bytes.length + 1
  | .lit _ => 1
  | .nil => 1
  | .ptr d => uptoBulk d + 1
  | .slice elems spare => uptoBulkAll elems + uptoBulkAll spare + 1
  | .agg parts => uptoBulkAll parts + 1
  | .iface _ d => uptoBulk d + 1
  | .map entries => uptoBulkEntries entries + 1
  | .held _ => 1
def uptoBulkAll {H : Type} : List (DataW H) → Nat
  | [] => 0
  | d :: r => uptoBulk d + uptoBulkAll r
def uptoBulkEntries {H : Type} : List (Lit × DataW H) → Nat
  | [] => 0
  | x :: r => uptoBulkEntry x + uptoBulkEntries r
def uptoBulkEntry {H : Type} : Lit × DataW H → Nat
  | (.string bytes, d) => bytes.length + uptoBulk d + 1
  | (_, d) => uptoBulk d + 1
 end
def uptoSmall : (H : Type) → List (DataW H) → Bool := fun _ ds => decide (uptoBulkAll ds ≤ 1048576)
def OpenSpec.upto (s : _root_.Go.ChangeSpec) : _root_.Go.OpenSpec := { _root_.Go.OpenSpec.ofChange s with cond := some uptoSmall }

/-- 'linguistlaw8.EditRuns', WHERE WHAT IT READS IS OF BULK AT MOST 1048576: true; the input reads as it did. -/
def editRunsUptoRow : OpenClaim := { program := "ytpneolkfeihkhaa", sum := "09fdd7968906d1934d34f162dafee8dc2d4c3fc5c2fe38f806a12cb4c6321780", func := "linguist/linguistlaw8.EditRuns", spec := "editRuns", inPlace := ["internal/abi.NoEscape"], apart := false, narrowed := true }
def EditRunsUptoSaid : Prop := editRunsUptoRow.holds Try.pinned (OpenSpec.upto editRunsSpec)

/-- 'linguistlaw8.EditParts', WHERE WHAT IT READS IS OF BULK AT MOST 1048576: true; the input reads as it did. -/
def editPartsUptoRow : OpenClaim := { program := "ytpneolkfeihkhaa", sum := "09fdd7968906d1934d34f162dafee8dc2d4c3fc5c2fe38f806a12cb4c6321780", func := "linguist/linguistlaw8.EditParts", spec := "editParts", inPlace := ["internal/abi.NoEscape"], apart := false, narrowed := true }
def EditPartsUptoSaid : Prop := editPartsUptoRow.holds Try.pinned (OpenSpec.upto editPartsSpec)

/-- 'linguistlaw8.EditRows', WHERE WHAT IT READS IS OF BULK AT MOST 1048576: true; the input reads as it did. -/
def editRowsUptoRow : OpenClaim := { program := "ytpneolkfeihkhaa", sum := "09fdd7968906d1934d34f162dafee8dc2d4c3fc5c2fe38f806a12cb4c6321780", func := "linguist/linguistlaw8.EditRows", spec := "editRows", inPlace := ["internal/abi.NoEscape"], apart := false, narrowed := true }
def EditRowsUptoSaid : Prop := editRowsUptoRow.holds Try.pinned (OpenSpec.upto editRowsSpec)

/-- 'linguistlaw8.EditPlays', WHERE WHAT IT READS IS OF BULK AT MOST 1048576: true; the input reads as it did. -/
def editPlaysUptoRow : OpenClaim := { program := "ytpneolkfeihkhaa", sum := "09fdd7968906d1934d34f162dafee8dc2d4c3fc5c2fe38f806a12cb4c6321780", func := "linguist/linguistlaw8.EditPlays", spec := "editPlays", inPlace := ["internal/abi.NoEscape"], apart := false, narrowed := true }
def EditPlaysUptoSaid : Prop := editPlaysUptoRow.holds Try.pinned (OpenSpec.upto editPlaysSpec)

/-- 'linguistlaw8.EditLaws', WHERE WHAT IT READS IS OF BULK AT MOST 1048576: true; the input reads as it did. -/
def editLawsUptoRow : OpenClaim := { program := "ytpneolkfeihkhaa", sum := "09fdd7968906d1934d34f162dafee8dc2d4c3fc5c2fe38f806a12cb4c6321780", func := "linguist/linguistlaw8.EditLaws", spec := "editLaws", inPlace := ["internal/abi.NoEscape"], apart := false, narrowed := true }
def EditLawsUptoSaid : Prop := editLawsUptoRow.holds Try.pinned (OpenSpec.upto editLawsSpec)

end Rows
end Go.Proofs.Ytpneolkfeihkhaa
