/-
  No cell of these rows narrows 'for every input' (looked for: loops, veiled, ifaces, maps, wideKeys, modest, calm, conditions, laid).
  DERIVED. THE GIVEN ROWS OF THIS SEAT. 4 by the template 'for every input the law returns true; each argument reads behind the call as it read before'; 0 by the template 'total and deterministic' (their statements: YtdobkoiimcneiaaTotals.lean).
  GIVEN WITH THE SEED: the statements are not yours to turn. If you find one false, say at which input.
  Laid BY PROGRAM, IN A SANDBOX (cutbox-rows.mjs): the forced cells as the released guide's own fill.sh prints them over the translation 32a07a2a36311f56… (all of the seat's roots in one cut). By AI agents, Wed Nov 11 2026. No macro, syntax, notation, axiom, sorry.
-/
import Derived.Test.YtdobkoiimcneiaaChecked
import GoSem.Claim
import GoSem.ClaimJoined
import GoSem.ClaimMapViews
import Derived.JoinedTies
import Derived.KernelRfl
namespace Go.Proofs.Ytdobkoiimcneiaa
/- THE CELL 'sum', in the pinned program and in every row, IS THE sha256 OF THE DUMP (.gsa) THAT YtdobkoiimcneiaaProg.lean LOADS. Nothing in Lean hashes anything: it is a label: what it is worth is what the hold of that sum in a sandbox is worth. -/
noncomputable def Try.pinned : Pinned := { name := "ytdobkoiimcneiaa", sum := "32a07a2a36311f567b532cf3d1c62172b20a7240f076759c9f8e433b93abd0bf", checked := Try.checked }
namespace Rows
def none {H : Type} : Left H := { results := [], args := [] }

/-- 'linguistlaw4.CharsetRuns': WHATEVER THE INPUT: true; the input reads as it did. -/
def charsetRunsSpec : ChangeSpec := { name := "charsetRuns", fn := fun _ => fun
  | [] => { results := [.lit (.bool true)], args := [] }
  | _ => none }
def charsetRunsRow : OpenClaim := { program := "ytdobkoiimcneiaa", sum := "32a07a2a36311f567b532cf3d1c62172b20a7240f076759c9f8e433b93abd0bf", func := "linguist/linguistlaw4.CharsetRuns", spec := "charsetRuns", apart := false }
def CharsetRunsSaid : Prop := charsetRunsRow.holds Try.pinned (OpenSpec.ofChange charsetRunsSpec)

/-- ITS FALSE NEIGHBOUR: 'it returns false'. Refute it at one input. -/
def charsetRunsWrong : ChangeSpec := { name := "charsetRuns", fn := fun _ => fun
  | [] => { results := [.lit (.bool false)], args := [] }
  | _ => none }
def CharsetRunsWrongFalsely : Prop := charsetRunsRow.holds Try.pinned (OpenSpec.ofChange charsetRunsWrong)

/-- 'linguistlaw4.CharsetTells': WHATEVER THE INPUT: true; the input reads as it did. -/
def charsetTellsSpec : ChangeSpec := { name := "charsetTells", fn := fun _ => fun
  | [d1, d2, d3, d4] => { results := [.lit (.bool true)], args := [d1, d2, d3, d4] }
  | _ => none }
def charsetTellsRow : OpenClaim := { program := "ytdobkoiimcneiaa", sum := "32a07a2a36311f567b532cf3d1c62172b20a7240f076759c9f8e433b93abd0bf", func := "linguist/linguistlaw4.CharsetTells", spec := "charsetTells", apart := false }
def CharsetTellsSaid : Prop := charsetTellsRow.holds Try.pinned (OpenSpec.ofChange charsetTellsSpec)

/-- ITS FALSE NEIGHBOUR: 'it returns false'. Refute it at one input. -/
def charsetTellsWrong : ChangeSpec := { name := "charsetTells", fn := fun _ => fun
  | [d1, d2, d3, d4] => { results := [.lit (.bool false)], args := [d1, d2, d3, d4] }
  | _ => none }
def CharsetTellsWrongFalsely : Prop := charsetTellsRow.holds Try.pinned (OpenSpec.ofChange charsetTellsWrong)

/-- 'linguistlaw4.CharsetBack': WHATEVER THE INPUT: true; the input reads as it did. -/
def charsetBackSpec : ChangeSpec := { name := "charsetBack", fn := fun _ => fun
  | [d] => { results := [.lit (.bool true)], args := [d] }
  | _ => none }
def charsetBackRow : OpenClaim := { program := "ytdobkoiimcneiaa", sum := "32a07a2a36311f567b532cf3d1c62172b20a7240f076759c9f8e433b93abd0bf", func := "linguist/linguistlaw4.CharsetBack", spec := "charsetBack", apart := false }
def CharsetBackSaid : Prop := charsetBackRow.holds Try.pinned (OpenSpec.ofChange charsetBackSpec)

/-- ITS FALSE NEIGHBOUR: 'it returns false'. Refute it at one input. -/
def charsetBackWrong : ChangeSpec := { name := "charsetBack", fn := fun _ => fun
  | [d] => { results := [.lit (.bool false)], args := [d] }
  | _ => none }
def CharsetBackWrongFalsely : Prop := charsetBackRow.holds Try.pinned (OpenSpec.ofChange charsetBackWrong)

/-- 'linguistlaw4.CharsetTexts': WHATEVER THE INPUT: true; the input reads as it did. -/
def charsetTextsSpec : ChangeSpec := { name := "charsetTexts", fn := fun _ => fun
  | [d] => { results := [.lit (.bool true)], args := [d] }
  | _ => none }
def charsetTextsRow : OpenClaim := { program := "ytdobkoiimcneiaa", sum := "32a07a2a36311f567b532cf3d1c62172b20a7240f076759c9f8e433b93abd0bf", func := "linguist/linguistlaw4.CharsetTexts", spec := "charsetTexts", apart := false }
def CharsetTextsSaid : Prop := charsetTextsRow.holds Try.pinned (OpenSpec.ofChange charsetTextsSpec)

/-- ITS FALSE NEIGHBOUR: 'it returns false'. Refute it at one input. -/
def charsetTextsWrong : ChangeSpec := { name := "charsetTexts", fn := fun _ => fun
  | [d] => { results := [.lit (.bool false)], args := [d] }
  | _ => none }
def CharsetTextsWrongFalsely : Prop := charsetTextsRow.holds Try.pinned (OpenSpec.ofChange charsetTextsWrong)

/- THE SECOND FORM. 'bulk': how many values and letters a reading holds, each counted each time it is reached (what is shared counts as often as it is met; a slice's spare places count too). A statement '..UptoSaid' is the law's where the arguments, and the package variables that the reading takes, are together of bulk at most 1048576: NARROWER than '..Said'. Prove '..Said' where nothing that the law and all that it calls make is longer than what came in: it says more and counts as full. Else prove '..UptoSaid'. A law counts once. -/
mutual
def uptoBulk {H : Type} : DataW H → Nat
  | .lit (.string bytes) => bytes.length + 1
  | .lit _ => 1
  | .nil => 1
  | .ptr d => uptoBulk d + 1
  | .slice elems spare => uptoBulkAll elems + uptoBulkAll spare + 1
  | .agg parts => uptoBulkAll parts + 1
  | .iface _ d => uptoBulk d + 1
  | .map entries => uptoBulkEntries entries + 1
  | .held _ => 1
def uptoBulkAll {H : Type} : List (DataW H) → Nat
  | [] => 0
  | d :: r => uptoBulk d + uptoBulkAll r
def uptoBulkEntries {H : Type} : List (Lit × DataW H) → Nat
  | [] => 0
  | x :: r => uptoBulkEntry x + uptoBulkEntries r
def uptoBulkEntry {H : Type} : Lit × DataW H → Nat
  | (.string bytes, d) => bytes.length + uptoBulk d + 1
  | (_, d) => uptoBulk d + 1
 end
def uptoSmall : (H : Type) → List (DataW H) → Bool := fun _ ds => decide (uptoBulkAll ds ≤ 1048576)
def OpenSpec.upto (s : _root_.Go.ChangeSpec) : _root_.Go.OpenSpec := { _root_.Go.OpenSpec.ofChange s with cond := some uptoSmall }

/-- 'linguistlaw4.CharsetRuns', WHERE WHAT IT READS IS OF BULK AT MOST 1048576: true; the input reads as it did. -/
def charsetRunsUptoRow : OpenClaim := { program := "ytdobkoiimcneiaa", sum := "32a07a2a36311f567b532cf3d1c62172b20a7240f076759c9f8e433b93abd0bf", func := "linguist/linguistlaw4.CharsetRuns", spec := "charsetRuns", apart := false, narrowed := true }
def CharsetRunsUptoSaid : Prop := charsetRunsUptoRow.holds Try.pinned (OpenSpec.upto charsetRunsSpec)

/-- 'linguistlaw4.CharsetTells', WHERE WHAT IT READS IS OF BULK AT MOST 1048576: true; the input reads as it did. -/
def charsetTellsUptoRow : OpenClaim := { program := "ytdobkoiimcneiaa", sum := "32a07a2a36311f567b532cf3d1c62172b20a7240f076759c9f8e433b93abd0bf", func := "linguist/linguistlaw4.CharsetTells", spec := "charsetTells", apart := false, narrowed := true }
def CharsetTellsUptoSaid : Prop := charsetTellsUptoRow.holds Try.pinned (OpenSpec.upto charsetTellsSpec)

/-- 'linguistlaw4.CharsetBack', WHERE WHAT IT READS IS OF BULK AT MOST 1048576: true; the input reads as it did. -/
def charsetBackUptoRow : OpenClaim := { program := "ytdobkoiimcneiaa", sum := "32a07a2a36311f567b532cf3d1c62172b20a7240f076759c9f8e433b93abd0bf", func := "linguist/linguistlaw4.CharsetBack", spec := "charsetBack", apart := false, narrowed := true }
def CharsetBackUptoSaid : Prop := charsetBackUptoRow.holds Try.pinned (OpenSpec.upto charsetBackSpec)

/-- 'linguistlaw4.CharsetTexts', WHERE WHAT IT READS IS OF BULK AT MOST 1048576: true; the input reads as it did. -/
def charsetTextsUptoRow : OpenClaim := { program := "ytdobkoiimcneiaa", sum := "32a07a2a36311f567b532cf3d1c62172b20a7240f076759c9f8e433b93abd0bf", func := "linguist/linguistlaw4.CharsetTexts", spec := "charsetTexts", apart := false, narrowed := true }
def CharsetTextsUptoSaid : Prop := charsetTextsUptoRow.holds Try.pinned (OpenSpec.upto charsetTextsSpec)

end Rows
end Go.Proofs.Ytdobkoiimcneiaa
