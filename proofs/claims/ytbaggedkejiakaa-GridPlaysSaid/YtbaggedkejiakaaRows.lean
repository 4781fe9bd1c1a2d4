/-
  No cell of these rows narrows 'for every input' (looked for: loops, veiled, ifaces, maps, wideKeys, modest, calm, conditions, laid).
  DERIVED. THE GIVEN ROWS OF THIS SEAT. 5 by the template 'for every input the law returns true; each argument reads behind the call as it read before'; 0 by the template 'total and deterministic' (their statements: YtbaggedkejiakaaTotals.lean).
  GIVEN WITH THE SEED: the statements are not yours to turn. If you find one false, say at which input.
  Laid BY PROGRAM, IN A SANDBOX (cutbox-rows.mjs): the forced cells as the released guide's own fill.sh prints them over the translation 593e0fa708ba2ddf… (all of the seat's roots in one cut). By AI agents, Wed Nov 11 2026. No macro, syntax, notation, axiom, sorry.
-/
import Derived.Test.YtbaggedkejiakaaChecked
import GoSem.Claim
import GoSem.ClaimJoined
import GoSem.ClaimMapViews
import Derived.JoinedTies
import Derived.KernelRfl
namespace Go.Proofs.Ytbaggedkejiakaa
/- THE CELL 'sum', in the pinned program and in every row, IS THE sha256 OF THE DUMP (.gsa) THAT YtbaggedkejiakaaProg.lean LOADS. Nothing in Lean hashes anything: it is a label: what it is worth is what the hold of that sum in a sandbox is worth. -/
noncomputable def Try.pinned : Pinned := { name := "ytbaggedkejiakaa", sum := "593e0fa708ba2ddfe97f602f1ac8da5e5dd4b2678cc644bc5d5c4bfac7b9fb72", checked := Try.checked }
namespace Rows
def none {H : Type} : Left H := { results := [], args := [] }

/-- 'linguistlaw7.GridRuns': WHATEVER THE INPUT: true; the input reads as it did. -/
def gridRunsSpec : ChangeSpec := { name := "gridRuns", fn := fun _ => fun
  | [] => { results := [.lit (.bool true)], args := [] }
  | _ => none }
def gridRunsRow : OpenClaim := { program := "ytbaggedkejiakaa", sum := "593e0fa708ba2ddfe97f602f1ac8da5e5dd4b2678cc644bc5d5c4bfac7b9fb72", func := "linguist/linguistlaw7.GridRuns", spec := "gridRuns", inPlace := ["internal/abi.NoEscape"], apart := false }
def GridRunsSaid : Prop := gridRunsRow.holds Try.pinned (OpenSpec.ofChange gridRunsSpec)

/-- ITS FALSE NEIGHBOUR: 'it returns false'. Refute it at one input. -/
def gridRunsWrong : ChangeSpec := { name := "gridRuns", fn := fun _ => fun
  | [] => { results := [.lit (.bool false)], args := [] }
  | _ => none }
def GridRunsWrongFalsely : Prop := gridRunsRow.holds Try.pinned (OpenSpec.ofChange gridRunsWrong)

/-- 'linguistlaw7.GridTexts': WHATEVER THE INPUT: true; the input reads as it did. -/
def gridTextsSpec : ChangeSpec := { name := "gridTexts", fn := fun _ => fun
  | [d1, d2] => { results := [.lit (.bool true)], args := [d1, d2] }
  | _ => none }
def gridTextsRow : OpenClaim := { program := "ytbaggedkejiakaa", sum := "593e0fa708ba2ddfe97f602f1ac8da5e5dd4b2678cc644bc5d5c4bfac7b9fb72", func := "linguist/linguistlaw7.GridTexts", spec := "gridTexts", inPlace := ["internal/abi.NoEscape"], apart := false }
def GridTextsSaid : Prop := gridTextsRow.holds Try.pinned (OpenSpec.ofChange gridTextsSpec)

/-- ITS FALSE NEIGHBOUR: 'it returns false'. Refute it at one input. -/
def gridTextsWrong : ChangeSpec := { name := "gridTexts", fn := fun _ => fun
  | [d1, d2] => { results := [.lit (.bool false)], args := [d1, d2] }
  | _ => none }
def GridTextsWrongFalsely : Prop := gridTextsRow.holds Try.pinned (OpenSpec.ofChange gridTextsWrong)

/-- 'linguistlaw7.GridPlays': WHATEVER THE INPUT: true; the input reads as it did. -/
def gridPlaysSpec : ChangeSpec := { name := "gridPlays", fn := fun _ => fun
  | [d1, d2, d3, d4] => { results := [.lit (.bool true)], args := [d1, d2, d3, d4] }
  | _ => none }
def gridPlaysRow : OpenClaim := { program := "ytbaggedkejiakaa", sum := "593e0fa708ba2ddfe97f602f1ac8da5e5dd4b2678cc644bc5d5c4bfac7b9fb72", func := "linguist/linguistlaw7.GridPlays", spec := "gridPlays", inPlace := ["internal/abi.NoEscape"], apart := false }
def GridPlaysSaid : Prop := gridPlaysRow.holds Try.pinned (OpenSpec.ofChange gridPlaysSpec)

/-- ITS FALSE NEIGHBOUR: 'it returns false'. Refute it at one input. -/
def gridPlaysWrong : ChangeSpec := { name := "gridPlays", fn := fun _ => fun
  | [d1, d2, d3, d4] => { results := [.lit (.bool false)], args := [d1, d2, d3, d4] }
  | _ => none }
def GridPlaysWrongFalsely : Prop := gridPlaysRow.holds Try.pinned (OpenSpec.ofChange gridPlaysWrong)

/-- 'linguistlaw7.GridLaws': WHATEVER THE INPUT: true; the input reads as it did. -/
def gridLawsSpec : ChangeSpec := { name := "gridLaws", fn := fun _ => fun
  | [d1, d2, d3, d4, d5, d6] => { results := [.lit (.bool true)], args := [d1, d2, d3, d4, d5, d6] }
  | _ => none }
def gridLawsRow : OpenClaim := { program := "ytbaggedkejiakaa", sum := "593e0fa708ba2ddfe97f602f1ac8da5e5dd4b2678cc644bc5d5c4bfac7b9fb72", func := "linguist/linguistlaw7.GridLaws", spec := "gridLaws", inPlace := ["internal/abi.NoEscape"], apart := false }
def GridLawsSaid : Prop := gridLawsRow.holds Try.pinned (OpenSpec.ofChange gridLawsSpec)

/-- ITS FALSE NEIGHBOUR: 'it returns false'. Refute it at one input. -/
def gridLawsWrong : ChangeSpec := { name := "gridLaws", fn := fun _ => fun
  | [d1, d2, d3, d4, d5, d6] => { results := [.lit (.bool false)], args := [d1, d2, d3, d4, d5, d6] }
  | _ => none }
def GridLawsWrongFalsely : Prop := gridLawsRow.holds Try.pinned (OpenSpec.ofChange gridLawsWrong)

/-- 'linguistlaw7.GridWide': WHATEVER THE INPUT: true; the input reads as it did. -/
def gridWideSpec : ChangeSpec := { name := "gridWide", fn := fun _ => fun
  | [d1, d2, d3, d4] => { results := [.lit (.bool true)], args := [d1, d2, d3, d4] }
  | _ => none }
def gridWideRow : OpenClaim := { program := "ytbaggedkejiakaa", sum := "593e0fa708ba2ddfe97f602f1ac8da5e5dd4b2678cc644bc5d5c4bfac7b9fb72", func := "linguist/linguistlaw7.GridWide", spec := "gridWide", inPlace := ["internal/abi.NoEscape"], apart := false }
def GridWideSaid : Prop := gridWideRow.holds Try.pinned (OpenSpec.ofChange gridWideSpec)

/-- ITS FALSE NEIGHBOUR: 'it returns false'. Refute it at one input. -/
def gridWideWrong : ChangeSpec := { name := "gridWide", fn := fun _ => fun
  | [d1, d2, d3, d4] => { results := [.lit (.bool false)], args := [d1, d2, d3, d4] }
  | _ => none }
def GridWideWrongFalsely : Prop := gridWideRow.holds Try.pinned (OpenSpec.ofChange gridWideWrong)

/- THE SECOND FORM. 'bulk': how many values and letters a reading holds, each counted each time it is reached (what is shared counts as often as it is met; a slice's spare places count too). A statement '..UptoSaid' is the law's where the arguments, and the package variables that the reading takes, are together of bulk at most 1048576: NARROWER than '..Said'. Prove '..Said' where nothing that the law and all that it calls make is longer than what came in: it says more and counts as full. Else prove '..UptoSaid'. A law counts once. -/
mutual
def uptoBulk {H : Type} : DataW H → Nat
  | .lit (.string bytes) => bytes.length + 1
  | .lit _ => 1
  | .nil => 1
  | .ptr d => uptoBulk d + 1
  | .slice elems spare => uptoBulkAll elems + uptoBulkAll spare + 1
  | .agg parts => uptoBulkAll parts + 1
  | .iface _ d => uptoBulk d + 1
  | .map entries => uptoBulkEntries entries + 1
  | .held _ => 1
def uptoBulkAll {H : Type} : List (DataW H) → Nat
  | [] => 0
  | d :: r => uptoBulk d + uptoBulkAll r
def uptoBulkEntries {H : Type} : List (Lit × DataW H) → Nat
  | [] => 0
  | x :: r => uptoBulkEntry x + uptoBulkEntries r
def uptoBulkEntry {H : Type} : Lit × DataW H → Nat
  | (.string bytes, d) => bytes.length + uptoBulk d + 1
  | (_, d) => uptoBulk d + 1
 end
def uptoSmall : (H : Type) → List (DataW H) → Bool := fun _ ds => decide (uptoBulkAll ds ≤ 1048576)
def OpenSpec.upto (s : _root_.Go.ChangeSpec) : _root_.Go.OpenSpec := { _root_.Go.OpenSpec.ofChange s with cond := some uptoSmall }

/-- 'linguistlaw7.GridRuns', WHERE WHAT IT READS IS OF BULK AT MOST 1048576: true; the input reads as it did. -/
def gridRunsUptoRow : OpenClaim := { program := "ytbaggedkejiakaa", sum := "593e0fa708ba2ddfe97f602f1ac8da5e5dd4b2678cc644bc5d5c4bfac7b9fb72", func := "linguist/linguistlaw7.GridRuns", spec := "gridRuns", inPlace := ["internal/abi.NoEscape"], apart := false, narrowed := true }
def GridRunsUptoSaid : Prop := gridRunsUptoRow.holds Try.pinned (OpenSpec.upto gridRunsSpec)

/-- 'linguistlaw7.GridTexts', WHERE WHAT IT READS IS OF BULK AT MOST 1048576: true; the input reads as it did. -/
def gridTextsUptoRow : OpenClaim := { program := "ytbaggedkejiakaa", sum := "593e0fa708ba2ddfe97f602f1ac8da5e5dd4b2678cc644bc5d5c4bfac7b9fb72", func := "linguist/linguistlaw7.GridTexts", spec := "gridTexts", inPlace := ["internal/abi.NoEscape"], apart := false, narrowed := true }
def GridTextsUptoSaid : Prop := gridTextsUptoRow.holds Try.pinned (OpenSpec.upto gridTextsSpec)

/-- 'linguistlaw7.GridPlays', WHERE WHAT IT READS IS OF BULK AT MOST 1048576: true; the input reads as it did. -/
def gridPlaysUptoRow : OpenClaim := { program := "ytbaggedkejiakaa", sum := "593e0fa708ba2ddfe97f602f1ac8da5e5dd4b2678cc644bc5d5c4bfac7b9fb72", func := "linguist/linguistlaw7.GridPlays", spec := "gridPlays", inPlace := ["internal/abi.NoEscape"], apart := false, narrowed := true }
def GridPlaysUptoSaid : Prop := gridPlaysUptoRow.holds Try.pinned (OpenSpec.upto gridPlaysSpec)

/-- 'linguistlaw7.GridLaws', WHERE WHAT IT READS IS OF BULK AT MOST 1048576: true; the input reads as it did. -/
def gridLawsUptoRow : OpenClaim := { program := "ytbaggedkejiakaa", sum := "593e0fa708ba2ddfe97f602f1ac8da5e5dd4b2678cc644bc5d5c4bfac7b9fb72", func := "linguist/linguistlaw7.GridLaws", spec := "gridLaws", inPlace := ["internal/abi.NoEscape"], apart := false, narrowed := true }
def GridLawsUptoSaid : Prop := gridLawsUptoRow.holds Try.pinned (OpenSpec.upto gridLawsSpec)

/-- 'linguistlaw7.GridWide', WHERE WHAT IT READS IS OF BULK AT MOST 1048576: true; the input reads as it did. -/
def gridWideUptoRow : OpenClaim := { program := "ytbaggedkejiakaa", sum := "593e0fa708ba2ddfe97f602f1ac8da5e5dd4b2678cc644bc5d5c4bfac7b9fb72", func := "linguist/linguistlaw7.GridWide", spec := "gridWide", inPlace := ["internal/abi.NoEscape"], apart := false, narrowed := true }
def GridWideUptoSaid : Prop := gridWideUptoRow.holds Try.pinned (OpenSpec.upto gridWideSpec)

end Rows
end Go.Proofs.Ytbaggedkejiakaa
