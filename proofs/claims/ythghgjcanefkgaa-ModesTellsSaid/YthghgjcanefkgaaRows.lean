/-
  No cell of these rows narrows 'for every input' (looked for: loops, veiled, ifaces, maps, wideKeys, modest, calm, conditions, laid).
  DERIVED. THE GIVEN ROWS OF THIS SEAT. 4 by the template 'for every input the law returns true; each argument reads behind the call as it read before'; 0 by the template 'total and deterministic' (their statements: YthghgjcanefkgaaTotals.lean).
  GIVEN WITH THE SEED: the statements are not yours to turn. If you find one false, say at which input.
  Laid BY PROGRAM, IN A SANDBOX (cutbox-rows.mjs): the forced cells as the released guide's own fill.sh prints them over the translation b37e8bc5214e635e… (all of the seat's roots in one cut). By AI agents, Wed Nov 11 2026. No macro, syntax, notation, axiom, sorry.
-/
import Derived.Test.YthghgjcanefkgaaChecked
import GoSem.Claim
import GoSem.ClaimJoined
import GoSem.ClaimMapViews
import Derived.JoinedTies
import Derived.KernelRfl
namespace Go.Proofs.Ythghgjcanefkgaa
/- THE CELL 'sum', in the pinned program and in every row, IS THE sha256 OF THE DUMP (.gsa) THAT YthghgjcanefkgaaProg.lean LOADS. Nothing in Lean hashes anything: it is a label: what it is worth is what the hold of that sum in a sandbox is worth. -/
noncomputable def Try.pinned : Pinned := { name := "ythghgjcanefkgaa", sum := "b37e8bc5214e635e108f5858750185399730a81aa684bb7764f0137e90e3bb28", checked := Try.checked }
namespace Rows
def none {H : Type} : Left H := { results := [], args := [] }

/-- 'linguistlaw13.ModesRuns': WHATEVER THE INPUT: true; the input reads as it did. -/
def modesRunsSpec : ChangeSpec := { name := "modesRuns", fn := fun _ => fun
  | [] => { results := [.lit (.bool true)], args := [] }
  | _ => none }
def modesRunsRow : OpenClaim := { program := "ythghgjcanefkgaa", sum := "b37e8bc5214e635e108f5858750185399730a81aa684bb7764f0137e90e3bb28", func := "linguist/linguistlaw13.ModesRuns", spec := "modesRuns", apart := false }
def ModesRunsSaid : Prop := modesRunsRow.holds Try.pinned (OpenSpec.ofChange modesRunsSpec)

/-- ITS FALSE NEIGHBOUR: 'it returns false'. Refute it at one input. -/
def modesRunsWrong : ChangeSpec := { name := "modesRuns", fn := fun _ => fun
  | [] => { results := [.lit (.bool false)], args := [] }
  | _ => none }
def ModesRunsWrongFalsely : Prop := modesRunsRow.holds Try.pinned (OpenSpec.ofChange modesRunsWrong)

/-- 'linguistlaw13.ModesMany': WHATEVER THE INPUT: true; the input reads as it did. -/
def modesManySpec : ChangeSpec := { name := "modesMany", fn := fun _ => fun
  | [d1, d2, d3] => { results := [.lit (.bool true)], args := [d1, d2, d3] }
  | _ => none }
def modesManyRow : OpenClaim := { program := "ythghgjcanefkgaa", sum := "b37e8bc5214e635e108f5858750185399730a81aa684bb7764f0137e90e3bb28", func := "linguist/linguistlaw13.ModesMany", spec := "modesMany", apart := false }
def ModesManySaid : Prop := modesManyRow.holds Try.pinned (OpenSpec.ofChange modesManySpec)

/-- ITS FALSE NEIGHBOUR: 'it returns false'. Refute it at one input. -/
def modesManyWrong : ChangeSpec := { name := "modesMany", fn := fun _ => fun
  | [d1, d2, d3] => { results := [.lit (.bool false)], args := [d1, d2, d3] }
  | _ => none }
def ModesManyWrongFalsely : Prop := modesManyRow.holds Try.pinned (OpenSpec.ofChange modesManyWrong)

/-- 'linguistlaw13.ModesOrigin': WHATEVER THE INPUT: true; the input reads as it did. -/
def modesOriginSpec : ChangeSpec := { name := "modesOrigin", fn := fun _ => fun
  | [d] => { results := [.lit (.bool true)], args := [d] }
  | _ => none }
def modesOriginRow : OpenClaim := { program := "ythghgjcanefkgaa", sum := "b37e8bc5214e635e108f5858750185399730a81aa684bb7764f0137e90e3bb28", func := "linguist/linguistlaw13.ModesOrigin", spec := "modesOrigin", apart := false }
def ModesOriginSaid : Prop := modesOriginRow.holds Try.pinned (OpenSpec.ofChange modesOriginSpec)

/-- ITS FALSE NEIGHBOUR: 'it returns false'. Refute it at one input. -/
def modesOriginWrong : ChangeSpec := { name := "modesOrigin", fn := fun _ => fun
  | [d] => { results := [.lit (.bool false)], args := [d] }
  | _ => none }
def ModesOriginWrongFalsely : Prop := modesOriginRow.holds Try.pinned (OpenSpec.ofChange modesOriginWrong)

/-- 'linguistlaw13.ModesTells': WHATEVER THE INPUT: true; the input reads as it did. -/
def modesTellsSpec : ChangeSpec := { name := "modesTells", fn := fun _ => fun
  | [d1, d2, d3, d4, d5] => { results := [.lit (.bool true)], args := [d1, d2, d3, d4, d5] }
  | _ => none }
def modesTellsRow : OpenClaim := { program := "ythghgjcanefkgaa", sum := "b37e8bc5214e635e108f5858750185399730a81aa684bb7764f0137e90e3bb28", func := "linguist/linguistlaw13.ModesTells", spec := "modesTells", unfollowed := true, recurses := true, apart := false }
def ModesTellsSaid : Prop := modesTellsRow.holds Try.pinned (OpenSpec.ofChange modesTellsSpec)

/-- ITS FALSE NEIGHBOUR: 'it returns false'. Refute it at one input. -/
def modesTellsWrong : ChangeSpec := { name := "modesTells", fn := fun _ => fun
  | [d1, d2, d3, d4, d5] => { results := [.lit (.bool false)], args := [d1, d2, d3, d4, d5] }
  | _ => none }
def ModesTellsWrongFalsely : Prop := modesTellsRow.holds Try.pinned (OpenSpec.ofChange modesTellsWrong)

/- THE SECOND FORM. 'bulk': how many values and letters a reading holds, each counted each time it is reached (what is shared counts as often as it is met; a slice's spare places count too). A statement '..UptoSaid' is the law's where the arguments, and the package variables that the reading takes, are together of bulk at most 1048576: NARROWER than '..Said'. Prove '..Said' where nothing that the law and all that it calls make is longer than what came in: it says more and counts as full. Else prove '..UptoSaid'. A law counts once. -/
mutual
def uptoBulk {H : Type} : DataW H → Nat
  | .lit (.string bytes) => bytes.length + 1
  | .lit _ => 1
  | .nil => 1
  | .ptr d => uptoBulk d + 1
  | .slice elems spare => uptoBulkAll elems + uptoBulkAll spare + 1
  | .agg parts => uptoBulkAll parts + 1
  | .iface _ d => uptoBulk d + 1
  | .map entries => uptoBulkEntries entries + 1
  | .held _ => 1
def uptoBulkAll {H : Type} : List (DataW H) → Nat
  | [] => 0
  | d :: r => uptoBulk d + uptoBulkAll r
def uptoBulkEntries {H : Type} : List (Lit × DataW H) → Nat
  | [] => 0
  | x :: r => uptoBulkEntry x + uptoBulkEntries r
def uptoBulkEntry {H : Type} : Lit × DataW H → Nat
  | (.string bytes, d) => bytes.length + uptoBulk d + 1
  | (_, d) => uptoBulk d + 1
 end
def uptoSmall : (H : Type) → List (DataW H) → Bool := fun _ ds => decide (uptoBulkAll ds ≤ 1048576)
def OpenSpec.upto (s : _root_.Go.ChangeSpec) : _root_.Go.OpenSpec := { _root_.Go.OpenSpec.ofChange s with cond := some uptoSmall }

/-- 'linguistlaw13.ModesRuns', WHERE WHAT IT READS IS OF BULK AT MOST 1048576: true; the input reads as it did. -/
def modesRunsUptoRow : OpenClaim := { program := "ythghgjcanefkgaa", sum := "b37e8bc5214e635e108f5858750185399730a81aa684bb7764f0137e90e3bb28", func := "linguist/linguistlaw13.ModesRuns", spec := "modesRuns", apart := false, narrowed := true }
def ModesRunsUptoSaid : Prop := modesRunsUptoRow.holds Try.pinned (OpenSpec.upto modesRunsSpec)

/-- 'linguistlaw13.ModesMany', WHERE WHAT IT READS IS OF BULK AT MOST 1048576: true; the input reads as it did. -/
def modesManyUptoRow : OpenClaim := { program := "ythghgjcanefkgaa", sum := "b37e8bc5214e635e108f5858750185399730a81aa684bb7764f0137e90e3bb28", func := "linguist/linguistlaw13.ModesMany", spec := "modesMany", apart := false, narrowed := true }
def ModesManyUptoSaid : Prop := modesManyUptoRow.holds Try.pinned (OpenSpec.upto modesManySpec)

/-- 'linguistlaw13.ModesOrigin', WHERE WHAT IT READS IS OF BULK AT MOST 1048576: true; the input reads as it did. -/
def modesOriginUptoRow : OpenClaim := { program := "ythghgjcanefkgaa", sum := "b37e8bc5214e635e108f5858750185399730a81aa684bb7764f0137e90e3bb28", func := "linguist/linguistlaw13.ModesOrigin", spec := "modesOrigin", apart := false, narrowed := true }
def ModesOriginUptoSaid : Prop := modesOriginUptoRow.holds Try.pinned (OpenSpec.upto modesOriginSpec)

/-- 'linguistlaw13.ModesTells', WHERE WHAT IT READS IS OF BULK AT MOST 1048576: true; the input reads as it did. -/
def modesTellsUptoRow : OpenClaim := { program := "ythghgjcanefkgaa", sum := "b37e8bc5214e635e108f5858750185399730a81aa684bb7764f0137e90e3bb28", func := "linguist/linguistlaw13.ModesTells", spec := "modesTells", unfollowed := true, recurses := true, apart := false, narrowed := true }
def ModesTellsUptoSaid : Prop := modesTellsUptoRow.holds Try.pinned (OpenSpec.upto modesTellsSpec)

end Rows
end Go.Proofs.Ythghgjcanefkgaa
