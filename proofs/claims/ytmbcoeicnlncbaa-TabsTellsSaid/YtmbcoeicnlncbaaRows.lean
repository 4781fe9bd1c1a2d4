/-
  No cell of these rows narrows 'for every input' (looked for: loops, veiled, ifaces, maps, wideKeys, modest, calm, conditions, laid).
  DERIVED. THE GIVEN ROWS OF THIS SEAT. 5 by the template 'for every input the law returns true; each argument reads behind the call as it read before'; 0 by the template 'total and deterministic' (their statements: YtmbcoeicnlncbaaTotals.lean).
  GIVEN WITH THE SEED: the statements are not yours to turn. If you find one false, say at which input.
  Laid BY PROGRAM, IN A SANDBOX (cutbox-rows.mjs): the forced cells as the released guide's own fill.sh prints them over the translation 16cf486ed0797fe2… (all of the seat's roots in one cut). By AI agents, Wed Nov 11 2026. No macro, syntax, notation, axiom, sorry.
-/
import Derived.Test.YtmbcoeicnlncbaaChecked
import GoSem.Claim
import GoSem.ClaimJoined
import GoSem.ClaimMapViews
import Derived.JoinedTies
import Derived.KernelRfl
namespace Go.Proofs.Ytmbcoeicnlncbaa
/- THE CELL 'sum', in the pinned program and in every row, IS THE sha256 OF THE DUMP (.gsa) THAT YtmbcoeicnlncbaaProg.lean LOADS. Nothing in Lean hashes anything: it is a label: what it is worth is what the hold of that sum in a sandbox is worth. -/
noncomputable def Try.pinned : Pinned := { name := "ytmbcoeicnlncbaa", sum := "16cf486ed0797fe2908311defa936f306b9093e07d3af83b5116b41449d5d99e", checked := Try.checked }
namespace Rows
def none {H : Type} : Left H := { results := [], args := [] }

/-- 'linguistlaw9.TabsRuns': WHATEVER THE INPUT: true; the input reads as it did. -/
def tabsRunsSpec : ChangeSpec := { name := "tabsRuns", fn := fun _ => fun
  | [] => { results := [.lit (.bool true)], args := [] }
  | _ => none }
def tabsRunsRow : OpenClaim := { program := "ytmbcoeicnlncbaa", sum := "16cf486ed0797fe2908311defa936f306b9093e07d3af83b5116b41449d5d99e", func := "linguist/linguistlaw9.TabsRuns", spec := "tabsRuns", apart := false }
def TabsRunsSaid : Prop := tabsRunsRow.holds Try.pinned (OpenSpec.ofChange tabsRunsSpec)

/-- ITS FALSE NEIGHBOUR: 'it returns false'. Refute it at one input. -/
def tabsRunsWrong : ChangeSpec := { name := "tabsRuns", fn := fun _ => fun
  | [] => { results := [.lit (.bool false)], args := [] }
  | _ => none }
def TabsRunsWrongFalsely : Prop := tabsRunsRow.holds Try.pinned (OpenSpec.ofChange tabsRunsWrong)

/-- 'linguistlaw9.TabsEnds': WHATEVER THE INPUT: true; the input reads as it did. -/
def tabsEndsSpec : ChangeSpec := { name := "tabsEnds", fn := fun _ => fun
  | [d1, d2, d3, d4] => { results := [.lit (.bool true)], args := [d1, d2, d3, d4] }
  | _ => none }
def tabsEndsRow : OpenClaim := { program := "ytmbcoeicnlncbaa", sum := "16cf486ed0797fe2908311defa936f306b9093e07d3af83b5116b41449d5d99e", func := "linguist/linguistlaw9.TabsEnds", spec := "tabsEnds", apart := false }
def TabsEndsSaid : Prop := tabsEndsRow.holds Try.pinned (OpenSpec.ofChange tabsEndsSpec)

/-- ITS FALSE NEIGHBOUR: 'it returns false'. Refute it at one input. -/
def tabsEndsWrong : ChangeSpec := { name := "tabsEnds", fn := fun _ => fun
  | [d1, d2, d3, d4] => { results := [.lit (.bool false)], args := [d1, d2, d3, d4] }
  | _ => none }
def TabsEndsWrongFalsely : Prop := tabsEndsRow.holds Try.pinned (OpenSpec.ofChange tabsEndsWrong)

/-- 'linguistlaw9.TabsTells': WHATEVER THE INPUT: true; the input reads as it did. -/
def tabsTellsSpec : ChangeSpec := { name := "tabsTells", fn := fun _ => fun
  | [d1, d2, d3, d4] => { results := [.lit (.bool true)], args := [d1, d2, d3, d4] }
  | _ => none }
def tabsTellsRow : OpenClaim := { program := "ytmbcoeicnlncbaa", sum := "16cf486ed0797fe2908311defa936f306b9093e07d3af83b5116b41449d5d99e", func := "linguist/linguistlaw9.TabsTells", spec := "tabsTells", apart := false }
def TabsTellsSaid : Prop := tabsTellsRow.holds Try.pinned (OpenSpec.ofChange tabsTellsSpec)

/-- ITS FALSE NEIGHBOUR: 'it returns false'. Refute it at one input. -/
def tabsTellsWrong : ChangeSpec := { name := "tabsTells", fn := fun _ => fun
  | [d1, d2, d3, d4] => { results := [.lit (.bool false)], args := [d1, d2, d3, d4] }
  | _ => none }
def TabsTellsWrongFalsely : Prop := tabsTellsRow.holds Try.pinned (OpenSpec.ofChange tabsTellsWrong)

/-- 'linguistlaw9.TabsWalk': WHATEVER THE INPUT: true; the input reads as it did. -/
def tabsWalkSpec : ChangeSpec := { name := "tabsWalk", fn := fun _ => fun
  | [d1, d2] => { results := [.lit (.bool true)], args := [d1, d2] }
  | _ => none }
def tabsWalkRow : OpenClaim := { program := "ytmbcoeicnlncbaa", sum := "16cf486ed0797fe2908311defa936f306b9093e07d3af83b5116b41449d5d99e", func := "linguist/linguistlaw9.TabsWalk", spec := "tabsWalk", apart := false }
def TabsWalkSaid : Prop := tabsWalkRow.holds Try.pinned (OpenSpec.ofChange tabsWalkSpec)

/-- ITS FALSE NEIGHBOUR: 'it returns false'. Refute it at one input. -/
def tabsWalkWrong : ChangeSpec := { name := "tabsWalk", fn := fun _ => fun
  | [d1, d2] => { results := [.lit (.bool false)], args := [d1, d2] }
  | _ => none }
def TabsWalkWrongFalsely : Prop := tabsWalkRow.holds Try.pinned (OpenSpec.ofChange tabsWalkWrong)

/-- 'linguistlaw9.TabsBits': WHATEVER THE INPUT: true; the input reads as it did. -/
def tabsBitsSpec : ChangeSpec := { name := "tabsBits", fn := fun _ => fun
  | [d1, d2, d3] => { results := [.lit (.bool true)], args := [d1, d2, d3] }
  | _ => none }
def tabsBitsRow : OpenClaim := { program := "ytmbcoeicnlncbaa", sum := "16cf486ed0797fe2908311defa936f306b9093e07d3af83b5116b41449d5d99e", func := "linguist/linguistlaw9.TabsBits", spec := "tabsBits", apart := false }
def TabsBitsSaid : Prop := tabsBitsRow.holds Try.pinned (OpenSpec.ofChange tabsBitsSpec)

/-- ITS FALSE NEIGHBOUR: 'it returns false'. Refute it at one input. -/
def tabsBitsWrong : ChangeSpec := { name := "tabsBits", fn := fun _ => fun
  | [d1, d2, d3] => { results := [.lit (.bool false)], args := [d1, d2, d3] }
  | _ => none }
def TabsBitsWrongFalsely : Prop := tabsBitsRow.holds Try.pinned (OpenSpec.ofChange tabsBitsWrong)

/- THE SECOND FORM. 'bulk': how many values and letters a reading holds, each counted each time it is reached (what is shared counts as often as it is met; a slice's spare places count too). A statement '..UptoSaid' is the law's where the arguments, and the package variables that the reading takes, are together of bulk at most 1048576: NARROWER than '..Said'. Prove '..Said' where nothing that the law and all that it calls make is longer than what came in: it says more and counts as full. Else prove '..UptoSaid'. A law counts once. -/
mutual
def uptoBulk {H : Type} : DataW H → Nat
  | .lit (.string bytes) => bytes.length + 1
  | .lit _ => 1
  | .nil => 1
  | .ptr d => uptoBulk d + 1
  | .slice elems spare => uptoBulkAll elems + uptoBulkAll spare + 1
  | .agg parts => uptoBulkAll parts + 1
  | .iface _ d => uptoBulk d + 1
  | .map entries => uptoBulkEntries entries + 1
  | .held _ => 1
def uptoBulkAll {H : Type} : List (DataW H) → Nat
  | [] => 0
  | d :: r => uptoBulk d + uptoBulkAll r
def uptoBulkEntries {H : Type} : List (Lit × DataW H) → Nat
  | [] => 0
  | x :: r => uptoBulkEntry x + uptoBulkEntries r
def uptoBulkEntry {H : Type} : Lit × DataW H → Nat
  | (.string bytes, d) => bytes.length + uptoBulk d + 1
  | (_, d) => uptoBulk d + 1
 end
def uptoSmall : (H : Type) → List (DataW H) → Bool := fun _ ds => decide (uptoBulkAll ds ≤ 1048576)
def OpenSpec.upto (s : _root_.Go.ChangeSpec) : _root_.Go.OpenSpec := { _root_.Go.OpenSpec.ofChange s with cond := some uptoSmall }

/-- 'linguistlaw9.TabsRuns', WHERE WHAT IT READS IS OF BULK AT MOST 1048576: true; the input reads as it did. -/
def tabsRunsUptoRow : OpenClaim := { program := "ytmbcoeicnlncbaa", sum := "16cf486ed0797fe2908311defa936f306b9093e07d3af83b5116b41449d5d99e", func := "linguist/linguistlaw9.TabsRuns", spec := "tabsRuns", apart := false, narrowed := true }
def TabsRunsUptoSaid : Prop := tabsRunsUptoRow.holds Try.pinned (OpenSpec.upto tabsRunsSpec)

/-- 'linguistlaw9.TabsEnds', WHERE WHAT IT READS IS OF BULK AT MOST 1048576: true; the input reads as it did. -/
def tabsEndsUptoRow : OpenClaim := { program := "ytmbcoeicnlncbaa", sum := "16cf486ed0797fe2908311defa936f306b9093e07d3af83b5116b41449d5d99e", func := "linguist/linguistlaw9.TabsEnds", spec := "tabsEnds", apart := false, narrowed := true }
def TabsEndsUptoSaid : Prop := tabsEndsUptoRow.holds Try.pinned (OpenSpec.upto tabsEndsSpec)

/-- 'linguistlaw9.TabsTells', WHERE WHAT IT READS IS OF BULK AT MOST 1048576: true; the input reads as it did. -/
def tabsTellsUptoRow : OpenClaim := { program := "ytmbcoeicnlncbaa", sum := "16cf486ed0797fe2908311defa936f306b9093e07d3af83b5116b41449d5d99e", func := "linguist/linguistlaw9.TabsTells", spec := "tabsTells", apart := false, narrowed := true }
def TabsTellsUptoSaid : Prop := tabsTellsUptoRow.holds Try.pinned (OpenSpec.upto tabsTellsSpec)

/-- 'linguistlaw9.TabsWalk', WHERE WHAT IT READS IS OF BULK AT MOST 1048576: true; the input reads as it did. -/
def tabsWalkUptoRow : OpenClaim := { program := "ytmbcoeicnlncbaa", sum := "16cf486ed0797fe2908311defa936f306b9093e07d3af83b5116b41449d5d99e", func := "linguist/linguistlaw9.TabsWalk", spec := "tabsWalk", apart := false, narrowed := true }
def TabsWalkUptoSaid : Prop := tabsWalkUptoRow.holds Try.pinned (OpenSpec.upto tabsWalkSpec)

/-- 'linguistlaw9.TabsBits', WHERE WHAT IT READS IS OF BULK AT MOST 1048576: true; the input reads as it did. -/
def tabsBitsUptoRow : OpenClaim := { program := "ytmbcoeicnlncbaa", sum := "16cf486ed0797fe2908311defa936f306b9093e07d3af83b5116b41449d5d99e", func := "linguist/linguistlaw9.TabsBits", spec := "tabsBits", apart := false, narrowed := true }
def TabsBitsUptoSaid : Prop := tabsBitsUptoRow.holds Try.pinned (OpenSpec.upto tabsBitsSpec)

end Rows
end Go.Proofs.Ytmbcoeicnlncbaa
