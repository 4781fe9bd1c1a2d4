/-
  No cell of these rows narrows 'for every input' (looked for: loops, veiled, ifaces, maps, wideKeys, modest, calm, conditions, laid).
  DERIVED. THE GIVEN ROWS OF THIS SEAT. 5 by the template 'for every input the law returns true; each argument reads behind the call as it read before'; 0 by the template 'total and deterministic' (their statements: YtckloabcmnmmdaaTotals.lean).
  GIVEN WITH THE SEED: the statements are not yours to turn. If you find one false, say at which input.
  Laid BY PROGRAM, IN A SANDBOX (cutbox-rows.mjs): the forced cells as the released guide's own fill.sh prints them over the translation 0aea69e830b00d11… (all of the seat's roots in one cut). By AI agents, Wed Nov 11 2026. No macro, syntax, notation, axiom, sorry.
-/
import Derived.Test.YtckloabcmnmmdaaChecked
import GoSem.Claim
import GoSem.ClaimJoined
import GoSem.ClaimMapViews
import Derived.JoinedTies
import Derived.KernelRfl
namespace Go.Proofs.Ytckloabcmnmmdaa
/- THE CELL 'sum', in the pinned program and in every row, IS THE sha256 OF THE DUMP (.gsa) THAT YtckloabcmnmmdaaProg.lean LOADS. Nothing in Lean hashes anything: it is a label: what it is worth is what the hold of that sum in a sandbox is worth. -/
noncomputable def Try.pinned : Pinned := { name := "ytckloabcmnmmdaa", sum := "0aea69e830b00d111c8c387c9795e442fe9a328f0ec5f2199f4c8a7d0913d358", checked := Try.checked }
namespace Rows
def none {H : Type} : Left H := { results := [], args := [] }

/-- 'linguistlaw12.CursorRuns': WHATEVER THE INPUT: true; the input reads as it did. -/
def cursorRunsSpec : ChangeSpec := { name := "cursorRuns", fn := fun _ => fun
  | [] => { results := [.lit (.bool true)], args := [] }
  | _ => none }
def cursorRunsRow : OpenClaim := { program := "ytckloabcmnmmdaa", sum := "0aea69e830b00d111c8c387c9795e442fe9a328f0ec5f2199f4c8a7d0913d358", func := "linguist/linguistlaw12.CursorRuns", spec := "cursorRuns", inPlace := ["internal/abi.NoEscape"], apart := false }
def CursorRunsSaid : Prop := cursorRunsRow.holds Try.pinned (OpenSpec.ofChange cursorRunsSpec)

/-- ITS FALSE NEIGHBOUR: 'it returns false'. Refute it at one input. -/
def cursorRunsWrong : ChangeSpec := { name := "cursorRuns", fn := fun _ => fun
  | [] => { results := [.lit (.bool false)], args := [] }
  | _ => none }
def CursorRunsWrongFalsely : Prop := cursorRunsRow.holds Try.pinned (OpenSpec.ofChange cursorRunsWrong)

/-- 'linguistlaw12.CursorGo': WHATEVER THE INPUT: true; the input reads as it did. -/
def cursorGoSpec : ChangeSpec := { name := "cursorGo", fn := fun _ => fun
  | [d1, d2, d3] => { results := [.lit (.bool true)], args := [d1, d2, d3] }
  | _ => none }
def cursorGoRow : OpenClaim := { program := "ytckloabcmnmmdaa", sum := "0aea69e830b00d111c8c387c9795e442fe9a328f0ec5f2199f4c8a7d0913d358", func := "linguist/linguistlaw12.CursorGo", spec := "cursorGo", inPlace := ["internal/abi.NoEscape"], apart := false }
def CursorGoSaid : Prop := cursorGoRow.holds Try.pinned (OpenSpec.ofChange cursorGoSpec)

/-- ITS FALSE NEIGHBOUR: 'it returns false'. Refute it at one input. -/
def cursorGoWrong : ChangeSpec := { name := "cursorGo", fn := fun _ => fun
  | [d1, d2, d3] => { results := [.lit (.bool false)], args := [d1, d2, d3] }
  | _ => none }
def CursorGoWrongFalsely : Prop := cursorGoRow.holds Try.pinned (OpenSpec.ofChange cursorGoWrong)

/-- 'linguistlaw12.CursorScrolls': WHATEVER THE INPUT: true; the input reads as it did. -/
def cursorScrollsSpec : ChangeSpec := { name := "cursorScrolls", fn := fun _ => fun
  | [d] => { results := [.lit (.bool true)], args := [d] }
  | _ => none }
def cursorScrollsRow : OpenClaim := { program := "ytckloabcmnmmdaa", sum := "0aea69e830b00d111c8c387c9795e442fe9a328f0ec5f2199f4c8a7d0913d358", func := "linguist/linguistlaw12.CursorScrolls", spec := "cursorScrolls", inPlace := ["internal/abi.NoEscape"], apart := false }
def CursorScrollsSaid : Prop := cursorScrollsRow.holds Try.pinned (OpenSpec.ofChange cursorScrollsSpec)

/-- ITS FALSE NEIGHBOUR: 'it returns false'. Refute it at one input. -/
def cursorScrollsWrong : ChangeSpec := { name := "cursorScrolls", fn := fun _ => fun
  | [d] => { results := [.lit (.bool false)], args := [d] }
  | _ => none }
def CursorScrollsWrongFalsely : Prop := cursorScrollsRow.holds Try.pinned (OpenSpec.ofChange cursorScrollsWrong)

/-- 'linguistlaw12.CursorLaws': WHATEVER THE INPUT: true; the input reads as it did. -/
def cursorLawsSpec : ChangeSpec := { name := "cursorLaws", fn := fun _ => fun
  | [d1, d2] => { results := [.lit (.bool true)], args := [d1, d2] }
  | _ => none }
def cursorLawsRow : OpenClaim := { program := "ytckloabcmnmmdaa", sum := "0aea69e830b00d111c8c387c9795e442fe9a328f0ec5f2199f4c8a7d0913d358", func := "linguist/linguistlaw12.CursorLaws", spec := "cursorLaws", inPlace := ["internal/abi.NoEscape"], apart := false }
def CursorLawsSaid : Prop := cursorLawsRow.holds Try.pinned (OpenSpec.ofChange cursorLawsSpec)

/-- ITS FALSE NEIGHBOUR: 'it returns false'. Refute it at one input. -/
def cursorLawsWrong : ChangeSpec := { name := "cursorLaws", fn := fun _ => fun
  | [d1, d2] => { results := [.lit (.bool false)], args := [d1, d2] }
  | _ => none }
def CursorLawsWrongFalsely : Prop := cursorLawsRow.holds Try.pinned (OpenSpec.ofChange cursorLawsWrong)

/-- 'linguistlaw12.CursorTells': WHATEVER THE INPUT: true; the input reads as it did. -/
def cursorTellsSpec : ChangeSpec := { name := "cursorTells", fn := fun _ => fun
  | [d1, d2, d3, d4, d5] => { results := [.lit (.bool true)], args := [d1, d2, d3, d4, d5] }
  | _ => none }
def cursorTellsRow : OpenClaim := { program := "ytckloabcmnmmdaa", sum := "0aea69e830b00d111c8c387c9795e442fe9a328f0ec5f2199f4c8a7d0913d358", func := "linguist/linguistlaw12.CursorTells", spec := "cursorTells", inPlace := ["internal/abi.NoEscape"], unfollowed := true, recurses := true, apart := false }
def CursorTellsSaid : Prop := cursorTellsRow.holds Try.pinned (OpenSpec.ofChange cursorTellsSpec)

/-- ITS FALSE NEIGHBOUR: 'it returns false'. Refute it at one input. -/
def cursorTellsWrong : ChangeSpec := { name := "cursorTells", fn := fun _ => fun
  | [d1, d2, d3, d4, d5] => { results := [.lit (.bool false)], args := [d1, d2, d3, d4, d5] }
  | _ => none }
def CursorTellsWrongFalsely : Prop := cursorTellsRow.holds Try.pinned (OpenSpec.ofChange cursorTellsWrong)

/- THE SECOND FORM. 'bulk': how many values and letters a reading holds, each counted each time it is reached (what is shared counts as often as it is met; a slice's spare places count too). A statement '..UptoSaid' is the law's where the arguments, and the package variables that the reading takes, are together of bulk at most 1048576: NARROWER than '..Said'. Prove '..Said' where nothing that the law and all that it calls make is longer than what came in: it says more and counts as full. Else prove '..UptoSaid'. A law counts once. -/
mutual
def uptoBulk {H : Type} : DataW H → Nat
  | .lit (.string bytes) => bytes.length + 1
  | .lit _ => 1
  | .nil => 1
  | .ptr d => uptoBulk d + 1
  | .slice elems spare => uptoBulkAll elems + uptoBulkAll spare + 1
  | .agg parts => uptoBulkAll parts + 1
  | .iface _ d => uptoBulk d + 1
  | .map entries => uptoBulkEntries entries + 1
  | .held _ => 1
def uptoBulkAll {H : Type} : List (DataW H) → Nat
  | [] => 0
  | d :: r => uptoBulk d + uptoBulkAll r
def uptoBulkEntries {H : Type} : List (Lit × DataW H) → Nat
  | [] => 0
  | x :: r => uptoBulkEntry x + uptoBulkEntries r
def uptoBulkEntry {H : Type} : Lit × DataW H → Nat
  | (.string bytes, d) => bytes.length + uptoBulk d + 1
  | (_, d) => uptoBulk d + 1
 end
def uptoSmall : (H : Type) → List (DataW H) → Bool := fun _ ds => decide (uptoBulkAll ds ≤ 1048576)
def OpenSpec.upto (s : _root_.Go.ChangeSpec) : _root_.Go.OpenSpec := { _root_.Go.OpenSpec.ofChange s with cond := some uptoSmall }

/-- 'linguistlaw12.CursorRuns', WHERE WHAT IT READS IS OF BULK AT MOST 1048576: true; the input reads as it did. -/
def cursorRunsUptoRow : OpenClaim := { program := "ytckloabcmnmmdaa", sum := "0aea69e830b00d111c8c387c9795e442fe9a328f0ec5f2199f4c8a7d0913d358", func := "linguist/linguistlaw12.CursorRuns", spec := "cursorRuns", inPlace := ["internal/abi.NoEscape"], apart := false, narrowed := true }
def CursorRunsUptoSaid : Prop := cursorRunsUptoRow.holds Try.pinned (OpenSpec.upto cursorRunsSpec)

/-- 'linguistlaw12.CursorGo', WHERE WHAT IT READS IS OF BULK AT MOST 1048576: true; the input reads as it did. -/
def cursorGoUptoRow : OpenClaim := { program := "ytckloabcmnmmdaa", sum := "0aea69e830b00d111c8c387c9795e442fe9a328f0ec5f2199f4c8a7d0913d358", func := "linguist/linguistlaw12.CursorGo", spec := "cursorGo", inPlace := ["internal/abi.NoEscape"], apart := false, narrowed := true }
def CursorGoUptoSaid : Prop := cursorGoUptoRow.holds Try.pinned (OpenSpec.upto cursorGoSpec)

/-- 'linguistlaw12.CursorScrolls', WHERE WHAT IT READS IS OF BULK AT MOST 1048576: true; the input reads as it did. -/
def cursorScrollsUptoRow : OpenClaim := { program := "ytckloabcmnmmdaa", sum := "0aea69e830b00d111c8c387c9795e442fe9a328f0ec5f2199f4c8a7d0913d358", func := "linguist/linguistlaw12.CursorScrolls", spec := "cursorScrolls", inPlace := ["internal/abi.NoEscape"], apart := false, narrowed := true }
def CursorScrollsUptoSaid : Prop := cursorScrollsUptoRow.holds Try.pinned (OpenSpec.upto cursorScrollsSpec)

/-- 'linguistlaw12.CursorLaws', WHERE WHAT IT READS IS OF BULK AT MOST 1048576: true; the input reads as it did. -/
def cursorLawsUptoRow : OpenClaim := { program := "ytckloabcmnmmdaa", sum := "0aea69e830b00d111c8c387c9795e442fe9a328f0ec5f2199f4c8a7d0913d358", func := "linguist/linguistlaw12.CursorLaws", spec := "cursorLaws", inPlace := ["internal/abi.NoEscape"], apart := false, narrowed := true }
def CursorLawsUptoSaid : Prop := cursorLawsUptoRow.holds Try.pinned (OpenSpec.upto cursorLawsSpec)

/-- 'linguistlaw12.CursorTells', WHERE WHAT IT READS IS OF BULK AT MOST 1048576: true; the input reads as it did. -/
def cursorTellsUptoRow : OpenClaim := { program := "ytckloabcmnmmdaa", sum := "0aea69e830b00d111c8c387c9795e442fe9a328f0ec5f2199f4c8a7d0913d358", func := "linguist/linguistlaw12.CursorTells", spec := "cursorTells", inPlace := ["internal/abi.NoEscape"], unfollowed := true, recurses := true, apart := false, narrowed := true }
def CursorTellsUptoSaid : Prop := cursorTellsUptoRow.holds Try.pinned (OpenSpec.upto cursorTellsSpec)

end Rows
end Go.Proofs.Ytckloabcmnmmdaa
