/-
  No cell of these rows narrows 'for every input' (looked for: loops, veiled, ifaces, maps, wideKeys, modest, calm, conditions, laid).
  DERIVED. THE GIVEN ROWS OF THIS SEAT. 4 by the template 'for every input the law returns true; each argument reads behind the call as it read before'; 0 by the template 'total and deterministic' (their statements: YtojomdeckobfnaaTotals.lean).
  GIVEN WITH THE SEED: the statements are not yours to turn. If you find one false, say at which input.
  Laid BY PROGRAM, IN A SANDBOX (cutbox-rows.mjs): the forced cells as the released guide's own fill.sh prints them over the translation 1c19468742e1e26b… (all of the seat's roots in one cut). By AI agents, Wed Nov 11 2026. No macro, syntax, notation, axiom, sorry.
-/
import Derived.Test.YtojomdeckobfnaaChecked
import GoSem.Claim
import GoSem.ClaimJoined
import GoSem.ClaimMapViews
import Derived.JoinedTies
import Derived.KernelRfl
namespace Go.Proofs.Ytojomdeckobfnaa
/- THE CELL 'sum', in the pinned program and in every row, IS THE sha256 OF THE DUMP (.gsa) THAT YtojomdeckobfnaaProg.lean LOADS. Nothing in Lean hashes anything: it is a label: what it is worth is what the hold of that sum in a sandbox is worth. -/
noncomputable def Try.pinned : Pinned := { name := "ytojomdeckobfnaa", sum := "1c19468742e1e26b6c3840e8b117395bf125c1d86193f48f88707a11c56f38e4", checked := Try.checked }
namespace Rows
def none {H : Type} : Left H := { results := [], args := [] }

/-- 'linguistlaw11.ScreenRuns': WHATEVER THE INPUT: true; the input reads as it did. -/
def screenRunsSpec : ChangeSpec := { name := "screenRuns", fn := fun _ => fun
  | [] => { results := [.lit (.bool true)], args := [] }
  | _ => none }
def screenRunsRow : OpenClaim := { program := "ytojomdeckobfnaa", sum := "1c19468742e1e26b6c3840e8b117395bf125c1d86193f48f88707a11c56f38e4", func := "linguist/linguistlaw11.ScreenRuns", spec := "screenRuns", unfollowed := true, recurses := true, apart := false }
def ScreenRunsSaid : Prop := screenRunsRow.holds Try.pinned (OpenSpec.ofChange screenRunsSpec)

/-- ITS FALSE NEIGHBOUR: 'it returns false'. Refute it at one input. -/
def screenRunsWrong : ChangeSpec := { name := "screenRuns", fn := fun _ => fun
  | [] => { results := [.lit (.bool false)], args := [] }
  | _ => none }
def ScreenRunsWrongFalsely : Prop := screenRunsRow.holds Try.pinned (OpenSpec.ofChange screenRunsWrong)

/-- 'linguistlaw11.ScreenSizes': WHATEVER THE INPUT: true; the input reads as it did. -/
def screenSizesSpec : ChangeSpec := { name := "screenSizes", fn := fun _ => fun
  | [d1, d2, d3] => { results := [.lit (.bool true)], args := [d1, d2, d3] }
  | _ => none }
def screenSizesRow : OpenClaim := { program := "ytojomdeckobfnaa", sum := "1c19468742e1e26b6c3840e8b117395bf125c1d86193f48f88707a11c56f38e4", func := "linguist/linguistlaw11.ScreenSizes", spec := "screenSizes", unfollowed := true, recurses := true, apart := false }
def ScreenSizesSaid : Prop := screenSizesRow.holds Try.pinned (OpenSpec.ofChange screenSizesSpec)

/-- ITS FALSE NEIGHBOUR: 'it returns false'. Refute it at one input. -/
def screenSizesWrong : ChangeSpec := { name := "screenSizes", fn := fun _ => fun
  | [d1, d2, d3] => { results := [.lit (.bool false)], args := [d1, d2, d3] }
  | _ => none }
def ScreenSizesWrongFalsely : Prop := screenSizesRow.holds Try.pinned (OpenSpec.ofChange screenSizesWrong)

/-- 'linguistlaw11.ScreenLooks': WHATEVER THE INPUT: true; the input reads as it did. -/
def screenLooksSpec : ChangeSpec := { name := "screenLooks", fn := fun _ => fun
  | [d1, d2] => { results := [.lit (.bool true)], args := [d1, d2] }
  | _ => none }
def screenLooksRow : OpenClaim := { program := "ytojomdeckobfnaa", sum := "1c19468742e1e26b6c3840e8b117395bf125c1d86193f48f88707a11c56f38e4", func := "linguist/linguistlaw11.ScreenLooks", spec := "screenLooks", unfollowed := true, recurses := true, apart := false }
def ScreenLooksSaid : Prop := screenLooksRow.holds Try.pinned (OpenSpec.ofChange screenLooksSpec)

/-- ITS FALSE NEIGHBOUR: 'it returns false'. Refute it at one input. -/
def screenLooksWrong : ChangeSpec := { name := "screenLooks", fn := fun _ => fun
  | [d1, d2] => { results := [.lit (.bool false)], args := [d1, d2] }
  | _ => none }
def ScreenLooksWrongFalsely : Prop := screenLooksRow.holds Try.pinned (OpenSpec.ofChange screenLooksWrong)

/-- 'linguistlaw11.ScreenTells': WHATEVER THE INPUT: true; the input reads as it did. -/
def screenTellsSpec : ChangeSpec := { name := "screenTells", fn := fun _ => fun
  | [d1, d2, d3, d4, d5] => { results := [.lit (.bool true)], args := [d1, d2, d3, d4, d5] }
  | _ => none }
def screenTellsRow : OpenClaim := { program := "ytojomdeckobfnaa", sum := "1c19468742e1e26b6c3840e8b117395bf125c1d86193f48f88707a11c56f38e4", func := "linguist/linguistlaw11.ScreenTells", spec := "screenTells", unfollowed := true, recurses := true, apart := false }
def ScreenTellsSaid : Prop := screenTellsRow.holds Try.pinned (OpenSpec.ofChange screenTellsSpec)

/-- ITS FALSE NEIGHBOUR: 'it returns false'. Refute it at one input. -/
def screenTellsWrong : ChangeSpec := { name := "screenTells", fn := fun _ => fun
  | [d1, d2, d3, d4, d5] => { results := [.lit (.bool false)], args := [d1, d2, d3, d4, d5] }
  | _ => none }
def ScreenTellsWrongFalsely : Prop := screenTellsRow.holds Try.pinned (OpenSpec.ofChange screenTellsWrong)

/- THE SECOND FORM. 'bulk': how many values and letters a reading holds, each counted each time it is reached (what is shared counts as often as it is met; a slice's spare places count too). A statement '..UptoSaid' is the law's where the arguments, and the package variables that the reading takes, are together of bulk at most 1048576: NARROWER than '..Said'. Prove '..Said' where nothing that the law and all that it calls make is longer than what came in: it says more and counts as full. Else prove '..UptoSaid'. A law counts once. -/
mutual
def uptoBulk {H : Type} : DataW H → Nat
  | .lit (.string bytes) => bytes.length + 1
  | .lit _ => 1
  | .nil => 1
  | .ptr d => uptoBulk d + 1
  | .slice elems spare => uptoBulkAll elems + uptoBulkAll spare + 1
  | .agg parts => uptoBulkAll parts + 1
  | .iface _ d => uptoBulk d + 1
  | .map entries => uptoBulkEntries entries + 1
  | .held _ => 1
def uptoBulkAll {H : Type} : List (DataW H) → Nat
  | [] => 0
  | d :: r => uptoBulk d + uptoBulkAll r
def uptoBulkEntries {H : Type} : List (Lit × DataW H) → Nat
  | [] => 0
  | x :: r => uptoBulkEntry x + uptoBulkEntries r
def uptoBulkEntry {H : Type} : Lit × DataW H → Nat
  | (.string bytes, d) => bytes.length + uptoBulk d + 1
  | (_, d) => uptoBulk d + 1
 end
def uptoSmall : (H : Type) → List (DataW H) → Bool := fun _ ds => decide (uptoBulkAll ds ≤ 1048576)
def OpenSpec.upto (s : _root_.Go.ChangeSpec) : _root_.Go.OpenSpec := { _root_.Go.OpenSpec.ofChange s with cond := some uptoSmall }

/-- 'linguistlaw11.ScreenRuns', WHERE WHAT IT READS IS OF BULK AT MOST 1048576: true; the input reads as it did. -/
def screenRunsUptoRow : OpenClaim := { program := "ytojomdeckobfnaa", sum := "1c19468742e1e26b6c3840e8b117395bf125c1d86193f48f88707a11c56f38e4", func := "linguist/linguistlaw11.ScreenRuns", spec := "screenRuns", unfollowed := true, recurses := true, apart := false, narrowed := true }
def ScreenRunsUptoSaid : Prop := screenRunsUptoRow.holds Try.pinned (OpenSpec.upto screenRunsSpec)

/-- 'linguistlaw11.ScreenSizes', WHERE WHAT IT READS IS OF BULK AT MOST 1048576: true; the input reads as it did. -/
def screenSizesUptoRow : OpenClaim := { program := "ytojomdeckobfnaa", sum := "1c19468742e1e26b6c3840e8b117395bf125c1d86193f48f88707a11c56f38e4", func := "linguist/linguistlaw11.ScreenSizes", spec := "screenSizes", unfollowed := true, recurses := true, apart := false, narrowed := true }
def ScreenSizesUptoSaid : Prop := screenSizesUptoRow.holds Try.pinned (OpenSpec.upto screenSizesSpec)

/-- 'linguistlaw11.ScreenLooks', WHERE WHAT IT READS IS OF BULK AT MOST 1048576: true; the input reads as it did. -/
def screenLooksUptoRow : OpenClaim := { program := "ytojomdeckobfnaa", sum := "1c19468742e1e26b6c3840e8b117395bf125c1d86193f48f88707a11c56f38e4", func := "linguist/linguistlaw11.ScreenLooks", spec := "screenLooks", unfollowed := true, recurses := true, apart := false, narrowed := true }
def ScreenLooksUptoSaid : Prop := screenLooksUptoRow.holds Try.pinned (OpenSpec.upto screenLooksSpec)

/-- 'linguistlaw11.ScreenTells', WHERE WHAT IT READS IS OF BULK AT MOST 1048576: true; the input reads as it did. -/
def screenTellsUptoRow : OpenClaim := { program := "ytojomdeckobfnaa", sum := "1c19468742e1e26b6c3840e8b117395bf125c1d86193f48f88707a11c56f38e4", func := "linguist/linguistlaw11.ScreenTells", spec := "screenTells", unfollowed := true, recurses := true, apart := false, narrowed := true }
def ScreenTellsUptoSaid : Prop := screenTellsUptoRow.holds Try.pinned (OpenSpec.upto screenTellsSpec)

end Rows
end Go.Proofs.Ytojomdeckobfnaa
