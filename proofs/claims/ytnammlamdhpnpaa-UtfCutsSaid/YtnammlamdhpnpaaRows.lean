/-
  No cell of these rows narrows 'for every input' (looked for: loops, veiled, ifaces, maps, wideKeys, modest, calm, conditions, laid).
  DERIVED. THE GIVEN ROWS OF THIS SEAT. 6 by the template 'for every input the law returns true; each argument reads behind the call as it read before'; 0 by the template 'total and deterministic' (their statements: YtnammlamdhpnpaaTotals.lean).
  GIVEN WITH THE SEED: the statements are not yours to turn. If you find one false, say at which input.
  Laid BY PROGRAM, IN A SANDBOX (cutbox-rows.mjs): the forced cells as the released guide's own fill.sh prints them over the translation 4d6d07e27e747afe… (all of the seat's roots in one cut). By AI agents, Wed Nov 11 2026. No macro, syntax, notation, axiom, sorry.
-/
import Derived.Test.YtnammlamdhpnpaaChecked
import GoSem.Claim
import GoSem.ClaimJoined
import GoSem.ClaimMapViews
import Derived.JoinedTies
import Derived.KernelRfl
namespace Go.Proofs.Ytnammlamdhpnpaa
/- THE CELL 'sum', in the pinned program and in every row, IS THE sha256 OF THE DUMP (.gsa) THAT YtnammlamdhpnpaaProg.lean LOADS. Nothing in Lean hashes anything: it is a label: what it is worth is what the hold of that sum in a sandbox is worth. -/
noncomputable def Try.pinned : Pinned := { name := "ytnammlamdhpnpaa", sum := "4d6d07e27e747afea9c4d1a469969d7f13f65fd7da119e24c6d34f1702520fe0", checked := Try.checked }
namespace Rows
def none {H : Type} : Left H := { results := [], args := [] }

/-- 'linguistlaw1.UtfRuns': WHATEVER THE INPUT: true; the input reads as it did. -/
def utfRunsSpec : ChangeSpec := { name := "utfRuns", fn := fun _ => fun
  | [] => { results := [.lit (.bool true)], args := [] }
  | _ => none }
def utfRunsRow : OpenClaim := { program := "ytnammlamdhpnpaa", sum := "4d6d07e27e747afea9c4d1a469969d7f13f65fd7da119e24c6d34f1702520fe0", func := "linguist/linguistlaw1.UtfRuns", spec := "utfRuns", unfollowed := true, recurses := true, apart := false }
def UtfRunsSaid : Prop := utfRunsRow.holds Try.pinned (OpenSpec.ofChange utfRunsSpec)

/-- ITS FALSE NEIGHBOUR: 'it returns false'. Refute it at one input. -/
def utfRunsWrong : ChangeSpec := { name := "utfRuns", fn := fun _ => fun
  | [] => { results := [.lit (.bool false)], args := [] }
  | _ => none }
def UtfRunsWrongFalsely : Prop := utfRunsRow.holds Try.pinned (OpenSpec.ofChange utfRunsWrong)

/-- 'linguistlaw1.UtfTells': WHATEVER THE INPUT: true; the input reads as it did. -/
def utfTellsSpec : ChangeSpec := { name := "utfTells", fn := fun _ => fun
  | [d1, d2] => { results := [.lit (.bool true)], args := [d1, d2] }
  | _ => none }
def utfTellsRow : OpenClaim := { program := "ytnammlamdhpnpaa", sum := "4d6d07e27e747afea9c4d1a469969d7f13f65fd7da119e24c6d34f1702520fe0", func := "linguist/linguistlaw1.UtfTells", spec := "utfTells", unfollowed := true, recurses := true, apart := false }
def UtfTellsSaid : Prop := utfTellsRow.holds Try.pinned (OpenSpec.ofChange utfTellsSpec)

/-- ITS FALSE NEIGHBOUR: 'it returns false'. Refute it at one input. -/
def utfTellsWrong : ChangeSpec := { name := "utfTells", fn := fun _ => fun
  | [d1, d2] => { results := [.lit (.bool false)], args := [d1, d2] }
  | _ => none }
def UtfTellsWrongFalsely : Prop := utfTellsRow.holds Try.pinned (OpenSpec.ofChange utfTellsWrong)

/-- 'linguistlaw1.UtfBack': WHATEVER THE INPUT: true; the input reads as it did. -/
def utfBackSpec : ChangeSpec := { name := "utfBack", fn := fun _ => fun
  | [d1, d2] => { results := [.lit (.bool true)], args := [d1, d2] }
  | _ => none }
def utfBackRow : OpenClaim := { program := "ytnammlamdhpnpaa", sum := "4d6d07e27e747afea9c4d1a469969d7f13f65fd7da119e24c6d34f1702520fe0", func := "linguist/linguistlaw1.UtfBack", spec := "utfBack", unfollowed := true, recurses := true, apart := false }
def UtfBackSaid : Prop := utfBackRow.holds Try.pinned (OpenSpec.ofChange utfBackSpec)

/-- ITS FALSE NEIGHBOUR: 'it returns false'. Refute it at one input. -/
def utfBackWrong : ChangeSpec := { name := "utfBack", fn := fun _ => fun
  | [d1, d2] => { results := [.lit (.bool false)], args := [d1, d2] }
  | _ => none }
def UtfBackWrongFalsely : Prop := utfBackRow.holds Try.pinned (OpenSpec.ofChange utfBackWrong)

/-- 'linguistlaw1.UtfCuts': WHATEVER THE INPUT: true; the input reads as it did. -/
def utfCutsSpec : ChangeSpec := { name := "utfCuts", fn := fun _ => fun
  | [d1, d2] => { results := [.lit (.bool true)], args := [d1, d2] }
  | _ => none }
def utfCutsRow : OpenClaim := { program := "ytnammlamdhpnpaa", sum := "4d6d07e27e747afea9c4d1a469969d7f13f65fd7da119e24c6d34f1702520fe0", func := "linguist/linguistlaw1.UtfCuts", spec := "utfCuts", unfollowed := true, recurses := true, apart := false }
def UtfCutsSaid : Prop := utfCutsRow.holds Try.pinned (OpenSpec.ofChange utfCutsSpec)

/-- ITS FALSE NEIGHBOUR: 'it returns false'. Refute it at one input. -/
def utfCutsWrong : ChangeSpec := { name := "utfCuts", fn := fun _ => fun
  | [d1, d2] => { results := [.lit (.bool false)], args := [d1, d2] }
  | _ => none }
def UtfCutsWrongFalsely : Prop := utfCutsRow.holds Try.pinned (OpenSpec.ofChange utfCutsWrong)

/-- 'linguistlaw1.UtfWide': WHATEVER THE INPUT: true; the input reads as it did. -/
def utfWideSpec : ChangeSpec := { name := "utfWide", fn := fun _ => fun
  | [d1, d2] => { results := [.lit (.bool true)], args := [d1, d2] }
  | _ => none }
def utfWideRow : OpenClaim := { program := "ytnammlamdhpnpaa", sum := "4d6d07e27e747afea9c4d1a469969d7f13f65fd7da119e24c6d34f1702520fe0", func := "linguist/linguistlaw1.UtfWide", spec := "utfWide", unfollowed := true, recurses := true, apart := false }
def UtfWideSaid : Prop := utfWideRow.holds Try.pinned (OpenSpec.ofChange utfWideSpec)

/-- ITS FALSE NEIGHBOUR: 'it returns false'. Refute it at one input. -/
def utfWideWrong : ChangeSpec := { name := "utfWide", fn := fun _ => fun
  | [d1, d2] => { results := [.lit (.bool false)], args := [d1, d2] }
  | _ => none }
def UtfWideWrongFalsely : Prop := utfWideRow.holds Try.pinned (OpenSpec.ofChange utfWideWrong)

/-- 'linguistlaw1.UtfPlain': WHATEVER THE INPUT: true; the input reads as it did. -/
def utfPlainSpec : ChangeSpec := { name := "utfPlain", fn := fun _ => fun
  | [d] => { results := [.lit (.bool true)], args := [d] }
  | _ => none }
def utfPlainRow : OpenClaim := { program := "ytnammlamdhpnpaa", sum := "4d6d07e27e747afea9c4d1a469969d7f13f65fd7da119e24c6d34f1702520fe0", func := "linguist/linguistlaw1.UtfPlain", spec := "utfPlain", unfollowed := true, recurses := true, apart := false }
def UtfPlainSaid : Prop := utfPlainRow.holds Try.pinned (OpenSpec.ofChange utfPlainSpec)

/-- ITS FALSE NEIGHBOUR: 'it returns false'. Refute it at one input. -/
def utfPlainWrong : ChangeSpec := { name := "utfPlain", fn := fun _ => fun
  | [d] => { results := [.lit (.bool false)], args := [d] }
  | _ => none }
def UtfPlainWrongFalsely : Prop := utfPlainRow.holds Try.pinned (OpenSpec.ofChange utfPlainWrong)

/- THE SECOND FORM. 'bulk': how many values and letters a reading holds, each counted each time it is reached (what is shared counts as often as it is met; a slice's spare places count too). A statement '..UptoSaid' is the law's where the arguments, and the package variables that the reading takes, are together of bulk at most 1048576: NARROWER than '..Said'. Prove '..Said' where nothing that the law and all that it calls make is longer than what came in: it says more and counts as full. Else prove '..UptoSaid'. A law counts once. -/
mutual
def uptoBulk {H : Type} : DataW H → Nat
  | .lit (.string bytes) => bytes.length + 1
  | .lit _ => 1
  | .nil => 1
  | .ptr d => uptoBulk d + 1
  | .slice elems spare => uptoBulkAll elems + uptoBulkAll spare + 1
  | .agg parts => uptoBulkAll parts + 1
  | .iface _ d => uptoBulk d + 1
  | .map entries => uptoBulkEntries entries + 1
  | .held _ => 1
def uptoBulkAll {H : Type} : List (DataW H) → Nat
  | [] => 0
  | d :: r => uptoBulk d + uptoBulkAll r
def uptoBulkEntries {H : Type} : List (Lit × DataW H) → Nat
  | [] => 0
  | x :: r => uptoBulkEntry x + uptoBulkEntries r
def uptoBulkEntry {H : Type} : Lit × DataW H → Nat
  | (.string bytes, d) => bytes.length + uptoBulk d + 1
  | (_, d) => uptoBulk d + 1
 end
def uptoSmall : (H : Type) → List (DataW H) → Bool := fun _ ds => decide (uptoBulkAll ds ≤ 1048576)
def OpenSpec.upto (s : _root_.Go.ChangeSpec) : _root_.Go.OpenSpec := { _root_.Go.OpenSpec.ofChange s with cond := some uptoSmall }

/-- 'linguistlaw1.UtfRuns', WHERE WHAT IT READS IS OF BULK AT MOST 1048576: true; the input reads as it did. -/
def utfRunsUptoRow : OpenClaim := { program := "ytnammlamdhpnpaa", sum := "4d6d07e27e747afea9c4d1a469969d7f13f65fd7da119e24c6d34f1702520fe0", func := "linguist/linguistlaw1.UtfRuns", spec := "utfRuns", unfollowed := true, recurses := true, apart := false, narrowed := true }
def UtfRunsUptoSaid : Prop := utfRunsUptoRow.holds Try.pinned (OpenSpec.upto utfRunsSpec)

/-- 'linguistlaw1.UtfTells', WHERE WHAT IT READS IS OF BULK AT MOST 1048576: true; the input reads as it did. -/
def utfTellsUptoRow : OpenClaim := { program := "ytnammlamdhpnpaa", sum := "4d6d07e27e747afea9c4d1a469969d7f13f65fd7da119e24c6d34f1702520fe0", func := "linguist/linguistlaw1.UtfTells", spec := "utfTells", unfollowed := true, recurses := true, apart := false, narrowed := true }
def UtfTellsUptoSaid : Prop := utfTellsUptoRow.holds Try.pinned (OpenSpec.upto utfTellsSpec)

/-- 'linguistlaw1.UtfBack', WHERE WHAT IT READS IS OF BULK AT MOST 1048576: true; the input reads as it did. -/
def utfBackUptoRow : OpenClaim := { program := "ytnammlamdhpnpaa", sum := "4d6d07e27e747afea9c4d1a469969d7f13f65fd7da119e24c6d34f1702520fe0", func := "linguist/linguistlaw1.UtfBack", spec := "utfBack", unfollowed := true, recurses := true, apart := false, narrowed := true }
def UtfBackUptoSaid : Prop := utfBackUptoRow.holds Try.pinned (OpenSpec.upto utfBackSpec)

/-- 'linguistlaw1.UtfCuts', WHERE WHAT IT READS IS OF BULK AT MOST 1048576: true; the input reads as it did. -/
def utfCutsUptoRow : OpenClaim := { program := "ytnammlamdhpnpaa", sum := "4d6d07e27e747afea9c4d1a469969d7f13f65fd7da119e24c6d34f1702520fe0", func := "linguist/linguistlaw1.UtfCuts", spec := "utfCuts", unfollowed := true, recurses := true, apart := false, narrowed := true }
def UtfCutsUptoSaid : Prop := utfCutsUptoRow.holds Try.pinned (OpenSpec.upto utfCutsSpec)

/-- 'linguistlaw1.UtfWide', WHERE WHAT IT READS IS OF BULK AT MOST 1048576: true; the input reads as it did. -/
def utfWideUptoRow : OpenClaim := { program := "ytnammlamdhpnpaa", sum := "4d6d07e27e747afea9c4d1a469969d7f13f65fd7da119e24c6d34f1702520fe0", func := "linguist/linguistlaw1.UtfWide", spec := "utfWide", unfollowed := true, recurses := true, apart := false, narrowed := true }
def UtfWideUptoSaid : Prop := utfWideUptoRow.holds Try.pinned (OpenSpec.upto utfWideSpec)

/-- 'linguistlaw1.UtfPlain', WHERE WHAT IT READS IS OF BULK AT MOST 1048576: true; the input reads as it did. -/
def utfPlainUptoRow : OpenClaim := { program := "ytnammlamdhpnpaa", sum := "4d6d07e27e747afea9c4d1a469969d7f13f65fd7da119e24c6d34f1702520fe0", func := "linguist/linguistlaw1.UtfPlain", spec := "utfPlain", unfollowed := true, recurses := true, apart := false, narrowed := true }
def UtfPlainUptoSaid : Prop := utfPlainUptoRow.holds Try.pinned (OpenSpec.upto utfPlainSpec)

end Rows
end Go.Proofs.Ytnammlamdhpnpaa
