/-
  No cell of these rows narrows 'for every input' (looked for: loops, veiled, ifaces, maps, wideKeys, modest, calm, conditions, laid).
  DERIVED. THE GIVEN ROWS OF THIS SEAT. 5 by the template 'for every input the law returns true; each argument reads behind the call as it read before'; 0 by the template 'total and deterministic' (their statements: YtlpmhldejeaefaaTotals.lean).
  GIVEN WITH THE SEED: the statements are not yours to turn. If you find one false, say at which input.
  Laid BY PROGRAM, IN A SANDBOX (cutbox-rows.mjs): the forced cells as the released guide's own fill.sh prints them over the translation f5d8492c69194216… (all of the seat's roots in one cut). By AI agents, Wed Nov 11 2026. No macro, syntax, notation, axiom, sorry.
-/
import Derived.Test.YtlpmhldejeaefaaChecked
import GoSem.Claim
import GoSem.ClaimJoined
import GoSem.ClaimMapViews
import Derived.JoinedTies
import Derived.KernelRfl
namespace Go.Proofs.Ytlpmhldejeaefaa
/- THE CELL 'sum', in the pinned program and in every row, IS THE sha256 OF THE DUMP (.gsa) THAT YtlpmhldejeaefaaProg.lean LOADS. Nothing in Lean hashes anything: it is a label: what it is worth is what the hold of that sum in a sandbox is worth. -/
noncomputable def Try.pinned : Pinned := { name := "ytlpmhldejeaefaa", sum := "f5d8492c691942169630f94dfd22920c3a61e9f6a68ba1f198a1a8b4f87867e4", checked := Try.checked }
namespace Rows
def none {H : Type} : Left H := { results := [], args := [] }

/-- 'linguistlaw18.LowerRuns': WHATEVER THE INPUT: true; the input reads as it did. -/
def lowerRunsSpec : ChangeSpec := { name := "lowerRuns", fn := fun _ => fun
  | [] => { results := [.lit (.bool true)], args := [] }
  | _ => none }
def lowerRunsRow : OpenClaim := { program := "ytlpmhldejeaefaa", sum := "f5d8492c691942169630f94dfd22920c3a61e9f6a68ba1f198a1a8b4f87867e4", func := "linguist/linguistlaw18.LowerRuns", spec := "lowerRuns", apart := false }
def LowerRunsSaid : Prop := lowerRunsRow.holds Try.pinned (OpenSpec.ofChange lowerRunsSpec)

/-- ITS FALSE NEIGHBOUR: 'it returns false'. Refute it at one input. -/
def lowerRunsWrong : ChangeSpec := { name := "lowerRuns", fn := fun _ => fun
  | [] => { results := [.lit (.bool false)], args := [] }
  | _ => none }
def LowerRunsWrongFalsely : Prop := lowerRunsRow.holds Try.pinned (OpenSpec.ofChange lowerRunsWrong)

/-- 'linguistlaw18.LowerColours': WHATEVER THE INPUT: true; the input reads as it did. -/
def lowerColoursSpec : ChangeSpec := { name := "lowerColours", fn := fun _ => fun
  | [d1, d2] => { results := [.lit (.bool true)], args := [d1, d2] }
  | _ => none }
def lowerColoursRow : OpenClaim := { program := "ytlpmhldejeaefaa", sum := "f5d8492c691942169630f94dfd22920c3a61e9f6a68ba1f198a1a8b4f87867e4", func := "linguist/linguistlaw18.LowerColours", spec := "lowerColours", apart := false }
def LowerColoursSaid : Prop := lowerColoursRow.holds Try.pinned (OpenSpec.ofChange lowerColoursSpec)

/-- ITS FALSE NEIGHBOUR: 'it returns false'. Refute it at one input. -/
def lowerColoursWrong : ChangeSpec := { name := "lowerColours", fn := fun _ => fun
  | [d1, d2] => { results := [.lit (.bool false)], args := [d1, d2] }
  | _ => none }
def LowerColoursWrongFalsely : Prop := lowerColoursRow.holds Try.pinned (OpenSpec.ofChange lowerColoursWrong)

/-- 'linguistlaw18.LowerTells': WHATEVER THE INPUT: true; the input reads as it did. -/
def lowerTellsSpec : ChangeSpec := { name := "lowerTells", fn := fun _ => fun
  | [d1, d2, d3, d4] => { results := [.lit (.bool true)], args := [d1, d2, d3, d4] }
  | _ => none }
def lowerTellsRow : OpenClaim := { program := "ytlpmhldejeaefaa", sum := "f5d8492c691942169630f94dfd22920c3a61e9f6a68ba1f198a1a8b4f87867e4", func := "linguist/linguistlaw18.LowerTells", spec := "lowerTells", apart := false }
def LowerTellsSaid : Prop := lowerTellsRow.holds Try.pinned (OpenSpec.ofChange lowerTellsSpec)

/-- ITS FALSE NEIGHBOUR: 'it returns false'. Refute it at one input. -/
def lowerTellsWrong : ChangeSpec := { name := "lowerTells", fn := fun _ => fun
  | [d1, d2, d3, d4] => { results := [.lit (.bool false)], args := [d1, d2, d3, d4] }
  | _ => none }
def LowerTellsWrongFalsely : Prop := lowerTellsRow.holds Try.pinned (OpenSpec.ofChange lowerTellsWrong)

/-- 'linguistlaw18.LowerOnce': WHATEVER THE INPUT: true; the input reads as it did. -/
def lowerOnceSpec : ChangeSpec := { name := "lowerOnce", fn := fun _ => fun
  | [d1, d2, d3, d4] => { results := [.lit (.bool true)], args := [d1, d2, d3, d4] }
  | _ => none }
def lowerOnceRow : OpenClaim := { program := "ytlpmhldejeaefaa", sum := "f5d8492c691942169630f94dfd22920c3a61e9f6a68ba1f198a1a8b4f87867e4", func := "linguist/linguistlaw18.LowerOnce", spec := "lowerOnce", apart := false }
def LowerOnceSaid : Prop := lowerOnceRow.holds Try.pinned (OpenSpec.ofChange lowerOnceSpec)

/-- ITS FALSE NEIGHBOUR: 'it returns false'. Refute it at one input. -/
def lowerOnceWrong : ChangeSpec := { name := "lowerOnce", fn := fun _ => fun
  | [d1, d2, d3, d4] => { results := [.lit (.bool false)], args := [d1, d2, d3, d4] }
  | _ => none }
def LowerOnceWrongFalsely : Prop := lowerOnceRow.holds Try.pinned (OpenSpec.ofChange lowerOnceWrong)

/-- 'linguistlaw18.LowerPlain': WHATEVER THE INPUT: true; the input reads as it did. -/
def lowerPlainSpec : ChangeSpec := { name := "lowerPlain", fn := fun _ => fun
  | [d1, d2, d3, d4] => { results := [.lit (.bool true)], args := [d1, d2, d3, d4] }
  | _ => none }
def lowerPlainRow : OpenClaim := { program := "ytlpmhldejeaefaa", sum := "f5d8492c691942169630f94dfd22920c3a61e9f6a68ba1f198a1a8b4f87867e4", func := "linguist/linguistlaw18.LowerPlain", spec := "lowerPlain", apart := false }
def LowerPlainSaid : Prop := lowerPlainRow.holds Try.pinned (OpenSpec.ofChange lowerPlainSpec)

/-- ITS FALSE NEIGHBOUR: 'it returns false'. Refute it at one input. -/
def lowerPlainWrong : ChangeSpec := { name := "lowerPlain", fn := fun _ => fun
  | [d1, d2, d3, d4] => { results := [.lit (.bool false)], args := [d1, d2, d3, d4] }
  | _ => none }
def LowerPlainWrongFalsely : Prop := lowerPlainRow.holds Try.pinned (OpenSpec.ofChange lowerPlainWrong)

/- THE SECOND FORM. 'bulk': how many values and letters a reading holds, each counted each time it is reached (what is shared counts as often as it is met; a slice's spare places count too). A statement '..UptoSaid' is the law's where the arguments, and the package variables that the reading takes, are together of bulk at most 1048576: NARROWER than '..Said'. Prove '..Said' where nothing that the law and all that it calls make is longer than what came in: it says more and counts as full. Else prove '..UptoSaid'. A law counts once. -/
mutual
def uptoBulk {H : Type} : DataW H → Nat
  | .lit (.string bytes) => bytes.length + 1
  | .lit _ => 1
  | .nil => 1
  | .ptr d => uptoBulk d + 1
  | .slice elems spare => uptoBulkAll elems + uptoBulkAll spare + 1
  | .agg parts => uptoBulkAll parts + 1
  | .iface _ d => uptoBulk d + 1
  | .map entries => uptoBulkEntries entries + 1
  | .held _ => 1
def uptoBulkAll {H : Type} : List (DataW H) → Nat
  | [] => 0
  | d :: r => uptoBulk d + uptoBulkAll r
def uptoBulkEntries {H : Type} : List (Lit × DataW H) → Nat
  | [] => 0
  | x :: r => uptoBulkEntry x + uptoBulkEntries r
def uptoBulkEntry {H : Type} : Lit × DataW H → Nat
  | (.string bytes, d) => bytes.length + uptoBulk d + 1
  | (_, d) => uptoBulk d + 1
 end
def uptoSmall : (H : Type) → List (DataW H) → Bool := fun _ ds => decide (uptoBulkAll ds ≤ 1048576)
def OpenSpec.upto (s : _root_.Go.ChangeSpec) : _root_.Go.OpenSpec := { _root_.Go.OpenSpec.ofChange s with cond := some uptoSmall }

/-- 'linguistlaw18.LowerRuns', WHERE WHAT IT READS IS OF BULK AT MOST 1048576: true; the input reads as it did. -/
def lowerRunsUptoRow : OpenClaim := { program := "ytlpmhldejeaefaa", sum := "f5d8492c691942169630f94dfd22920c3a61e9f6a68ba1f198a1a8b4f87867e4", func := "linguist/linguistlaw18.LowerRuns", spec := "lowerRuns", apart := false, narrowed := true }
def LowerRunsUptoSaid : Prop := lowerRunsUptoRow.holds Try.pinned (OpenSpec.upto lowerRunsSpec)

/-- 'linguistlaw18.LowerColours', WHERE WHAT IT READS IS OF BULK AT MOST 1048576: true; the input reads as it did. -/
def lowerColoursUptoRow : OpenClaim := { program := "ytlpmhldejeaefaa", sum := "f5d8492c691942169630f94dfd22920c3a61e9f6a68ba1f198a1a8b4f87867e4", func := "linguist/linguistlaw18.LowerColours", spec := "lowerColours", apart := false, narrowed := true }
def LowerColoursUptoSaid : Prop := lowerColoursUptoRow.holds Try.pinned (OpenSpec.upto lowerColoursSpec)

/-- 'linguistlaw18.LowerTells', WHERE WHAT IT READS IS OF BULK AT MOST 1048576: true; the input reads as it did. -/
def lowerTellsUptoRow : OpenClaim := { program := "ytlpmhldejeaefaa", sum := "f5d8492c691942169630f94dfd22920c3a61e9f6a68ba1f198a1a8b4f87867e4", func := "linguist/linguistlaw18.LowerTells", spec := "lowerTells", apart := false, narrowed := true }
def LowerTellsUptoSaid : Prop := lowerTellsUptoRow.holds Try.pinned (OpenSpec.upto lowerTellsSpec)

/-- 'linguistlaw18.LowerOnce', WHERE WHAT IT READS IS OF BULK AT MOST 1048576: true; the input reads as it did. -/
def lowerOnceUptoRow : OpenClaim := { program := "ytlpmhldejeaefaa", sum := "f5d8492c691942169630f94dfd22920c3a61e9f6a68ba1f198a1a8b4f87867e4", func := "linguist/linguistlaw18.LowerOnce", spec := "lowerOnce", apart := false, narrowed := true }
def LowerOnceUptoSaid : Prop := lowerOnceUptoRow.holds Try.pinned (OpenSpec.upto lowerOnceSpec)

/-- 'linguistlaw18.LowerPlain', WHERE WHAT IT READS IS OF BULK AT MOST 1048576: true; the input reads as it did. -/
def lowerPlainUptoRow : OpenClaim := { program := "ytlpmhldejeaefaa", sum := "f5d8492c691942169630f94dfd22920c3a61e9f6a68ba1f198a1a8b4f87867e4", func := "linguist/linguistlaw18.LowerPlain", spec := "lowerPlain", apart := false, narrowed := true }
def LowerPlainUptoSaid : Prop := lowerPlainUptoRow.holds Try.pinned (OpenSpec.upto lowerPlainSpec)

end Rows
end Go.Proofs.Ytlpmhldejeaefaa
