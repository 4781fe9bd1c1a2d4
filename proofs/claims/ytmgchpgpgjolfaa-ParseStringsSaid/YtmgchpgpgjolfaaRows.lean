/-
  No cell of these rows narrows 'for every input' (looked for: loops, veiled, ifaces, maps, wideKeys, modest, calm, conditions, laid).
  DERIVED. THE GIVEN ROWS OF THIS SEAT. 5 by the template 'for every input the law returns true; each argument reads behind the call as it read before'; 0 by the template 'total and deterministic' (their statements: YtmgchpgpgjolfaaTotals.lean).
  GIVEN WITH THE SEED: the statements are not yours to turn. If you find one false, say at which input.
  Laid BY PROGRAM, IN A SANDBOX (cutbox-rows.mjs): the forced cells as the released guide's own fill.sh prints them over the translation e26d2dbf15f279fe… (all of the seat's roots in one cut). By AI agents, Wed Nov 11 2026. No macro, syntax, notation, axiom, sorry.
-/
import Derived.Test.YtmgchpgpgjolfaaChecked
import GoSem.Claim
import GoSem.ClaimJoined
import GoSem.ClaimMapViews
import Derived.JoinedTies
import Derived.KernelRfl
namespace Go.Proofs.Ytmgchpgpgjolfaa
/- THE CELL 'sum', in the pinned program and in every row, IS THE sha256 OF THE DUMP (.gsa) THAT YtmgchpgpgjolfaaProg.lean LOADS. Nothing in Lean hashes anything: it is a label: what it is worth is what the hold of that sum in a sandbox is worth. -/
noncomputable def Try.pinned : Pinned := { name := "ytmgchpgpgjolfaa", sum := "e26d2dbf15f279feeaaf0488250b2543b0fe795dc919cde4624b048b339a7d2d", checked := Try.checked }
namespace Rows
def none {H : Type} : Left H := { results := [], args := [] }

/-- 'linguistlaw5.ParseRuns': WHATEVER THE INPUT: true; the input reads as it did. -/
def parseRunsSpec : ChangeSpec := { name := "parseRuns", fn := fun _ => fun
  | [] => { results := [.lit (.bool true)], args := [] }
  | _ => none }
def parseRunsRow : OpenClaim := { program := "ytmgchpgpgjolfaa", sum := "e26d2dbf15f279feeaaf0488250b2543b0fe795dc919cde4624b048b339a7d2d", func := "linguist/linguistlaw5.ParseRuns", spec := "parseRuns", apart := false }
def ParseRunsSaid : Prop := parseRunsRow.holds Try.pinned (OpenSpec.ofChange parseRunsSpec)

/-- ITS FALSE NEIGHBOUR: 'it returns false'. Refute it at one input. -/
def parseRunsWrong : ChangeSpec := { name := "parseRuns", fn := fun _ => fun
  | [] => { results := [.lit (.bool false)], args := [] }
  | _ => none }
def ParseRunsWrongFalsely : Prop := parseRunsRow.holds Try.pinned (OpenSpec.ofChange parseRunsWrong)

/-- 'linguistlaw5.ParseEnds': WHATEVER THE INPUT: true; the input reads as it did. -/
def parseEndsSpec : ChangeSpec := { name := "parseEnds", fn := fun _ => fun
  | [d1, d2] => { results := [.lit (.bool true)], args := [d1, d2] }
  | _ => none }
def parseEndsRow : OpenClaim := { program := "ytmgchpgpgjolfaa", sum := "e26d2dbf15f279feeaaf0488250b2543b0fe795dc919cde4624b048b339a7d2d", func := "linguist/linguistlaw5.ParseEnds", spec := "parseEnds", apart := false }
def ParseEndsSaid : Prop := parseEndsRow.holds Try.pinned (OpenSpec.ofChange parseEndsSpec)

/-- ITS FALSE NEIGHBOUR: 'it returns false'. Refute it at one input. -/
def parseEndsWrong : ChangeSpec := { name := "parseEnds", fn := fun _ => fun
  | [d1, d2] => { results := [.lit (.bool false)], args := [d1, d2] }
  | _ => none }
def ParseEndsWrongFalsely : Prop := parseEndsRow.holds Try.pinned (OpenSpec.ofChange parseEndsWrong)

/-- 'linguistlaw5.ParseLong': WHATEVER THE INPUT: true; the input reads as it did. -/
def parseLongSpec : ChangeSpec := { name := "parseLong", fn := fun _ => fun
  | [d1, d2] => { results := [.lit (.bool true)], args := [d1, d2] }
  | _ => none }
def parseLongRow : OpenClaim := { program := "ytmgchpgpgjolfaa", sum := "e26d2dbf15f279feeaaf0488250b2543b0fe795dc919cde4624b048b339a7d2d", func := "linguist/linguistlaw5.ParseLong", spec := "parseLong", apart := false }
def ParseLongSaid : Prop := parseLongRow.holds Try.pinned (OpenSpec.ofChange parseLongSpec)

/-- ITS FALSE NEIGHBOUR: 'it returns false'. Refute it at one input. -/
def parseLongWrong : ChangeSpec := { name := "parseLong", fn := fun _ => fun
  | [d1, d2] => { results := [.lit (.bool false)], args := [d1, d2] }
  | _ => none }
def ParseLongWrongFalsely : Prop := parseLongRow.holds Try.pinned (OpenSpec.ofChange parseLongWrong)

/-- 'linguistlaw5.ParseStrings': WHATEVER THE INPUT: true; the input reads as it did. -/
def parseStringsSpec : ChangeSpec := { name := "parseStrings", fn := fun _ => fun
  | [d1, d2, d3] => { results := [.lit (.bool true)], args := [d1, d2, d3] }
  | _ => none }
def parseStringsRow : OpenClaim := { program := "ytmgchpgpgjolfaa", sum := "e26d2dbf15f279feeaaf0488250b2543b0fe795dc919cde4624b048b339a7d2d", func := "linguist/linguistlaw5.ParseStrings", spec := "parseStrings", apart := false }
def ParseStringsSaid : Prop := parseStringsRow.holds Try.pinned (OpenSpec.ofChange parseStringsSpec)

/-- ITS FALSE NEIGHBOUR: 'it returns false'. Refute it at one input. -/
def parseStringsWrong : ChangeSpec := { name := "parseStrings", fn := fun _ => fun
  | [d1, d2, d3] => { results := [.lit (.bool false)], args := [d1, d2, d3] }
  | _ => none }
def ParseStringsWrongFalsely : Prop := parseStringsRow.holds Try.pinned (OpenSpec.ofChange parseStringsWrong)

/-- 'linguistlaw5.ParseCuts': WHATEVER THE INPUT: true; the input reads as it did. -/
def parseCutsSpec : ChangeSpec := { name := "parseCuts", fn := fun _ => fun
  | [d1, d2] => { results := [.lit (.bool true)], args := [d1, d2] }
  | _ => none }
def parseCutsRow : OpenClaim := { program := "ytmgchpgpgjolfaa", sum := "e26d2dbf15f279feeaaf0488250b2543b0fe795dc919cde4624b048b339a7d2d", func := "linguist/linguistlaw5.ParseCuts", spec := "parseCuts", apart := false }
def ParseCutsSaid : Prop := parseCutsRow.holds Try.pinned (OpenSpec.ofChange parseCutsSpec)

/-- ITS FALSE NEIGHBOUR: 'it returns false'. Refute it at one input. -/
def parseCutsWrong : ChangeSpec := { name := "parseCuts", fn := fun _ => fun
  | [d1, d2] => { results := [.lit (.bool false)], args := [d1, d2] }
  | _ => none }
def ParseCutsWrongFalsely : Prop := parseCutsRow.holds Try.pinned (OpenSpec.ofChange parseCutsWrong)

/- THE SECOND FORM. 'bulk': how many values and letters a reading holds, each counted each time it is reached (what is shared counts as often as it is met; a slice's spare places count too). A statement '..UptoSaid' is the law's where the arguments, and the package variables that the reading takes, are together of bulk at most 1048576: NARROWER than '..Said'. Prove '..Said' where nothing that the law and all that it calls make is longer than what came in: it says more and counts as full. Else prove '..UptoSaid'. A law counts once. -/
mutual
def uptoBulk {H : Type} : DataW H → Nat
  | .lit (.string bytes) => bytes.length + 1
  | .lit _ => 1
  | .nil => 1
  | .ptr d => uptoBulk d + 1
  | .slice elems spare => uptoBulkAll elems + uptoBulkAll spare + 1
  | .agg parts => uptoBulkAll parts + 1
  | .iface _ d => uptoBulk d + 1
  | .map entries => uptoBulkEntries entries + 1
  | .held _ => 1
def uptoBulkAll {H : Type} : List (DataW H) → Nat
  | [] => 0
  | d :: r => uptoBulk d + uptoBulkAll r
def uptoBulkEntries {H : Type} : List (Lit × DataW H) → Nat
  | [] => 0
  | x :: r => uptoBulkEntry x + uptoBulkEntries r
def uptoBulkEntry {H : Type} : Lit × DataW H → Nat
  | (.string bytes, d) => bytes.length + uptoBulk d + 1
  | (_, d) => uptoBulk d + 1
 end
def uptoSmall : (H : Type) → List (DataW H) → Bool := fun _ ds => decide (uptoBulkAll ds ≤ 1048576)
def OpenSpec.upto (s : _root_.Go.ChangeSpec) : _root_.Go.OpenSpec := { _root_.Go.OpenSpec.ofChange s with cond := some uptoSmall }

/-- 'linguistlaw5.ParseRuns', WHERE WHAT IT READS IS OF BULK AT MOST 1048576: true; the input reads as it did. -/
def parseRunsUptoRow : OpenClaim := { program := "ytmgchpgpgjolfaa", sum := "e26d2dbf15f279feeaaf0488250b2543b0fe795dc919cde4624b048b339a7d2d", func := "linguist/linguistlaw5.ParseRuns", spec := "parseRuns", apart := false, narrowed := true }
def ParseRunsUptoSaid : Prop := parseRunsUptoRow.holds Try.pinned (OpenSpec.upto parseRunsSpec)

/-- 'linguistlaw5.ParseEnds', WHERE WHAT IT READS IS OF BULK AT MOST 1048576: true; the input reads as it did. -/
def parseEndsUptoRow : OpenClaim := { program := "ytmgchpgpgjolfaa", sum := "e26d2dbf15f279feeaaf0488250b2543b0fe795dc919cde4624b048b339a7d2d", func := "linguist/linguistlaw5.ParseEnds", spec := "parseEnds", apart := false, narrowed := true }
def ParseEndsUptoSaid : Prop := parseEndsUptoRow.holds Try.pinned (OpenSpec.upto parseEndsSpec)

/-- 'linguistlaw5.ParseLong', WHERE WHAT IT READS IS OF BULK AT MOST 1048576: true; the input reads as it did. -/
def parseLongUptoRow : OpenClaim := { program := "ytmgchpgpgjolfaa", sum := "e26d2dbf15f279feeaaf0488250b2543b0fe795dc919cde4624b048b339a7d2d", func := "linguist/linguistlaw5.ParseLong", spec := "parseLong", apart := false, narrowed := true }
def ParseLongUptoSaid : Prop := parseLongUptoRow.holds Try.pinned (OpenSpec.upto parseLongSpec)

/-- 'linguistlaw5.ParseStrings', WHERE WHAT IT READS IS OF BULK AT MOST 1048576: true; the input reads as it did. -/
def parseStringsUptoRow : OpenClaim := { program := "ytmgchpgpgjolfaa", sum := "e26d2dbf15f279feeaaf0488250b2543b0fe795dc919cde4624b048b339a7d2d", func := "linguist/linguistlaw5.ParseStrings", spec := "parseStrings", apart := false, narrowed := true }
def ParseStringsUptoSaid : Prop := parseStringsUptoRow.holds Try.pinned (OpenSpec.upto parseStringsSpec)

/-- 'linguistlaw5.ParseCuts', WHERE WHAT IT READS IS OF BULK AT MOST 1048576: true; the input reads as it did. -/
def parseCutsUptoRow : OpenClaim := { program := "ytmgchpgpgjolfaa", sum := "e26d2dbf15f279feeaaf0488250b2543b0fe795dc919cde4624b048b339a7d2d", func := "linguist/linguistlaw5.ParseCuts", spec := "parseCuts", apart := false, narrowed := true }
def ParseCutsUptoSaid : Prop := parseCutsUptoRow.holds Try.pinned (OpenSpec.upto parseCutsSpec)

end Rows
end Go.Proofs.Ytmgchpgpgjolfaa
