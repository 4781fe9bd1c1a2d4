/-
  NARROWER THAN 'FOR EVERY INPUT', by the rows' own cells (each row's printed sentence says how): BackRuns: laid · BackKeys: laid · BackCuts: laid · BackPlain: laid · BackTells: laid · BackModes: laid.
  DERIVED. THE GIVEN ROWS OF THIS SEAT. 6 by the template 'for every input the law returns true; each argument reads behind the call as it read before'; 0 by the template 'total and deterministic' (their statements: YtcgpblgnhpajlaaDoorTotals.lean).
  GIVEN WITH THE SEED: the statements are not yours to turn. If you find one false, say at which input.
  Laid BY PROGRAM, IN A SANDBOX (cutbox-rows.mjs): the forced cells as the released guide's own fill.sh prints them over the translation d3af4da54103dc8b… (all of the seat's roots in one cut). By AI agents, Wed Nov 11 2026. No macro, syntax, notation, axiom, sorry.
-/
import Derived.Test.YtcgpblgnhpajlaaDoorChecked
import GoSem.PinnedTables
import GoSem.Claim
import GoSem.ClaimJoined
import GoSem.ClaimMapViews
import Derived.JoinedTies
import Derived.KernelRfl
namespace Go.Proofs.YtcgpblgnhpajlaaDoor
/- THE CELL 'sum', in the pinned program and in every row, IS THE sha256 OF THE DUMP (.gsa) THAT YtcgpblgnhpajlaaDoorProg.lean LOADS. Nothing in Lean hashes anything: it is a label: what it is worth is what the hold of that sum in a sandbox is worth. -/
noncomputable def Tryd.pinned : Pinned := { name := "ytcgpblgnhpajlaadoor", sum := "d3af4da54103dc8b9c58bebbd75f60af464a5f5a77106395cba750ed5aff82ed", checked := Tryd.checked }
namespace Rows
def none {H : Type} : Left H := { results := [], args := [] }

/- WHAT THE LISTED PACKAGE-LEVEL VARIABLES READ AS WHEN THE CALL BEGINS. Each datum BY PROGRAM (the guide's laid-datum.mjs) off the statement by which the dump's own 'gosem.cut.vars' lays the variable. In a bare row this is a premise. The card (YtcgpblgnhpajlaaDoorCards.lean) ties it to the program's text. -/
def laid_unicode_utf8_acceptRanges {H : Type} : DataW H := .agg [.agg [.lit (.int .u8 128), .lit (.int .u8 191)], .agg [.lit (.int .u8 160), .lit (.int .u8 191)], .agg [.lit (.int .u8 128), .lit (.int .u8 159)], .agg [.lit (.int .u8 144), .lit (.int .u8 191)], .agg [.lit (.int .u8 128), .lit (.int .u8 143)], .agg [.lit (.int .u8 0), .lit (.int .u8 0)], .agg [.lit (.int .u8 0), .lit (.int .u8 0)], .agg [.lit (.int .u8 0), .lit (.int .u8 0)], .agg [.lit (.int .u8 0), .lit (.int .u8 0)], .agg [.lit (.int .u8 0), .lit (.int .u8 0)], .agg [.lit (.int .u8 0), .lit (.int .u8 0)], .agg [.lit (.int .u8 0), .lit (.int .u8 0)], .agg [.lit (.int .u8 0), .lit (.int .u8 0)], .agg [.lit (.int .u8 0), .lit (.int .u8 0)], .agg [.lit (.int .u8 0), .lit (.int .u8 0)], .agg [.lit (.int .u8 0), .lit (.int .u8 0)]]
/-- One of Go's own tables, pinned by name: the form's constant. -/
def laid_unicode_utf8_first : DataW Unit := Go.Pinned.utf8First

/-- 'linguistlaw24.BackRuns': WHATEVER THE INPUT: true; the input reads as it did. -/
def backRunsSpec : ChangeSpec := { name := "backRuns", fn := fun _ => fun
  | [] => { results := [.lit (.bool true)], args := [] }
  | _ => none }
def backRunsRow : OpenClaim := { program := "ytcgpblgnhpajlaadoor", sum := "d3af4da54103dc8b9c58bebbd75f60af464a5f5a77106395cba750ed5aff82ed", func := "linguist/linguistlaw24.BackRuns", spec := "backRuns", inPlace := ["internal/bytealg.IndexByteString", "internal/bytealg.IndexString"], named := ["unicode/utf8.first", "unicode/utf8.acceptRanges", "internal/bytealg.MaxLen"], plainKeys := false, apart := false, laid := [("unicode/utf8.acceptRanges", laid_unicode_utf8_acceptRanges), ("unicode/utf8.first", laid_unicode_utf8_first)] }
def BackRunsSaid : Prop := backRunsRow.holds Tryd.pinned (OpenSpec.ofChange backRunsSpec)

/-- ITS FALSE NEIGHBOUR: 'it returns false'. Refute it at one input. -/
def backRunsWrong : ChangeSpec := { name := "backRuns", fn := fun _ => fun
  | [] => { results := [.lit (.bool false)], args := [] }
  | _ => none }
def BackRunsWrongFalsely : Prop := backRunsRow.holds Tryd.pinned (OpenSpec.ofChange backRunsWrong)

/-- 'linguistlaw24.BackKeys': WHATEVER THE INPUT: true; the input reads as it did. -/
def backKeysSpec : ChangeSpec := { name := "backKeys", fn := fun _ => fun
  | [d1, d2, d3, d4] => { results := [.lit (.bool true)], args := [d1, d2, d3, d4] }
  | _ => none }
def backKeysRow : OpenClaim := { program := "ytcgpblgnhpajlaadoor", sum := "d3af4da54103dc8b9c58bebbd75f60af464a5f5a77106395cba750ed5aff82ed", func := "linguist/linguistlaw24.BackKeys", spec := "backKeys", inPlace := ["internal/bytealg.IndexByteString", "internal/bytealg.IndexString"], named := ["unicode/utf8.first", "unicode/utf8.acceptRanges", "internal/bytealg.MaxLen"], plainKeys := false, apart := false, laid := [("unicode/utf8.acceptRanges", laid_unicode_utf8_acceptRanges), ("unicode/utf8.first", laid_unicode_utf8_first)] }
def BackKeysSaid : Prop := backKeysRow.holds Tryd.pinned (OpenSpec.ofChange backKeysSpec)

/-- ITS FALSE NEIGHBOUR: 'it returns false'. Refute it at one input. -/
def backKeysWrong : ChangeSpec := { name := "backKeys", fn := fun _ => fun
  | [d1, d2, d3, d4] => { results := [.lit (.bool false)], args := [d1, d2, d3, d4] }
  | _ => none }
def BackKeysWrongFalsely : Prop := backKeysRow.holds Tryd.pinned (OpenSpec.ofChange backKeysWrong)

/-- 'linguistlaw24.BackCuts': WHATEVER THE INPUT: true; the input reads as it did. -/
def backCutsSpec : ChangeSpec := { name := "backCuts", fn := fun _ => fun
  | [d1, d2, d3, d4] => { results := [.lit (.bool true)], args := [d1, d2, d3, d4] }
  | _ => none }
def backCutsRow : OpenClaim := { program := "ytcgpblgnhpajlaadoor", sum := "d3af4da54103dc8b9c58bebbd75f60af464a5f5a77106395cba750ed5aff82ed", func := "linguist/linguistlaw24.BackCuts", spec := "backCuts", inPlace := ["internal/bytealg.IndexByteString", "internal/bytealg.IndexString"], named := ["unicode/utf8.first", "unicode/utf8.acceptRanges", "internal/bytealg.MaxLen"], plainKeys := false, apart := false, laid := [("unicode/utf8.acceptRanges", laid_unicode_utf8_acceptRanges), ("unicode/utf8.first", laid_unicode_utf8_first)] }
def BackCutsSaid : Prop := backCutsRow.holds Tryd.pinned (OpenSpec.ofChange backCutsSpec)

/-- ITS FALSE NEIGHBOUR: 'it returns false'. Refute it at one input. -/
def backCutsWrong : ChangeSpec := { name := "backCuts", fn := fun _ => fun
  | [d1, d2, d3, d4] => { results := [.lit (.bool false)], args := [d1, d2, d3, d4] }
  | _ => none }
def BackCutsWrongFalsely : Prop := backCutsRow.holds Tryd.pinned (OpenSpec.ofChange backCutsWrong)

/-- 'linguistlaw24.BackPlain': WHATEVER THE INPUT: true; the input reads as it did. -/
def backPlainSpec : ChangeSpec := { name := "backPlain", fn := fun _ => fun
  | [d1, d2, d3] => { results := [.lit (.bool true)], args := [d1, d2, d3] }
  | _ => none }
def backPlainRow : OpenClaim := { program := "ytcgpblgnhpajlaadoor", sum := "d3af4da54103dc8b9c58bebbd75f60af464a5f5a77106395cba750ed5aff82ed", func := "linguist/linguistlaw24.BackPlain", spec := "backPlain", inPlace := ["internal/bytealg.IndexByteString", "internal/bytealg.IndexString"], named := ["unicode/utf8.first", "unicode/utf8.acceptRanges", "internal/bytealg.MaxLen"], plainKeys := false, apart := false, laid := [("unicode/utf8.acceptRanges", laid_unicode_utf8_acceptRanges), ("unicode/utf8.first", laid_unicode_utf8_first)] }
def BackPlainSaid : Prop := backPlainRow.holds Tryd.pinned (OpenSpec.ofChange backPlainSpec)

/-- ITS FALSE NEIGHBOUR: 'it returns false'. Refute it at one input. -/
def backPlainWrong : ChangeSpec := { name := "backPlain", fn := fun _ => fun
  | [d1, d2, d3] => { results := [.lit (.bool false)], args := [d1, d2, d3] }
  | _ => none }
def BackPlainWrongFalsely : Prop := backPlainRow.holds Tryd.pinned (OpenSpec.ofChange backPlainWrong)

/-- 'linguistlaw24.BackTells': WHATEVER THE INPUT: true; the input reads as it did. -/
def backTellsSpec : ChangeSpec := { name := "backTells", fn := fun _ => fun
  | [d1, d2, d3] => { results := [.lit (.bool true)], args := [d1, d2, d3] }
  | _ => none }
def backTellsRow : OpenClaim := { program := "ytcgpblgnhpajlaadoor", sum := "d3af4da54103dc8b9c58bebbd75f60af464a5f5a77106395cba750ed5aff82ed", func := "linguist/linguistlaw24.BackTells", spec := "backTells", inPlace := ["internal/bytealg.IndexByteString", "internal/bytealg.IndexString"], named := ["unicode/utf8.first", "unicode/utf8.acceptRanges", "internal/bytealg.MaxLen"], plainKeys := false, apart := false, laid := [("unicode/utf8.acceptRanges", laid_unicode_utf8_acceptRanges), ("unicode/utf8.first", laid_unicode_utf8_first)] }
def BackTellsSaid : Prop := backTellsRow.holds Tryd.pinned (OpenSpec.ofChange backTellsSpec)

/-- ITS FALSE NEIGHBOUR: 'it returns false'. Refute it at one input. -/
def backTellsWrong : ChangeSpec := { name := "backTells", fn := fun _ => fun
  | [d1, d2, d3] => { results := [.lit (.bool false)], args := [d1, d2, d3] }
  | _ => none }
def BackTellsWrongFalsely : Prop := backTellsRow.holds Tryd.pinned (OpenSpec.ofChange backTellsWrong)

/-- 'linguistlaw24.BackModes': WHATEVER THE INPUT: true; the input reads as it did. -/
def backModesSpec : ChangeSpec := { name := "backModes", fn := fun _ => fun
  | [d1, d2, d3] => { results := [.lit (.bool true)], args := [d1, d2, d3] }
  | _ => none }
def backModesRow : OpenClaim := { program := "ytcgpblgnhpajlaadoor", sum := "d3af4da54103dc8b9c58bebbd75f60af464a5f5a77106395cba750ed5aff82ed", func := "linguist/linguistlaw24.BackModes", spec := "backModes", inPlace := ["internal/bytealg.IndexByteString", "internal/bytealg.IndexString"], named := ["unicode/utf8.first", "unicode/utf8.acceptRanges", "internal/bytealg.MaxLen"], plainKeys := false, apart := false, laid := [("unicode/utf8.acceptRanges", laid_unicode_utf8_acceptRanges), ("unicode/utf8.first", laid_unicode_utf8_first)] }
def BackModesSaid : Prop := backModesRow.holds Tryd.pinned (OpenSpec.ofChange backModesSpec)

/-- ITS FALSE NEIGHBOUR: 'it returns false'. Refute it at one input. -/
def backModesWrong : ChangeSpec := { name := "backModes", fn := fun _ => fun
  | [d1, d2, d3] => { results := [.lit (.bool false)], args := [d1, d2, d3] }
  | _ => none }
def BackModesWrongFalsely : Prop := backModesRow.holds Tryd.pinned (OpenSpec.ofChange backModesWrong)

/- THE SECOND FORM. 'bulk': how many values and letters a reading holds, each counted each time it is reached (what is shared counts as often as it is met; a slice's spare places count too). A statement '..UptoSaid' is the law's where the arguments, and the package variables that the reading takes, are together of bulk at most 1048576: NARROWER than '..Said'. Prove '..Said' where nothing that the law and all that it calls make is longer than what came in: it says more and counts as full. Else prove '..UptoSaid'. A law counts once. -/
mutual
def uptoBulk {H : Type} : DataW H → Nat
  | .lit (.string bytes) => bytes.length + 1
  | .lit _ => 1
  | .nil => 1
  | .ptr d => uptoBulk d + 1
  | .slice elems spare => uptoBulkAll elems + uptoBulkAll spare + 1
  | .agg parts => uptoBulkAll parts + 1
  | .iface _ d => uptoBulk d + 1
  | .map entries => uptoBulkEntries entries + 1
  | .held _ => 1
def uptoBulkAll {H : Type} : List (DataW H) → Nat
  | [] => 0
  | d :: r => uptoBulk d + uptoBulkAll r
def uptoBulkEntries {H : Type} : List (Lit × DataW H) → Nat
  | [] => 0
  | x :: r => uptoBulkEntry x + uptoBulkEntries r
def uptoBulkEntry {H : Type} : Lit × DataW H → Nat
  | (.string bytes, d) => bytes.length + uptoBulk d + 1
  | (_, d) => uptoBulk d + 1
 end
def uptoSmall : (H : Type) → List (DataW H) → Bool := fun _ ds => decide (uptoBulkAll ds ≤ 1048576)
def OpenSpec.upto (s : _root_.Go.ChangeSpec) : _root_.Go.OpenSpec := { _root_.Go.OpenSpec.ofChange s with cond := some uptoSmall }

/-- 'linguistlaw24.BackRuns', WHERE WHAT IT READS IS OF BULK AT MOST 1048576: true; the input reads as it did. -/
def backRunsUptoRow : OpenClaim := { program := "ytcgpblgnhpajlaadoor", sum := "d3af4da54103dc8b9c58bebbd75f60af464a5f5a77106395cba750ed5aff82ed", func := "linguist/linguistlaw24.BackRuns", spec := "backRuns", inPlace := ["internal/bytealg.IndexByteString", "internal/bytealg.IndexString"], named := ["unicode/utf8.first", "unicode/utf8.acceptRanges", "internal/bytealg.MaxLen"], plainKeys := false, apart := false, laid := [("unicode/utf8.acceptRanges", laid_unicode_utf8_acceptRanges), ("unicode/utf8.first", laid_unicode_utf8_first)], narrowed := true }
def BackRunsUptoSaid : Prop := backRunsUptoRow.holds Tryd.pinned (OpenSpec.upto backRunsSpec)

/-- 'linguistlaw24.BackKeys', WHERE WHAT IT READS IS OF BULK AT MOST 1048576: true; the input reads as it did. -/
def backKeysUptoRow : OpenClaim := { program := "ytcgpblgnhpajlaadoor", sum := "d3af4da54103dc8b9c58bebbd75f60af464a5f5a77106395cba750ed5aff82ed", func := "linguist/linguistlaw24.BackKeys", spec := "backKeys", inPlace := ["internal/bytealg.IndexByteString", "internal/bytealg.IndexString"], named := ["unicode/utf8.first", "unicode/utf8.acceptRanges", "internal/bytealg.MaxLen"], plainKeys := false, apart := false, laid := [("unicode/utf8.acceptRanges", laid_unicode_utf8_acceptRanges), ("unicode/utf8.first", laid_unicode_utf8_first)], narrowed := true }
def BackKeysUptoSaid : Prop := backKeysUptoRow.holds Tryd.pinned (OpenSpec.upto backKeysSpec)

/-- 'linguistlaw24.BackCuts', WHERE WHAT IT READS IS OF BULK AT MOST 1048576: true; the input reads as it did. -/
def backCutsUptoRow : OpenClaim := { program := "ytcgpblgnhpajlaadoor", sum := "d3af4da54103dc8b9c58bebbd75f60af464a5f5a77106395cba750ed5aff82ed", func := "linguist/linguistlaw24.BackCuts", spec := "backCuts", inPlace := ["internal/bytealg.IndexByteString", "internal/bytealg.IndexString"], named := ["unicode/utf8.first", "unicode/utf8.acceptRanges", "internal/bytealg.MaxLen"], plainKeys := false, apart := false, laid := [("unicode/utf8.acceptRanges", laid_unicode_utf8_acceptRanges), ("unicode/utf8.first", laid_unicode_utf8_first)], narrowed := true }
def BackCutsUptoSaid : Prop := backCutsUptoRow.holds Tryd.pinned (OpenSpec.upto backCutsSpec)

/-- 'linguistlaw24.BackPlain', WHERE WHAT IT READS IS OF BULK AT MOST 1048576: true; the input reads as it did. -/
def backPlainUptoRow : OpenClaim := { program := "ytcgpblgnhpajlaadoor", sum := "d3af4da54103dc8b9c58bebbd75f60af464a5f5a77106395cba750ed5aff82ed", func := "linguist/linguistlaw24.BackPlain", spec := "backPlain", inPlace := ["internal/bytealg.IndexByteString", "internal/bytealg.IndexString"], named := ["unicode/utf8.first", "unicode/utf8.acceptRanges", "internal/bytealg.MaxLen"], plainKeys := false, apart := false, laid := [("unicode/utf8.acceptRanges", laid_unicode_utf8_acceptRanges), ("unicode/utf8.first", laid_unicode_utf8_first)], narrowed := true }
def BackPlainUptoSaid : Prop := backPlainUptoRow.holds Tryd.pinned (OpenSpec.upto backPlainSpec)

/-- 'linguistlaw24.BackTells', WHERE WHAT IT READS IS OF BULK AT MOST 1048576: true; the input reads as it did. -/
def backTellsUptoRow : OpenClaim := { program := "ytcgpblgnhpajlaadoor", sum := "d3af4da54103dc8b9c58bebbd75f60af464a5f5a77106395cba750ed5aff82ed", func := "linguist/linguistlaw24.BackTells", spec := "backTells", inPlace := ["internal/bytealg.IndexByteString", "internal/bytealg.IndexString"], named := ["unicode/utf8.first", "unicode/utf8.acceptRanges", "internal/bytealg.MaxLen"], plainKeys := false, apart := false, laid := [("unicode/utf8.acceptRanges", laid_unicode_utf8_acceptRanges), ("unicode/utf8.first", laid_unicode_utf8_first)], narrowed := true }
def BackTellsUptoSaid : Prop := backTellsUptoRow.holds Tryd.pinned (OpenSpec.upto backTellsSpec)

/-- 'linguistlaw24.BackModes', WHERE WHAT IT READS IS OF BULK AT MOST 1048576: true; the input reads as it did. -/
def backModesUptoRow : OpenClaim := { program := "ytcgpblgnhpajlaadoor", sum := "d3af4da54103dc8b9c58bebbd75f60af464a5f5a77106395cba750ed5aff82ed", func := "linguist/linguistlaw24.BackModes", spec := "backModes", inPlace := ["internal/bytealg.IndexByteString", "internal/bytealg.IndexString"], named := ["unicode/utf8.first", "unicode/utf8.acceptRanges", "internal/bytealg.MaxLen"], plainKeys := false, apart := false, laid := [("unicode/utf8.acceptRanges", laid_unicode_utf8_acceptRanges), ("unicode/utf8.first", laid_unicode_utf8_first)], narrowed := true }
def BackModesUptoSaid : Prop := backModesUptoRow.holds Tryd.pinned (OpenSpec.upto backModesSpec)

end Rows
end Go.Proofs.YtcgpblgnhpajlaaDoor
