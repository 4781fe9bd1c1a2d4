/-
  NARROWER THAN 'FOR EVERY INPUT', by the rows' own cells (each row's printed sentence says how): KeysRuns: laid · KeysTells: laid · KeysSaid: laid · KeysParts: laid · KeysOwn: laid.
  DERIVED. THE GIVEN ROWS OF THIS SEAT. 5 by the template 'for every input the law returns true; each argument reads behind the call as it read before'; 0 by the template 'total and deterministic' (their statements: YtohlmkcljoakfaaDoorTotals.lean).
  GIVEN WITH THE SEED: the statements are not yours to turn. If you find one false, say at which input.
  Laid BY PROGRAM, IN A SANDBOX (cutbox-rows.mjs): the forced cells as the released guide's own fill.sh prints them over the translation 885d757c4eb41b16… (all of the seat's roots in one cut). By AI agents, Wed Nov 11 2026. No macro, syntax, notation, axiom, sorry.
-/
import Derived.Test.YtohlmkcljoakfaaDoorChecked
import GoSem.PinnedTables
import GoSem.Claim
import GoSem.ClaimJoined
import GoSem.ClaimMapViews
import Derived.JoinedTies
import Derived.KernelRfl
namespace Go.Proofs.YtohlmkcljoakfaaDoor
/- THE CELL 'sum', in the pinned program and in every row, IS THE sha256 OF THE DUMP (.gsa) THAT YtohlmkcljoakfaaDoorProg.lean LOADS. Nothing in Lean hashes anything: it is a label: what it is worth is what the hold of that sum in a sandbox is worth. -/
noncomputable def Tryd.pinned : Pinned := { name := "ytohlmkcljoakfaadoor", sum := "885d757c4eb41b162a3819faf03718f8ba5758027b37ac8c562a4315ccfabdaf", checked := Tryd.checked }
namespace Rows
def none {H : Type} : Left H := { results := [], args := [] }

/- WHAT THE LISTED PACKAGE-LEVEL VARIABLES READ AS WHEN THE CALL BEGINS. Each datum BY PROGRAM (the guide's laid-datum.mjs) off the statement by which the dump's own 'gosem.cut.vars' lays the variable. In a bare row this is a premise. The card (YtohlmkcljoakfaaDoorCards.lean) ties it to the program's text. -/
def laid_unicode_utf8_acceptRanges {H : Type} : DataW H := .agg [.agg [.lit (.int .u8 128), .lit (.int .u8 191)], .agg [.lit (.int .u8 160), .lit (.int .u8 191)], .agg [.lit (.int .u8 128), .lit (.int .u8 159)], .agg [.lit (.int .u8 144), .lit (.int .u8 191)], .agg [.lit (.int .u8 128), .lit (.int .u8 143)], .agg [.lit (.int .u8 0), .lit (.int .u8 0)], .agg [.lit (.int .u8 0), .lit (.int .u8 0)], .agg [.lit (.int .u8 0), .lit (.int .u8 0)], .agg [.lit (.int .u8 0), .lit (.int .u8 0)], .agg [.lit (.int .u8 0), .lit (.int .u8 0)], .agg [.lit (.int .u8 0), .lit (.int .u8 0)], .agg [.lit (.int .u8 0), .lit (.int .u8 0)], .agg [.lit (.int .u8 0), .lit (.int .u8 0)], .agg [.lit (.int .u8 0), .lit (.int .u8 0)], .agg [.lit (.int .u8 0), .lit (.int .u8 0)], .agg [.lit (.int .u8 0), .lit (.int .u8 0)]]
/-- One of Go's own tables, pinned by name: the form's constant. -/
def laid_unicode_utf8_first : DataW Unit := Go.Pinned.utf8First

/-- 'linguistlaw21.KeysRuns': WHATEVER THE INPUT: true; the input reads as it did. -/
def keysRunsSpec : ChangeSpec := { name := "keysRuns", fn := fun _ => fun
  | [] => { results := [.lit (.bool true)], args := [] }
  | _ => none }
def keysRunsRow : OpenClaim := { program := "ytohlmkcljoakfaadoor", sum := "885d757c4eb41b162a3819faf03718f8ba5758027b37ac8c562a4315ccfabdaf", func := "linguist/linguistlaw21.KeysRuns", spec := "keysRuns", inPlace := ["internal/bytealg.IndexByteString", "internal/bytealg.IndexString"], named := ["unicode/utf8.first", "unicode/utf8.acceptRanges", "internal/bytealg.MaxLen"], plainKeys := false, apart := false, laid := [("unicode/utf8.acceptRanges", laid_unicode_utf8_acceptRanges), ("unicode/utf8.first", laid_unicode_utf8_first)] }
def KeysRunsSaid : Prop := keysRunsRow.holds Tryd.pinned (OpenSpec.ofChange keysRunsSpec)

/-- ITS FALSE NEIGHBOUR: 'it returns false'. Refute it at one input. -/
def keysRunsWrong : ChangeSpec := { name := "keysRuns", fn := fun _ => fun
  | [] => { results := [.lit (.bool false)], args := [] }
  | _ => none }
def KeysRunsWrongFalsely : Prop := keysRunsRow.holds Tryd.pinned (OpenSpec.ofChange keysRunsWrong)

/-- 'linguistlaw21.KeysTells': WHATEVER THE INPUT: true; the input reads as it did. -/
def keysTellsSpec : ChangeSpec := { name := "keysTells", fn := fun _ => fun
  | [d1, d2, d3, d4, d5] => { results := [.lit (.bool true)], args := [d1, d2, d3, d4, d5] }
  | _ => none }
def keysTellsRow : OpenClaim := { program := "ytohlmkcljoakfaadoor", sum := "885d757c4eb41b162a3819faf03718f8ba5758027b37ac8c562a4315ccfabdaf", func := "linguist/linguistlaw21.KeysTells", spec := "keysTells", inPlace := ["internal/bytealg.IndexByteString", "internal/bytealg.IndexString"], named := ["unicode/utf8.first", "unicode/utf8.acceptRanges", "internal/bytealg.MaxLen"], plainKeys := false, apart := false, laid := [("unicode/utf8.acceptRanges", laid_unicode_utf8_acceptRanges), ("unicode/utf8.first", laid_unicode_utf8_first)] }
def KeysTellsSaid : Prop := keysTellsRow.holds Tryd.pinned (OpenSpec.ofChange keysTellsSpec)

/-- ITS FALSE NEIGHBOUR: 'it returns false'. Refute it at one input. -/
def keysTellsWrong : ChangeSpec := { name := "keysTells", fn := fun _ => fun
  | [d1, d2, d3, d4, d5] => { results := [.lit (.bool false)], args := [d1, d2, d3, d4, d5] }
  | _ => none }
def KeysTellsWrongFalsely : Prop := keysTellsRow.holds Tryd.pinned (OpenSpec.ofChange keysTellsWrong)

/-- 'linguistlaw21.KeysSaid': WHATEVER THE INPUT: true; the input reads as it did. -/
def keysSaidSpec : ChangeSpec := { name := "keysSaid", fn := fun _ => fun
  | [d1, d2, d3] => { results := [.lit (.bool true)], args := [d1, d2, d3] }
  | _ => none }
def keysSaidRow : OpenClaim := { program := "ytohlmkcljoakfaadoor", sum := "885d757c4eb41b162a3819faf03718f8ba5758027b37ac8c562a4315ccfabdaf", func := "linguist/linguistlaw21.KeysSaid", spec := "keysSaid", inPlace := ["internal/bytealg.IndexByteString", "internal/bytealg.IndexString"], named := ["unicode/utf8.first", "unicode/utf8.acceptRanges", "internal/bytealg.MaxLen"], plainKeys := false, apart := false, laid := [("unicode/utf8.acceptRanges", laid_unicode_utf8_acceptRanges), ("unicode/utf8.first", laid_unicode_utf8_first)] }
def KeysSaidSaid : Prop := keysSaidRow.holds Tryd.pinned (OpenSpec.ofChange keysSaidSpec)

/-- ITS FALSE NEIGHBOUR: 'it returns false'. Refute it at one input. -/
def keysSaidWrong : ChangeSpec := { name := "keysSaid", fn := fun _ => fun
  | [d1, d2, d3] => { results := [.lit (.bool false)], args := [d1, d2, d3] }
  | _ => none }
def KeysSaidWrongFalsely : Prop := keysSaidRow.holds Tryd.pinned (OpenSpec.ofChange keysSaidWrong)

/-- 'linguistlaw21.KeysParts': WHATEVER THE INPUT: true; the input reads as it did. -/
def keysPartsSpec : ChangeSpec := { name := "keysParts", fn := fun _ => fun
  | [d1, d2, d3] => { results := [.lit (.bool true)], args := [d1, d2, d3] }
  | _ => none }
def keysPartsRow : OpenClaim := { program := "ytohlmkcljoakfaadoor", sum := "885d757c4eb41b162a3819faf03718f8ba5758027b37ac8c562a4315ccfabdaf", func := "linguist/linguistlaw21.KeysParts", spec := "keysParts", inPlace := ["internal/bytealg.IndexByteString", "internal/bytealg.IndexString"], named := ["unicode/utf8.first", "unicode/utf8.acceptRanges", "internal/bytealg.MaxLen"], plainKeys := false, apart := false, laid := [("unicode/utf8.acceptRanges", laid_unicode_utf8_acceptRanges), ("unicode/utf8.first", laid_unicode_utf8_first)] }
def KeysPartsSaid : Prop := keysPartsRow.holds Tryd.pinned (OpenSpec.ofChange keysPartsSpec)

/-- ITS FALSE NEIGHBOUR: 'it returns false'. Refute it at one input. -/
def keysPartsWrong : ChangeSpec := { name := "keysParts", fn := fun _ => fun
  | [d1, d2, d3] => { results := [.lit (.bool false)], args := [d1, d2, d3] }
  | _ => none }
def KeysPartsWrongFalsely : Prop := keysPartsRow.holds Tryd.pinned (OpenSpec.ofChange keysPartsWrong)

/-- 'linguistlaw21.KeysOwn': WHATEVER THE INPUT: true; the input reads as it did. -/
def keysOwnSpec : ChangeSpec := { name := "keysOwn", fn := fun _ => fun
  | [d1, d2] => { results := [.lit (.bool true)], args := [d1, d2] }
  | _ => none }
def keysOwnRow : OpenClaim := { program := "ytohlmkcljoakfaadoor", sum := "885d757c4eb41b162a3819faf03718f8ba5758027b37ac8c562a4315ccfabdaf", func := "linguist/linguistlaw21.KeysOwn", spec := "keysOwn", inPlace := ["internal/bytealg.IndexByteString", "internal/bytealg.IndexString"], named := ["unicode/utf8.first", "unicode/utf8.acceptRanges", "internal/bytealg.MaxLen"], plainKeys := false, apart := false, laid := [("unicode/utf8.acceptRanges", laid_unicode_utf8_acceptRanges), ("unicode/utf8.first", laid_unicode_utf8_first)] }
def KeysOwnSaid : Prop := keysOwnRow.holds Tryd.pinned (OpenSpec.ofChange keysOwnSpec)

/-- ITS FALSE NEIGHBOUR: 'it returns false'. Refute it at one input. -/
def keysOwnWrong : ChangeSpec := { name := "keysOwn", fn := fun _ => fun
  | [d1, d2] => { results := [.lit (.bool false)], args := [d1, d2] }
  | _ => none }
def KeysOwnWrongFalsely : Prop := keysOwnRow.holds Tryd.pinned (OpenSpec.ofChange keysOwnWrong)

/- THE SECOND FORM. 'bulk': how many values and letters a reading holds, each counted each time it is reached (what is shared counts as often as it is met; a slice's spare places count too). A statement '..UptoSaid' is the law's where the arguments, and the package variables that the reading takes, are together of bulk at most 1048576: NARROWER than '..Said'. Prove '..Said' where nothing that the law and all that it calls make is longer than what came in: it says more and counts as full. Else prove '..UptoSaid'. A law counts once. -/
mutual
def uptoBulk {H : Type} : DataW H → Nat
  | .lit (.string bytes) => bytes.length + 1
  | .lit _ => 1
  | .nil => 1
  | .ptr d => uptoBulk d + 1
  | .slice elems spare => uptoBulkAll elems + uptoBulkAll spare + 1
  | .agg parts => uptoBulkAll parts + 1
  | .iface _ d => uptoBulk d + 1
  | .map entries => uptoBulkEntries entries + 1
  | .held _ => 1
def uptoBulkAll {H : Type} : List (DataW H) → Nat
  | [] => 0
  | d :: r => uptoBulk d + uptoBulkAll r
def uptoBulkEntries {H : Type} : List (Lit × DataW H) → Nat
  | [] => 0
  | x :: r => uptoBulkEntry x + uptoBulkEntries r
def uptoBulkEntry {H : Type} : Lit × DataW H → Nat
  | (.string bytes, d) => bytes.length + uptoBulk d + 1
  | (_, d) => uptoBulk d + 1
 end
def uptoSmall : (H : Type) → List (DataW H) → Bool := fun _ ds => decide (uptoBulkAll ds ≤ 1048576)
def OpenSpec.upto (s : _root_.Go.ChangeSpec) : _root_.Go.OpenSpec := { _root_.Go.OpenSpec.ofChange s with cond := some uptoSmall }

/-- 'linguistlaw21.KeysRuns', WHERE WHAT IT READS IS OF BULK AT MOST 1048576: true; the input reads as it did. -/
def keysRunsUptoRow : OpenClaim := { program := "ytohlmkcljoakfaadoor", sum := "885d757c4eb41b162a3819faf03718f8ba5758027b37ac8c562a4315ccfabdaf", func := "linguist/linguistlaw21.KeysRuns", spec := "keysRuns", inPlace := ["internal/bytealg.IndexByteString", "internal/bytealg.IndexString"], named := ["unicode/utf8.first", "unicode/utf8.acceptRanges", "internal/bytealg.MaxLen"], plainKeys := false, apart := false, laid := [("unicode/utf8.acceptRanges", laid_unicode_utf8_acceptRanges), ("unicode/utf8.first", laid_unicode_utf8_first)], narrowed := true }
def KeysRunsUptoSaid : Prop := keysRunsUptoRow.holds Tryd.pinned (OpenSpec.upto keysRunsSpec)

/-- 'linguistlaw21.KeysTells', WHERE WHAT IT READS IS OF BULK AT MOST 1048576: true; the input reads as it did. -/
def keysTellsUptoRow : OpenClaim := { program := "ytohlmkcljoakfaadoor", sum := "885d757c4eb41b162a3819faf03718f8ba5758027b37ac8c562a4315ccfabdaf", func := "linguist/linguistlaw21.KeysTells", spec := "keysTells", inPlace := ["internal/bytealg.IndexByteString", "internal/bytealg.IndexString"], named := ["unicode/utf8.first", "unicode/utf8.acceptRanges", "internal/bytealg.MaxLen"], plainKeys := false, apart := false, laid := [("unicode/utf8.acceptRanges", laid_unicode_utf8_acceptRanges), ("unicode/utf8.first", laid_unicode_utf8_first)], narrowed := true }
def KeysTellsUptoSaid : Prop := keysTellsUptoRow.holds Tryd.pinned (OpenSpec.upto keysTellsSpec)

/-- 'linguistlaw21.KeysSaid', WHERE WHAT IT READS IS OF BULK AT MOST 1048576: true; the input reads as it did. -/
def keysSaidUptoRow : OpenClaim := { program := "ytohlmkcljoakfaadoor", sum := "885d757c4eb41b162a3819faf03718f8ba5758027b37ac8c562a4315ccfabdaf", func := "linguist/linguistlaw21.KeysSaid", spec := "keysSaid", inPlace := ["internal/bytealg.IndexByteString", "internal/bytealg.IndexString"], named := ["unicode/utf8.first", "unicode/utf8.acceptRanges", "internal/bytealg.MaxLen"], plainKeys := false, apart := false, laid := [("unicode/utf8.acceptRanges", laid_unicode_utf8_acceptRanges), ("unicode/utf8.first", laid_unicode_utf8_first)], narrowed := true }
def KeysSaidUptoSaid : Prop := keysSaidUptoRow.holds Tryd.pinned (OpenSpec.upto keysSaidSpec)

/-- 'linguistlaw21.KeysParts', WHERE WHAT IT READS IS OF BULK AT MOST 1048576: true; the input reads as it did. -/
def keysPartsUptoRow : OpenClaim := { program := "ytohlmkcljoakfaadoor", sum := "885d757c4eb41b162a3819faf03718f8ba5758027b37ac8c562a4315ccfabdaf", func := "linguist/linguistlaw21.KeysParts", spec := "keysParts", inPlace := ["internal/bytealg.IndexByteString", "internal/bytealg.IndexString"], named := ["unicode/utf8.first", "unicode/utf8.acceptRanges", "internal/bytealg.MaxLen"], plainKeys := false, apart := false, laid := [("unicode/utf8.acceptRanges", laid_unicode_utf8_acceptRanges), ("unicode/utf8.first", laid_unicode_utf8_first)], narrowed := true }
def KeysPartsUptoSaid : Prop := keysPartsUptoRow.holds Tryd.pinned (OpenSpec.upto keysPartsSpec)

/-- 'linguistlaw21.KeysOwn', WHERE WHAT IT READS IS OF BULK AT MOST 1048576: true; the input reads as it did. -/
def keysOwnUptoRow : OpenClaim := { program := "ytohlmkcljoakfaadoor", sum := "885d757c4eb41b162a3819faf03718f8ba5758027b37ac8c562a4315ccfabdaf", func := "linguist/linguistlaw21.KeysOwn", spec := "keysOwn", inPlace := ["internal/bytealg.IndexByteString", "internal/bytealg.IndexString"], named := ["unicode/utf8.first", "unicode/utf8.acceptRanges", "internal/bytealg.MaxLen"], plainKeys := false, apart := false, laid := [("unicode/utf8.acceptRanges", laid_unicode_utf8_acceptRanges), ("unicode/utf8.first", laid_unicode_utf8_first)], narrowed := true }
def KeysOwnUptoSaid : Prop := keysOwnUptoRow.holds Tryd.pinned (OpenSpec.upto keysOwnSpec)

end Rows
end Go.Proofs.YtohlmkcljoakfaaDoor
