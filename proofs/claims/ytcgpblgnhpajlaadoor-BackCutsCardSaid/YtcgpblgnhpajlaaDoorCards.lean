/-
  DERIVED. GIVEN WITH THE SEED: THE CARDS: each row of YtcgpblgnhpajlaaDoorRows.lean that lists a variable, with what it lists TIED to the program's text (the seventh form; the later family's looks); each row that meets fmt, with fmt's text TOLD by the authors' own Lean function (tested against real Go, not proved from fmt's source: count such statements apart). THE CARD IS WHAT COUNTS. Prove the row's statement (the work); the ties are given (YtcgpblgnhpajlaaDoorTie.lean); close each card by the builder's one call (the guide's Derived/Test/ToyasCard.lean, 'card_holds'). Laid BY PROGRAM, IN A SANDBOX (cutbox-door.mjs). By AI agents, Wed Nov 11 2026. No macro, syntax, notation, axiom, sorry.
-/
import Derived.Test.YtcgpblgnhpajlaaDoorRows
import GoSem.ClaimSeven
namespace Go.Proofs.YtcgpblgnhpajlaaDoor
namespace Rows

/-- THE TIED CARD OF 'linguistlaw24.BackRuns'. -/
def backRunsCard : Claim7 := { stood := { row := backRunsRow, standIns := [], harness := (true, "d03ebaf974a0a9a1c75c31a2013765bd132ead85414932e93a9ef7b30897e374"), looks := false }, kinds := [], alts := [], laidByText := true, laidKinds := [.data, .pinned], laidTests := true, laidLooks := .later }
def BackRunsCardSaid : Prop := Claim7.holds Tryd.pinned (.plain (OpenSpec.ofChange backRunsSpec)) backRunsCard

/-- THE TIED CARD OF 'linguistlaw24.BackKeys'. -/
def backKeysCard : Claim7 := { stood := { row := backKeysRow, standIns := [], harness := (true, "d03ebaf974a0a9a1c75c31a2013765bd132ead85414932e93a9ef7b30897e374"), looks := false }, kinds := [], alts := [], laidByText := true, laidKinds := [.data, .pinned], laidTests := true, laidLooks := .later }
def BackKeysCardSaid : Prop := Claim7.holds Tryd.pinned (.plain (OpenSpec.ofChange backKeysSpec)) backKeysCard

/-- THE TIED CARD OF 'linguistlaw24.BackCuts'. -/
def backCutsCard : Claim7 := { stood := { row := backCutsRow, standIns := [], harness := (true, "d03ebaf974a0a9a1c75c31a2013765bd132ead85414932e93a9ef7b30897e374"), looks := false }, kinds := [], alts := [], laidByText := true, laidKinds := [.data, .pinned], laidTests := true, laidLooks := .later }
def BackCutsCardSaid : Prop := Claim7.holds Tryd.pinned (.plain (OpenSpec.ofChange backCutsSpec)) backCutsCard

/-- THE TIED CARD OF 'linguistlaw24.BackPlain'. -/
def backPlainCard : Claim7 := { stood := { row := backPlainRow, standIns := [], harness := (true, "d03ebaf974a0a9a1c75c31a2013765bd132ead85414932e93a9ef7b30897e374"), looks := false }, kinds := [], alts := [], laidByText := true, laidKinds := [.data, .pinned], laidTests := true, laidLooks := .later }
def BackPlainCardSaid : Prop := Claim7.holds Tryd.pinned (.plain (OpenSpec.ofChange backPlainSpec)) backPlainCard

/-- THE TIED CARD OF 'linguistlaw24.BackTells'. -/
def backTellsCard : Claim7 := { stood := { row := backTellsRow, standIns := [], harness := (true, "d03ebaf974a0a9a1c75c31a2013765bd132ead85414932e93a9ef7b30897e374"), looks := false }, kinds := [], alts := [], laidByText := true, laidKinds := [.data, .pinned], laidTests := true, laidLooks := .later }
def BackTellsCardSaid : Prop := Claim7.holds Tryd.pinned (.plain (OpenSpec.ofChange backTellsSpec)) backTellsCard

/-- THE TIED CARD OF 'linguistlaw24.BackModes'. -/
def backModesCard : Claim7 := { stood := { row := backModesRow, standIns := [], harness := (true, "d03ebaf974a0a9a1c75c31a2013765bd132ead85414932e93a9ef7b30897e374"), looks := false }, kinds := [], alts := [], laidByText := true, laidKinds := [.data, .pinned], laidTests := true, laidLooks := .later }
def BackModesCardSaid : Prop := Claim7.holds Tryd.pinned (.plain (OpenSpec.ofChange backModesSpec)) backModesCard

/-- THE SECOND FORM's CARD OF 'linguistlaw24.BackRuns'. -/
def backRunsUptoCard : Claim7 := { stood := { row := backRunsUptoRow, standIns := [], harness := (true, "d03ebaf974a0a9a1c75c31a2013765bd132ead85414932e93a9ef7b30897e374"), looks := false }, kinds := [], alts := [], laidByText := true, laidKinds := [.data, .pinned], laidTests := true, laidLooks := .later }
def BackRunsUptoCardSaid : Prop := Claim7.holds Tryd.pinned (.plain (OpenSpec.upto backRunsSpec)) backRunsUptoCard

/-- THE SECOND FORM's CARD OF 'linguistlaw24.BackKeys'. -/
def backKeysUptoCard : Claim7 := { stood := { row := backKeysUptoRow, standIns := [], harness := (true, "d03ebaf974a0a9a1c75c31a2013765bd132ead85414932e93a9ef7b30897e374"), looks := false }, kinds := [], alts := [], laidByText := true, laidKinds := [.data, .pinned], laidTests := true, laidLooks := .later }
def BackKeysUptoCardSaid : Prop := Claim7.holds Tryd.pinned (.plain (OpenSpec.upto backKeysSpec)) backKeysUptoCard

/-- THE SECOND FORM's CARD OF 'linguistlaw24.BackCuts'. -/
def backCutsUptoCard : Claim7 := { stood := { row := backCutsUptoRow, standIns := [], harness := (true, "d03ebaf974a0a9a1c75c31a2013765bd132ead85414932e93a9ef7b30897e374"), looks := false }, kinds := [], alts := [], laidByText := true, laidKinds := [.data, .pinned], laidTests := true, laidLooks := .later }
def BackCutsUptoCardSaid : Prop := Claim7.holds Tryd.pinned (.plain (OpenSpec.upto backCutsSpec)) backCutsUptoCard

/-- THE SECOND FORM's CARD OF 'linguistlaw24.BackPlain'. -/
def backPlainUptoCard : Claim7 := { stood := { row := backPlainUptoRow, standIns := [], harness := (true, "d03ebaf974a0a9a1c75c31a2013765bd132ead85414932e93a9ef7b30897e374"), looks := false }, kinds := [], alts := [], laidByText := true, laidKinds := [.data, .pinned], laidTests := true, laidLooks := .later }
def BackPlainUptoCardSaid : Prop := Claim7.holds Tryd.pinned (.plain (OpenSpec.upto backPlainSpec)) backPlainUptoCard

/-- THE SECOND FORM's CARD OF 'linguistlaw24.BackTells'. -/
def backTellsUptoCard : Claim7 := { stood := { row := backTellsUptoRow, standIns := [], harness := (true, "d03ebaf974a0a9a1c75c31a2013765bd132ead85414932e93a9ef7b30897e374"), looks := false }, kinds := [], alts := [], laidByText := true, laidKinds := [.data, .pinned], laidTests := true, laidLooks := .later }
def BackTellsUptoCardSaid : Prop := Claim7.holds Tryd.pinned (.plain (OpenSpec.upto backTellsSpec)) backTellsUptoCard

/-- THE SECOND FORM's CARD OF 'linguistlaw24.BackModes'. -/
def backModesUptoCard : Claim7 := { stood := { row := backModesUptoRow, standIns := [], harness := (true, "d03ebaf974a0a9a1c75c31a2013765bd132ead85414932e93a9ef7b30897e374"), looks := false }, kinds := [], alts := [], laidByText := true, laidKinds := [.data, .pinned], laidTests := true, laidLooks := .later }
def BackModesUptoCardSaid : Prop := Claim7.holds Tryd.pinned (.plain (OpenSpec.upto backModesSpec)) backModesUptoCard
end Rows
end Go.Proofs.YtcgpblgnhpajlaaDoor
