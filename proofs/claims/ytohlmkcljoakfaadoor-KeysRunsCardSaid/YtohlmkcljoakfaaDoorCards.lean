/-
  DERIVED. GIVEN WITH THE SEED: THE CARDS: each row of YtohlmkcljoakfaaDoorRows.lean that lists a variable, with what it lists TIED to the program's text (the seventh form; the later family's looks); each row that meets fmt, with fmt's text TOLD by the authors' own Lean function (tested against real Go, not proved from fmt's source: count such statements apart). THE CARD IS WHAT COUNTS. Prove the row's statement (the work); the ties are given (YtohlmkcljoakfaaDoorTie.lean); close each card by the builder's one call (the guide's Derived/Test/ToyasCard.lean, 'card_holds'). Laid BY PROGRAM, IN A SANDBOX (cutbox-door.mjs). By AI agents, Wed Nov 11 2026. No macro, syntax, notation, axiom, sorry.
-/
import Derived.Test.YtohlmkcljoakfaaDoorRows
import GoSem.ClaimSeven
namespace Go.Proofs.YtohlmkcljoakfaaDoor
namespace Rows

/-- THE TIED CARD OF 'linguistlaw21.KeysRuns'. -/
def keysRunsCard : Claim7 := { stood := { row := keysRunsRow, standIns := [], harness := (true, "054607db86cde6e3c8291ba08b7f847439d08c77beebe9a330f8e24a09764e1e"), looks := false }, kinds := [], alts := [], laidByText := true, laidKinds := [.data, .pinned], laidTests := true, laidLooks := .later }
def KeysRunsCardSaid : Prop := Claim7.holds Tryd.pinned (.plain (OpenSpec.ofChange keysRunsSpec)) keysRunsCard

/-- THE TIED CARD OF 'linguistlaw21.KeysTells'. -/
def keysTellsCard : Claim7 := { stood := { row := keysTellsRow, standIns := [], harness := (true, "054607db86cde6e3c8291ba08b7f847439d08c77beebe9a330f8e24a09764e1e"), looks := false }, kinds := [], alts := [], laidByText := true, laidKinds := [.data, .pinned], laidTests := true, laidLooks := .later }
def KeysTellsCardSaid : Prop := Claim7.holds Tryd.pinned (.plain (OpenSpec.ofChange keysTellsSpec)) keysTellsCard

/-- THE TIED CARD OF 'linguistlaw21.KeysSaid'. -/
def keysSaidCard : Claim7 := { stood := { row := keysSaidRow, standIns := [], harness := (true, "054607db86cde6e3c8291ba08b7f847439d08c77beebe9a330f8e24a09764e1e"), looks := false }, kinds := [], alts := [], laidByText := true, laidKinds := [.data, .pinned], laidTests := true, laidLooks := .later }
def KeysSaidCardSaid : Prop := Claim7.holds Tryd.pinned (.plain (OpenSpec.ofChange keysSaidSpec)) keysSaidCard

/-- THE TIED CARD OF 'linguistlaw21.KeysParts'. -/
def keysPartsCard : Claim7 := { stood := { row := keysPartsRow, standIns := [], harness := (true, "054607db86cde6e3c8291ba08b7f847439d08c77beebe9a330f8e24a09764e1e"), looks := false }, kinds := [], alts := [], laidByText := true, laidKinds := [.data, .pinned], laidTests := true, laidLooks := .later }
def KeysPartsCardSaid : Prop := Claim7.holds Tryd.pinned (.plain (OpenSpec.ofChange keysPartsSpec)) keysPartsCard

/-- THE TIED CARD OF 'linguistlaw21.KeysOwn'. -/
def keysOwnCard : Claim7 := { stood := { row := keysOwnRow, standIns := [], harness := (true, "054607db86cde6e3c8291ba08b7f847439d08c77beebe9a330f8e24a09764e1e"), looks := false }, kinds := [], alts := [], laidByText := true, laidKinds := [.data, .pinned], laidTests := true, laidLooks := .later }
def KeysOwnCardSaid : Prop := Claim7.holds Tryd.pinned (.plain (OpenSpec.ofChange keysOwnSpec)) keysOwnCard

/-- THE SECOND FORM's CARD OF 'linguistlaw21.KeysRuns'. -/
def keysRunsUptoCard : Claim7 := { stood := { row := keysRunsUptoRow, standIns := [], harness := (true, "054607db86cde6e3c8291ba08b7f847439d08c77beebe9a330f8e24a09764e1e"), looks := false }, kinds := [], alts := [], laidByText := true, laidKinds := [.data, .pinned], laidTests := true, laidLooks := .later }
def KeysRunsUptoCardSaid : Prop := Claim7.holds Tryd.pinned (.plain (OpenSpec.upto keysRunsSpec)) keysRunsUptoCard

/-- THE SECOND FORM's CARD OF 'linguistlaw21.KeysTells'. -/
def keysTellsUptoCard : Claim7 := { stood := { row := keysTellsUptoRow, standIns := [], harness := (true, "054607db86cde6e3c8291ba08b7f847439d08c77beebe9a330f8e24a09764e1e"), looks := false }, kinds := [], alts := [], laidByText := true, laidKinds := [.data, .pinned], laidTests := true, laidLooks := .later }
def KeysTellsUptoCardSaid : Prop := Claim7.holds Tryd.pinned (.plain (OpenSpec.upto keysTellsSpec)) keysTellsUptoCard

/-- THE SECOND FORM's CARD OF 'linguistlaw21.KeysSaid'. -/
def keysSaidUptoCard : Claim7 := { stood := { row := keysSaidUptoRow, standIns := [], harness := (true, "054607db86cde6e3c8291ba08b7f847439d08c77beebe9a330f8e24a09764e1e"), looks := false }, kinds := [], alts := [], laidByText := true, laidKinds := [.data, .pinned], laidTests := true, laidLooks := .later }
def KeysSaidUptoCardSaid : Prop := Claim7.holds Tryd.pinned (.plain (OpenSpec.upto keysSaidSpec)) keysSaidUptoCard

/-- THE SECOND FORM's CARD OF 'linguistlaw21.KeysParts'. -/
def keysPartsUptoCard : Claim7 := { stood := { row := keysPartsUptoRow, standIns := [], harness := (true, "054607db86cde6e3c8291ba08b7f847439d08c77beebe9a330f8e24a09764e1e"), looks := false }, kinds := [], alts := [], laidByText := true, laidKinds := [.data, .pinned], laidTests := true, laidLooks := .later }
def KeysPartsUptoCardSaid : Prop := Claim7.holds Tryd.pinned (.plain (OpenSpec.upto keysPartsSpec)) keysPartsUptoCard

/-- THE SECOND FORM's CARD OF 'linguistlaw21.KeysOwn'. -/
def keysOwnUptoCard : Claim7 := { stood := { row := keysOwnUptoRow, standIns := [], harness := (true, "054607db86cde6e3c8291ba08b7f847439d08c77beebe9a330f8e24a09764e1e"), looks := false }, kinds := [], alts := [], laidByText := true, laidKinds := [.data, .pinned], laidTests := true, laidLooks := .later }
def KeysOwnUptoCardSaid : Prop := Claim7.holds Tryd.pinned (.plain (OpenSpec.upto keysOwnSpec)) keysOwnUptoCard
end Rows
end Go.Proofs.YtohlmkcljoakfaaDoor
