/-
  DERIVED. GIVEN WITH THE SEED: THE CARDS: each row of YtbbcodpoiikkdaaDoorRows.lean that lists a variable, with what it lists TIED to the program's text (the seventh form; the later family's looks); each row that meets fmt, with fmt's text TOLD by the authors' own Lean function (tested against real Go, not proved from fmt's source: count such statements apart). THE CARD IS WHAT COUNTS. Prove the row's statement (the work); the ties are given (YtbbcodpoiikkdaaDoorTie.lean); close each card by the builder's one call (the guide's Derived/Test/ToyasCard.lean, 'card_holds'). Laid BY PROGRAM, IN A SANDBOX (cutbox-door.mjs). By AI agents, Wed Nov 11 2026. No macro, syntax, notation, axiom, sorry.
-/
import Derived.Test.YtbbcodpoiikkdaaDoorRows
import GoSem.ClaimSeven
namespace Go.Proofs.YtbbcodpoiikkdaaDoor
namespace Rows

/-- THE TIED CARD OF 'trammellaw07.RupChecks'. -/
def rupChecksCard : Claim7 := { stood := { row := rupChecksRow, standIns := [], harness := (true, "e7e4a1d35bc20061b7955f981649cb98cd2a12f359b74b5ff8ef1dbd3d1f62a6"), looks := true }, kinds := [], alts := [], laidByText := true, laidKinds := [.handle], laidTests := true, laidLooks := .later }
def RupChecksCardSaid : Prop := Claim7.holds Tryd.pinned (.plain (OpenSpec.ofChange rupChecksSpec)) rupChecksCard

/-- THE TIED CARD OF 'trammellaw07.RupNone'. -/
def rupNoneCard : Claim7 := { stood := { row := rupNoneRow, standIns := [], harness := (true, "e7e4a1d35bc20061b7955f981649cb98cd2a12f359b74b5ff8ef1dbd3d1f62a6"), looks := true }, kinds := [], alts := [], laidByText := true, laidKinds := [.handle], laidTests := true, laidLooks := .later }
def RupNoneCardSaid : Prop := Claim7.holds Tryd.pinned (.plain (OpenSpec.ofChange rupNoneSpec)) rupNoneCard

/-- THE TIED CARD OF 'trammellaw07.RupStays'. -/
def rupStaysCard : Claim7 := { stood := { row := rupStaysRow, standIns := [], harness := (true, "e7e4a1d35bc20061b7955f981649cb98cd2a12f359b74b5ff8ef1dbd3d1f62a6"), looks := true }, kinds := [], alts := [], laidByText := true, laidKinds := [.handle], laidTests := true, laidLooks := .later }
def RupStaysCardSaid : Prop := Claim7.holds Tryd.pinned (.plain (OpenSpec.ofChange rupStaysSpec)) rupStaysCard

/-- THE TIED CARD OF 'trammellaw07.RupRight'. -/
def rupRightCard : Claim7 := { stood := { row := rupRightRow, standIns := [], harness := (true, "e7e4a1d35bc20061b7955f981649cb98cd2a12f359b74b5ff8ef1dbd3d1f62a6"), looks := true }, kinds := [], alts := [], laidByText := true, laidKinds := [.handle], laidTests := true, laidLooks := .later }
def RupRightCardSaid : Prop := Claim7.holds Tryd.pinned (.plain (OpenSpec.ofChange rupRightSpec)) rupRightCard

/-- THE SECOND FORM's CARD OF 'trammellaw07.RupChecks'. -/
def rupChecksUptoCard : Claim7 := { stood := { row := rupChecksUptoRow, standIns := [], harness := (true, "e7e4a1d35bc20061b7955f981649cb98cd2a12f359b74b5ff8ef1dbd3d1f62a6"), looks := true }, kinds := [], alts := [], laidByText := true, laidKinds := [.handle], laidTests := true, laidLooks := .later }
def RupChecksUptoCardSaid : Prop := Claim7.holds Tryd.pinned (.plain (OpenSpec.upto rupChecksSpec)) rupChecksUptoCard

/-- THE SECOND FORM's CARD OF 'trammellaw07.RupNone'. -/
def rupNoneUptoCard : Claim7 := { stood := { row := rupNoneUptoRow, standIns := [], harness := (true, "e7e4a1d35bc20061b7955f981649cb98cd2a12f359b74b5ff8ef1dbd3d1f62a6"), looks := true }, kinds := [], alts := [], laidByText := true, laidKinds := [.handle], laidTests := true, laidLooks := .later }
def RupNoneUptoCardSaid : Prop := Claim7.holds Tryd.pinned (.plain (OpenSpec.upto rupNoneSpec)) rupNoneUptoCard

/-- THE SECOND FORM's CARD OF 'trammellaw07.RupStays'. -/
def rupStaysUptoCard : Claim7 := { stood := { row := rupStaysUptoRow, standIns := [], harness := (true, "e7e4a1d35bc20061b7955f981649cb98cd2a12f359b74b5ff8ef1dbd3d1f62a6"), looks := true }, kinds := [], alts := [], laidByText := true, laidKinds := [.handle], laidTests := true, laidLooks := .later }
def RupStaysUptoCardSaid : Prop := Claim7.holds Tryd.pinned (.plain (OpenSpec.upto rupStaysSpec)) rupStaysUptoCard

/-- THE SECOND FORM's CARD OF 'trammellaw07.RupRight'. -/
def rupRightUptoCard : Claim7 := { stood := { row := rupRightUptoRow, standIns := [], harness := (true, "e7e4a1d35bc20061b7955f981649cb98cd2a12f359b74b5ff8ef1dbd3d1f62a6"), looks := true }, kinds := [], alts := [], laidByText := true, laidKinds := [.handle], laidTests := true, laidLooks := .later }
def RupRightUptoCardSaid : Prop := Claim7.holds Tryd.pinned (.plain (OpenSpec.upto rupRightSpec)) rupRightUptoCard
end Rows
end Go.Proofs.YtbbcodpoiikkdaaDoor
