/-
  DERIVED. GIVEN WITH THE SEED: THE CARDS: each row of YtgofncopoieigaaGreatDoorRows.lean that lists a variable, with what it lists TIED to the program's text (the seventh form; the later family's looks); each row that meets fmt, with fmt's text TOLD by the authors' own Lean function (tested against real Go, not proved from fmt's source: count such statements apart). THE CARD IS WHAT COUNTS. Prove the row's statement (the work); the ties are given (YtgofncopoieigaaGreatDoorTie.lean); close each card by the builder's one call (the guide's Derived/Test/ToyasCard.lean, 'card_holds'). Laid BY PROGRAM, IN A SANDBOX (cutbox-door.mjs). By AI agents, Wed Nov 11 2026. No macro, syntax, notation, axiom, sorry.
-/
import Derived.Test.YtgofncopoieigaaGreatDoorRows
import GoSem.ClaimSeven
namespace Go.Proofs.YtgofncopoieigaaGreatDoor
namespace Rows

/-- THE TIED CARD OF 'trammellaw18.HoldsAssns'. -/
def holdsAssnsCard : Claim7 := { stood := { row := holdsAssnsRow, standIns := [], harness := (true, "660fcfc4147567d66a09332cfdf5e7baa923a075c9740c808968b0c877f09578"), looks := true }, kinds := [], alts := [], laidByText := true, laidKinds := [.widerDeep], laidTests := true, laidLooks := .later }
def HoldsAssnsCardSaid : Prop := Claim7.holds Tryz.pinned (.plain (OpenSpec.ofChange holdsAssnsSpec)) holdsAssnsCard

/-- THE TIED CARD OF 'trammellaw18.HoldsStays'. -/
def holdsStaysCard : Claim7 := { stood := { row := holdsStaysRow, standIns := [], harness := (true, "660fcfc4147567d66a09332cfdf5e7baa923a075c9740c808968b0c877f09578"), looks := true }, kinds := [], alts := [], laidByText := true, laidKinds := [.widerDeep], laidTests := true, laidLooks := .later }
def HoldsStaysCardSaid : Prop := Claim7.holds Tryz.pinned (.plain (OpenSpec.ofChange holdsStaysSpec)) holdsStaysCard

/-- THE TIED CARD OF 'trammellaw18.HoldsValues'. -/
def holdsValuesCard : Claim7 := { stood := { row := holdsValuesRow, standIns := [], harness := (true, "660fcfc4147567d66a09332cfdf5e7baa923a075c9740c808968b0c877f09578"), looks := true }, kinds := [], alts := [], laidByText := true, laidKinds := [.widerDeep], laidTests := true, laidLooks := .later }
def HoldsValuesCardSaid : Prop := Claim7.holds Tryz.pinned (.plain (OpenSpec.ofChange holdsValuesSpec)) holdsValuesCard

/-- THE SECOND FORM's CARD OF 'trammellaw18.HoldsAssns'. -/
def holdsAssnsUptoCard : Claim7 := { stood := { row := holdsAssnsUptoRow, standIns := [], harness := (true, "660fcfc4147567d66a09332cfdf5e7baa923a075c9740c808968b0c877f09578"), looks := true }, kinds := [], alts := [], laidByText := true, laidKinds := [.widerDeep], laidTests := true, laidLooks := .later }
def HoldsAssnsUptoCardSaid : Prop := Claim7.holds Tryz.pinned (.plain (OpenSpec.upto holdsAssnsSpec)) holdsAssnsUptoCard

/-- THE SECOND FORM's CARD OF 'trammellaw18.HoldsStays'. -/
def holdsStaysUptoCard : Claim7 := { stood := { row := holdsStaysUptoRow, standIns := [], harness := (true, "660fcfc4147567d66a09332cfdf5e7baa923a075c9740c808968b0c877f09578"), looks := true }, kinds := [], alts := [], laidByText := true, laidKinds := [.widerDeep], laidTests := true, laidLooks := .later }
def HoldsStaysUptoCardSaid : Prop := Claim7.holds Tryz.pinned (.plain (OpenSpec.upto holdsStaysSpec)) holdsStaysUptoCard

/-- THE SECOND FORM's CARD OF 'trammellaw18.HoldsValues'. -/
def holdsValuesUptoCard : Claim7 := { stood := { row := holdsValuesUptoRow, standIns := [], harness := (true, "660fcfc4147567d66a09332cfdf5e7baa923a075c9740c808968b0c877f09578"), looks := true }, kinds := [], alts := [], laidByText := true, laidKinds := [.widerDeep], laidTests := true, laidLooks := .later }
def HoldsValuesUptoCardSaid : Prop := Claim7.holds Tryz.pinned (.plain (OpenSpec.upto holdsValuesSpec)) holdsValuesUptoCard
end Rows
end Go.Proofs.YtgofncopoieigaaGreatDoor
