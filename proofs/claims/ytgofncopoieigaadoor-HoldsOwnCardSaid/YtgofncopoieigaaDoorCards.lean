/-
  DERIVED. GIVEN WITH THE SEED: THE CARDS: each row of YtgofncopoieigaaDoorRows.lean that lists a variable, with what it lists TIED to the program's text (the seventh form; the later family's looks); each row that meets fmt, with fmt's text TOLD by the authors' own Lean function (tested against real Go, not proved from fmt's source: count such statements apart). THE CARD IS WHAT COUNTS. Prove the row's statement (the work); the ties are given (YtgofncopoieigaaDoorTie.lean); close each card by the builder's one call (the guide's Derived/Test/ToyasCard.lean, 'card_holds'). Laid BY PROGRAM, IN A SANDBOX (cutbox-door.mjs). By AI agents, Wed Nov 11 2026. No macro, syntax, notation, axiom, sorry.
-/
import Derived.Test.YtgofncopoieigaaDoorRows
import GoSem.ClaimSeven
namespace Go.Proofs.YtgofncopoieigaaDoor
namespace Rows

/-- THE TIED CARD OF 'trammellaw18.HoldsOwn'. -/
def holdsOwnCard : Claim7 := { stood := { row := holdsOwnRow, standIns := [], harness := (true, "1ea392dda5407c34372f294999e350dff876d4870c3ec884e637d329fd09288d"), looks := false }, kinds := [], alts := [], laidByText := true, laidKinds := [.widerDeep], laidTests := true, laidLooks := .later }
def HoldsOwnCardSaid : Prop := Claim7.holds Tryd.pinned (.plain (OpenSpec.ofChange holdsOwnSpec)) holdsOwnCard

/-- THE SECOND FORM's CARD OF 'trammellaw18.HoldsOwn'. -/
def holdsOwnUptoCard : Claim7 := { stood := { row := holdsOwnUptoRow, standIns := [], harness := (true, "1ea392dda5407c34372f294999e350dff876d4870c3ec884e637d329fd09288d"), looks := false }, kinds := [], alts := [], laidByText := true, laidKinds := [.widerDeep], laidTests := true, laidLooks := .later }
def HoldsOwnUptoCardSaid : Prop := Claim7.holds Tryd.pinned (.plain (OpenSpec.upto holdsOwnSpec)) holdsOwnUptoCard
end Rows
end Go.Proofs.YtgofncopoieigaaDoor
