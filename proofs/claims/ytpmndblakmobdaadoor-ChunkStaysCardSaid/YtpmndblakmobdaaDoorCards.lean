/-
  DERIVED. GIVEN WITH THE SEED: THE CARDS: each row of YtpmndblakmobdaaDoorRows.lean that lists a variable, with what it lists TIED to the program's text (the seventh form; the later family's looks); each row that meets fmt, with fmt's text TOLD by the authors' own Lean function (tested against real Go, not proved from fmt's source: count such statements apart). THE CARD IS WHAT COUNTS. Prove the row's statement (the work); the ties are given (YtpmndblakmobdaaDoorTie.lean); close each card by the builder's one call (the guide's Derived/Test/ToyasCard.lean, 'card_holds'). Laid BY PROGRAM, IN A SANDBOX (cutbox-door.mjs). By AI agents, Wed Nov 11 2026. No macro, syntax, notation, axiom, sorry.
-/
import Derived.Test.YtpmndblakmobdaaDoorRows
import GoSem.ClaimSeven
namespace Go.Proofs.YtpmndblakmobdaaDoor
namespace Rows

/-- THE TIED CARD OF 'trammellaw20.ChunkTakes'. -/
def chunkTakesCard : Claim7 := { stood := { row := chunkTakesRow, standIns := [], harness := (true, "ab50c4aa69fb5ac70cbc0abb9461c8ccd988315a8f24d180a086b1e63030fc16"), looks := true }, kinds := [], alts := [], laidByText := true, laidKinds := [.widerDeep], laidTests := true, laidLooks := .later }
def ChunkTakesCardSaid : Prop := Claim7.holds Tryd.pinned (.plain (OpenSpec.ofChange chunkTakesSpec)) chunkTakesCard

/-- THE TIED CARD OF 'trammellaw20.ChunkFacts'. -/
def chunkFactsCard : Claim7 := { stood := { row := chunkFactsRow, standIns := [], harness := (true, "ab50c4aa69fb5ac70cbc0abb9461c8ccd988315a8f24d180a086b1e63030fc16"), looks := true }, kinds := [], alts := [], laidByText := true, laidKinds := [.widerDeep], laidTests := true, laidLooks := .later }
def ChunkFactsCardSaid : Prop := Claim7.holds Tryd.pinned (.plain (OpenSpec.ofChange chunkFactsSpec)) chunkFactsCard

/-- THE TIED CARD OF 'trammellaw20.ChunkStays'. -/
def chunkStaysCard : Claim7 := { stood := { row := chunkStaysRow, standIns := [], harness := (true, "ab50c4aa69fb5ac70cbc0abb9461c8ccd988315a8f24d180a086b1e63030fc16"), looks := true }, kinds := [], alts := [], laidByText := true, laidKinds := [.widerDeep], laidTests := true, laidLooks := .later }
def ChunkStaysCardSaid : Prop := Claim7.holds Tryd.pinned (.plain (OpenSpec.ofChange chunkStaysSpec)) chunkStaysCard

/-- THE SECOND FORM's CARD OF 'trammellaw20.ChunkTakes'. -/
def chunkTakesUptoCard : Claim7 := { stood := { row := chunkTakesUptoRow, standIns := [], harness := (true, "ab50c4aa69fb5ac70cbc0abb9461c8ccd988315a8f24d180a086b1e63030fc16"), looks := true }, kinds := [], alts := [], laidByText := true, laidKinds := [.widerDeep], laidTests := true, laidLooks := .later }
def ChunkTakesUptoCardSaid : Prop := Claim7.holds Tryd.pinned (.plain (OpenSpec.upto chunkTakesSpec)) chunkTakesUptoCard

/-- THE SECOND FORM's CARD OF 'trammellaw20.ChunkFacts'. -/
def chunkFactsUptoCard : Claim7 := { stood := { row := chunkFactsUptoRow, standIns := [], harness := (true, "ab50c4aa69fb5ac70cbc0abb9461c8ccd988315a8f24d180a086b1e63030fc16"), looks := true }, kinds := [], alts := [], laidByText := true, laidKinds := [.widerDeep], laidTests := true, laidLooks := .later }
def ChunkFactsUptoCardSaid : Prop := Claim7.holds Tryd.pinned (.plain (OpenSpec.upto chunkFactsSpec)) chunkFactsUptoCard

/-- THE SECOND FORM's CARD OF 'trammellaw20.ChunkStays'. -/
def chunkStaysUptoCard : Claim7 := { stood := { row := chunkStaysUptoRow, standIns := [], harness := (true, "ab50c4aa69fb5ac70cbc0abb9461c8ccd988315a8f24d180a086b1e63030fc16"), looks := true }, kinds := [], alts := [], laidByText := true, laidKinds := [.widerDeep], laidTests := true, laidLooks := .later }
def ChunkStaysUptoCardSaid : Prop := Claim7.holds Tryd.pinned (.plain (OpenSpec.upto chunkStaysSpec)) chunkStaysUptoCard
end Rows
end Go.Proofs.YtpmndblakmobdaaDoor
