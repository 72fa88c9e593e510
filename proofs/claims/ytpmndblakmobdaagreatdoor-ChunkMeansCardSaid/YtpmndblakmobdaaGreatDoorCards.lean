/-
  DERIVED. GIVEN WITH THE SEED: THE CARDS: each row of YtpmndblakmobdaaGreatDoorRows.lean that lists a variable, with what it lists TIED to the program's text (the seventh form; the later family's looks); each row that meets fmt, with fmt's text TOLD by the authors' own Lean function (tested against real Go, not proved from fmt's source: count such statements apart). THE CARD IS WHAT COUNTS. Prove the row's statement (the work); the ties are given (YtpmndblakmobdaaGreatDoorTie.lean); close each card by the builder's one call (the guide's Derived/Test/ToyasCard.lean, 'card_holds'). Laid BY PROGRAM, IN A SANDBOX (cutbox-door.mjs). By AI agents, Wed Nov 11 2026. No macro, syntax, notation, axiom, sorry.
-/
import Derived.Test.YtpmndblakmobdaaGreatDoorRows
import GoSem.ClaimSeven
namespace Go.Proofs.YtpmndblakmobdaaGreatDoor
namespace Rows

/-- THE TIED CARD OF 'trammellaw20.ChunkHolds'. -/
def chunkHoldsCard : Claim7 := { stood := { row := chunkHoldsRow, standIns := [], harness := (true, "781ea61a207b8ce1b39b2c94a582874de6c10347c450938ad056dafbaa7d023e"), looks := false }, kinds := [], alts := [], laidByText := true, laidKinds := [.widerDeep], laidTests := true, laidLooks := .later }
def ChunkHoldsCardSaid : Prop := Claim7.holds Tryz.pinned (.plain (OpenSpec.ofChange chunkHoldsSpec)) chunkHoldsCard

/-- THE TIED CARD OF 'trammellaw20.ChunkMeans'. -/
def chunkMeansCard : Claim7 := { stood := { row := chunkMeansRow, standIns := [], harness := (true, "781ea61a207b8ce1b39b2c94a582874de6c10347c450938ad056dafbaa7d023e"), looks := false }, kinds := [], alts := [], laidByText := true, laidKinds := [.widerDeep], laidTests := true, laidLooks := .later }
def ChunkMeansCardSaid : Prop := Claim7.holds Tryz.pinned (.plain (OpenSpec.ofChange chunkMeansSpec)) chunkMeansCard

/-- THE SECOND FORM's CARD OF 'trammellaw20.ChunkHolds'. -/
def chunkHoldsUptoCard : Claim7 := { stood := { row := chunkHoldsUptoRow, standIns := [], harness := (true, "781ea61a207b8ce1b39b2c94a582874de6c10347c450938ad056dafbaa7d023e"), looks := false }, kinds := [], alts := [], laidByText := true, laidKinds := [.widerDeep], laidTests := true, laidLooks := .later }
def ChunkHoldsUptoCardSaid : Prop := Claim7.holds Tryz.pinned (.plain (OpenSpec.upto chunkHoldsSpec)) chunkHoldsUptoCard

/-- THE SECOND FORM's CARD OF 'trammellaw20.ChunkMeans'. -/
def chunkMeansUptoCard : Claim7 := { stood := { row := chunkMeansUptoRow, standIns := [], harness := (true, "781ea61a207b8ce1b39b2c94a582874de6c10347c450938ad056dafbaa7d023e"), looks := false }, kinds := [], alts := [], laidByText := true, laidKinds := [.widerDeep], laidTests := true, laidLooks := .later }
def ChunkMeansUptoCardSaid : Prop := Claim7.holds Tryz.pinned (.plain (OpenSpec.upto chunkMeansSpec)) chunkMeansUptoCard
end Rows
end Go.Proofs.YtpmndblakmobdaaGreatDoor
