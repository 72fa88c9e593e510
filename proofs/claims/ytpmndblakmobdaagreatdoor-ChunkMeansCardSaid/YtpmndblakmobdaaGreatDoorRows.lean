/-
  NARROWER THAN 'FOR EVERY INPUT', by the rows' own cells (each row's printed sentence says how): ChunkHolds: laid · ChunkMeans: loops, laid.
  DERIVED. THE GIVEN ROWS OF THIS SEAT. 2 by the template 'for every input the law returns true; each argument reads behind the call as it read before'; 0 by the template 'total and deterministic' (their statements: YtpmndblakmobdaaGreatDoorTotals.lean).
  GIVEN WITH THE SEED: the statements are not yours to turn. If you find one false, say at which input.
  Laid BY PROGRAM, IN A SANDBOX (cutbox-rows.mjs): the forced cells as the released guide's own fill.sh prints them over the translation a870b6b94e239cfc… (all of the seat's roots in one cut). By AI agents, Wed Nov 11 2026. No macro, syntax, notation, axiom, sorry.
-/
import Derived.Test.YtpmndblakmobdaaGreatDoorChecked
import GoSem.Claim
import GoSem.ClaimJoined
import GoSem.ClaimMapViews
import Derived.JoinedTies
import Derived.KernelRfl
namespace Go.Proofs.YtpmndblakmobdaaGreatDoor
/- THE CELL 'sum', in the pinned program and in every row, IS THE sha256 OF THE DUMP (.gsa) THAT YtpmndblakmobdaaGreatDoorProg.lean LOADS. Nothing in Lean hashes anything: it is a label: what it is worth is what the hold of that sum in a sandbox is worth. -/
noncomputable def Tryz.pinned : Pinned := { name := "ytpmndblakmobdaagreatdoor", sum := "a870b6b94e239cfc9ba29768738c9dcc53c7aed8f1c9400ec39c0e55a7f594ef", checked := Tryz.checked }
namespace Rows
def none {H : Type} : Left H := { results := [], args := [] }

/- WHAT THE LISTED PACKAGE-LEVEL VARIABLES READ AS WHEN THE CALL BEGINS. Each datum BY PROGRAM (the guide's laid-datum.mjs) off the statement by which the dump's own 'gosem.cut.vars' lays the variable. In a bare row this is a premise. The card (YtpmndblakmobdaaGreatDoorCards.lean) ties it to the program's text. -/
def laid_trammel_scan_keys {H : Type} : DataW H := .slice [.lit (.string [112, 114, 111, 99]), .lit (.string [114, 101, 113, 117, 105, 114, 101, 115]), .lit (.string [101, 110, 115, 117, 114, 101, 115]), .lit (.string [115, 107, 105, 112]), .lit (.string [112, 117, 116]), .lit (.string [103, 101, 116]), .lit (.string [110, 101, 119]), .lit (.string [102, 114, 101, 101]), .lit (.string [105, 102]), .lit (.string [101, 108, 115, 101]), .lit (.string [119, 104, 105, 108, 101]), .lit (.string [105, 110, 118, 97, 114, 105, 97, 110, 116]), .lit (.string [97, 115, 115, 101, 114, 116]), .lit (.string [99, 97, 108, 108]), .lit (.string [116, 114, 117, 101]), .lit (.string [102, 97, 108, 115, 101]), .lit (.string [101, 109, 112]), .lit (.string [97, 99, 99]), .lit (.string [112, 116, 115])] []

/-- 'trammellaw20.ChunkHolds': WHATEVER THE INPUT: true; the input reads as it did. -/
def chunkHoldsSpec : ChangeSpec := { name := "chunkHolds", fn := fun _ => fun
  | [d1, d2] => { results := [.lit (.bool true)], args := [d1, d2] }
  | _ => none }
def chunkHoldsRow : OpenClaim := { program := "ytpmndblakmobdaagreatdoor", sum := "a870b6b94e239cfc9ba29768738c9dcc53c7aed8f1c9400ec39c0e55a7f594ef", func := "trammel/trammellaw20.ChunkHolds", spec := "chunkHolds", inPlace := ["internal/bytealg.IndexByteString"], unfollowed := true, recurses := true, named := ["trammel/scan.keys"], apart := false, laid := [("trammel/scan.keys", laid_trammel_scan_keys)] }
def ChunkHoldsSaid : Prop := chunkHoldsRow.holds Tryz.pinned (OpenSpec.ofChange chunkHoldsSpec)

/-- ITS FALSE NEIGHBOUR: 'it returns false'. Refute it at one input. -/
def chunkHoldsWrong : ChangeSpec := { name := "chunkHolds", fn := fun _ => fun
  | [d1, d2] => { results := [.lit (.bool false)], args := [d1, d2] }
  | _ => none }
def ChunkHoldsWrongFalsely : Prop := chunkHoldsRow.holds Tryz.pinned (OpenSpec.ofChange chunkHoldsWrong)

/-- 'trammellaw20.ChunkMeans': WHATEVER THE INPUT: true; the input reads as it did. -/
def chunkMeansSpec : ChangeSpec := { name := "chunkMeans", fn := fun _ => fun
  | [d1, d2, d3, d4] => { results := [.lit (.bool true)], args := [d1, d2, d3, d4] }
  | _ => none }
def chunkMeansRow : OpenClaim := { program := "ytpmndblakmobdaagreatdoor", sum := "a870b6b94e239cfc9ba29768738c9dcc53c7aed8f1c9400ec39c0e55a7f594ef", func := "trammel/trammellaw20.ChunkMeans", spec := "chunkMeans", inPlace := ["internal/bytealg.IndexByteString"], unfollowed := true, recurses := true, named := ["trammel/scan.keys"], loops := true, apart := false, laid := [("trammel/scan.keys", laid_trammel_scan_keys)] }
def ChunkMeansSaid : Prop := chunkMeansRow.holds Tryz.pinned (OpenSpec.ofChange chunkMeansSpec)

/-- ITS FALSE NEIGHBOUR: 'it returns false'. Refute it at one input. -/
def chunkMeansWrong : ChangeSpec := { name := "chunkMeans", fn := fun _ => fun
  | [d1, d2, d3, d4] => { results := [.lit (.bool false)], args := [d1, d2, d3, d4] }
  | _ => none }
def ChunkMeansWrongFalsely : Prop := chunkMeansRow.holds Tryz.pinned (OpenSpec.ofChange chunkMeansWrong)

/- THE SECOND FORM. 'bulk': how many values and letters a reading holds, each counted each time it is reached (what is shared counts as often as it is met; a slice's spare places count too). A statement '..UptoSaid' is the law's where the arguments, and the package variables that the reading takes, are together of bulk at most 1048576: NARROWER than '..Said'. Prove '..Said' where nothing that the law and all that it calls make is longer than what came in: it says more and counts as full. Else prove '..UptoSaid'. A law counts once. -/
mutual
def uptoBulk {H : Type} : DataW H → Nat
  | .lit (.string bytes) => bytes.length + 1
  | .lit _ => 1
  | .nil => 1
  | .ptr d => uptoBulk d + 1
  | .slice elems spare => uptoBulkAll elems + uptoBulkAll spare + 1
  | .agg parts => uptoBulkAll parts + 1
  | .iface _ d => uptoBulk d + 1
  | .map entries => uptoBulkEntries entries + 1
  | .held _ => 1
def uptoBulkAll {H : Type} : List (DataW H) → Nat
  | [] => 0
  | d :: r => uptoBulk d + uptoBulkAll r
def uptoBulkEntries {H : Type} : List (Lit × DataW H) → Nat
  | [] => 0
  | x :: r => uptoBulkEntry x + uptoBulkEntries r
def uptoBulkEntry {H : Type} : Lit × DataW H → Nat
  | (.string bytes, d) => bytes.length + uptoBulk d + 1
  | (_, d) => uptoBulk d + 1
 end
def uptoSmall : (H : Type) → List (DataW H) → Bool := fun _ ds => decide (uptoBulkAll ds ≤ 1048576)
def OpenSpec.upto (s : _root_.Go.ChangeSpec) : _root_.Go.OpenSpec := { _root_.Go.OpenSpec.ofChange s with cond := some uptoSmall }

/-- 'trammellaw20.ChunkHolds', WHERE WHAT IT READS IS OF BULK AT MOST 1048576: true; the input reads as it did. -/
def chunkHoldsUptoRow : OpenClaim := { program := "ytpmndblakmobdaagreatdoor", sum := "a870b6b94e239cfc9ba29768738c9dcc53c7aed8f1c9400ec39c0e55a7f594ef", func := "trammel/trammellaw20.ChunkHolds", spec := "chunkHolds", inPlace := ["internal/bytealg.IndexByteString"], unfollowed := true, recurses := true, named := ["trammel/scan.keys"], apart := false, laid := [("trammel/scan.keys", laid_trammel_scan_keys)], narrowed := true }
def ChunkHoldsUptoSaid : Prop := chunkHoldsUptoRow.holds Tryz.pinned (OpenSpec.upto chunkHoldsSpec)

/-- 'trammellaw20.ChunkMeans', WHERE WHAT IT READS IS OF BULK AT MOST 1048576: true; the input reads as it did. -/
def chunkMeansUptoRow : OpenClaim := { program := "ytpmndblakmobdaagreatdoor", sum := "a870b6b94e239cfc9ba29768738c9dcc53c7aed8f1c9400ec39c0e55a7f594ef", func := "trammel/trammellaw20.ChunkMeans", spec := "chunkMeans", inPlace := ["internal/bytealg.IndexByteString"], unfollowed := true, recurses := true, named := ["trammel/scan.keys"], loops := true, apart := false, laid := [("trammel/scan.keys", laid_trammel_scan_keys)], narrowed := true }
def ChunkMeansUptoSaid : Prop := chunkMeansUptoRow.holds Tryz.pinned (OpenSpec.upto chunkMeansSpec)

end Rows
end Go.Proofs.YtpmndblakmobdaaGreatDoor
