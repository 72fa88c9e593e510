/-
  NARROWER THAN 'FOR EVERY INPUT', by the rows' own cells (each row's printed sentence says how): ChunkTakes: laid · ChunkFacts: laid · ChunkStays: laid.
  DERIVED. THE GIVEN ROWS OF THIS SEAT. 3 by the template 'for every input the law returns true; each argument reads behind the call as it read before'; 0 by the template 'total and deterministic' (their statements: YtpmndblakmobdaaDoorTotals.lean).
  GIVEN WITH THE SEED: the statements are not yours to turn. If you find one false, say at which input.
  Laid BY PROGRAM, IN A SANDBOX (cutbox-rows.mjs): the forced cells as the released guide's own fill.sh prints them over the translation 36a4fe271e58b324… (all of the seat's roots in one cut). By AI agents, Wed Nov 11 2026. No macro, syntax, notation, axiom, sorry.
-/
import Derived.Test.YtpmndblakmobdaaDoorChecked
import GoSem.Claim
import GoSem.ClaimJoined
import GoSem.ClaimMapViews
import Derived.JoinedTies
import Derived.KernelRfl
namespace Go.Proofs.YtpmndblakmobdaaDoor
/- THE CELL 'sum', in the pinned program and in every row, IS THE sha256 OF THE DUMP (.gsa) THAT YtpmndblakmobdaaDoorProg.lean LOADS. Nothing in Lean hashes anything: it is a label: what it is worth is what the hold of that sum in a sandbox is worth. -/
noncomputable def Tryd.pinned : Pinned := { name := "ytpmndblakmobdaadoor", sum := "36a4fe271e58b3247b0b6b390697fc856366d9afe40866749f4d6776559be9b1", checked := Tryd.checked }
namespace Rows
def none {H : Type} : Left H := { results := [], args := [] }

/- WHAT THE LISTED PACKAGE-LEVEL VARIABLES READ AS WHEN THE CALL BEGINS. Each datum BY PROGRAM (the guide's laid-datum.mjs) off the statement by which the dump's own 'gosem.cut.vars' lays the variable. In a bare row this is a premise. The card (YtpmndblakmobdaaDoorCards.lean) ties it to the program's text. -/
def laid_trammel_scan_keys {H : Type} : DataW H := .slice [.lit (.string [112, 114, 111, 99]), .lit (.string [114, 101, 113, 117, 105, 114, 101, 115]), .lit (.string [101, 110, 115, 117, 114, 101, 115]), .lit (.string [115, 107, 105, 112]), .lit (.string [112, 117, 116]), .lit (.string [103, 101, 116]), .lit (.string [110, 101, 119]), .lit (.string [102, 114, 101, 101]), .lit (.string [105, 102]), .lit (.string [101, 108, 115, 101]), .lit (.string [119, 104, 105, 108, 101]), .lit (.string [105, 110, 118, 97, 114, 105, 97, 110, 116]), .lit (.string [97, 115, 115, 101, 114, 116]), .lit (.string [99, 97, 108, 108]), .lit (.string [116, 114, 117, 101]), .lit (.string [102, 97, 108, 115, 101]), .lit (.string [101, 109, 112]), .lit (.string [97, 99, 99]), .lit (.string [112, 116, 115])] []

/-- 'trammellaw20.ChunkTakes': WHATEVER THE INPUT: true; the input reads as it did. -/
def chunkTakesSpec : ChangeSpec := { name := "chunkTakes", fn := fun _ => fun
  | [d1, d2, d3] => { results := [.lit (.bool true)], args := [d1, d2, d3] }
  | _ => none }
def chunkTakesRow : OpenClaim := { program := "ytpmndblakmobdaadoor", sum := "36a4fe271e58b3247b0b6b390697fc856366d9afe40866749f4d6776559be9b1", func := "trammel/trammellaw20.ChunkTakes", spec := "chunkTakes", inPlace := ["internal/bytealg.IndexByteString"], unfollowed := true, recurses := true, named := ["trammel/scan.keys"], apart := false, laid := [("trammel/scan.keys", laid_trammel_scan_keys)] }
def ChunkTakesSaid : Prop := chunkTakesRow.holds Tryd.pinned (OpenSpec.ofChange chunkTakesSpec)

/-- ITS FALSE NEIGHBOUR: 'it returns false'. Refute it at one input. -/
def chunkTakesWrong : ChangeSpec := { name := "chunkTakes", fn := fun _ => fun
  | [d1, d2, d3] => { results := [.lit (.bool false)], args := [d1, d2, d3] }
  | _ => none }
def ChunkTakesWrongFalsely : Prop := chunkTakesRow.holds Tryd.pinned (OpenSpec.ofChange chunkTakesWrong)

/-- 'trammellaw20.ChunkFacts': WHATEVER THE INPUT: true; the input reads as it did. -/
def chunkFactsSpec : ChangeSpec := { name := "chunkFacts", fn := fun _ => fun
  | [d1, d2] => { results := [.lit (.bool true)], args := [d1, d2] }
  | _ => none }
def chunkFactsRow : OpenClaim := { program := "ytpmndblakmobdaadoor", sum := "36a4fe271e58b3247b0b6b390697fc856366d9afe40866749f4d6776559be9b1", func := "trammel/trammellaw20.ChunkFacts", spec := "chunkFacts", inPlace := ["internal/bytealg.IndexByteString"], unfollowed := true, recurses := true, named := ["trammel/scan.keys"], apart := false, laid := [("trammel/scan.keys", laid_trammel_scan_keys)] }
def ChunkFactsSaid : Prop := chunkFactsRow.holds Tryd.pinned (OpenSpec.ofChange chunkFactsSpec)

/-- ITS FALSE NEIGHBOUR: 'it returns false'. Refute it at one input. -/
def chunkFactsWrong : ChangeSpec := { name := "chunkFacts", fn := fun _ => fun
  | [d1, d2] => { results := [.lit (.bool false)], args := [d1, d2] }
  | _ => none }
def ChunkFactsWrongFalsely : Prop := chunkFactsRow.holds Tryd.pinned (OpenSpec.ofChange chunkFactsWrong)

/-- 'trammellaw20.ChunkStays': WHATEVER THE INPUT: true; the input reads as it did. -/
def chunkStaysSpec : ChangeSpec := { name := "chunkStays", fn := fun _ => fun
  | [d1, d2, d3, d4] => { results := [.lit (.bool true)], args := [d1, d2, d3, d4] }
  | _ => none }
def chunkStaysRow : OpenClaim := { program := "ytpmndblakmobdaadoor", sum := "36a4fe271e58b3247b0b6b390697fc856366d9afe40866749f4d6776559be9b1", func := "trammel/trammellaw20.ChunkStays", spec := "chunkStays", inPlace := ["internal/bytealg.IndexByteString"], unfollowed := true, recurses := true, named := ["trammel/scan.keys"], apart := false, laid := [("trammel/scan.keys", laid_trammel_scan_keys)] }
def ChunkStaysSaid : Prop := chunkStaysRow.holds Tryd.pinned (OpenSpec.ofChange chunkStaysSpec)

/-- ITS FALSE NEIGHBOUR: 'it returns false'. Refute it at one input. -/
def chunkStaysWrong : ChangeSpec := { name := "chunkStays", fn := fun _ => fun
  | [d1, d2, d3, d4] => { results := [.lit (.bool false)], args := [d1, d2, d3, d4] }
  | _ => none }
def ChunkStaysWrongFalsely : Prop := chunkStaysRow.holds Tryd.pinned (OpenSpec.ofChange chunkStaysWrong)

/- THE SECOND FORM. 'bulk': how many values and letters a reading holds, each counted each time it is reached (what is shared counts as often as it is met; a slice's spare places count too). A statement '..UptoSaid' is the law's where the arguments, and the package variables that the reading takes, are together of bulk at most 1048576: NARROWER than '..Said'. Prove '..Said' where nothing that the law and all that it calls make is longer than what came in: it says more and counts as full. Else prove '..UptoSaid'. A law counts once. -/
mutual
def uptoBulk {H : Type} : DataW H → Nat
  | .lit (.string bytes) => bytes.length + 1
  | .lit _ => 1
  | .nil => 1
  | .ptr d => uptoBulk d + 1
  | .slice elems spare => uptoBulkAll elems + uptoBulkAll spare + 1
  | .agg parts => uptoBulkAll parts + 1
  | .iface _ d => uptoBulk d + 1
  | .map entries => uptoBulkEntries entries + 1
  | .held _ => 1
def uptoBulkAll {H : Type} : List (DataW H) → Nat
  | [] => 0
  | d :: r => uptoBulk d + uptoBulkAll r
def uptoBulkEntries {H : Type} : List (Lit × DataW H) → Nat
  | [] => 0
  | x :: r => uptoBulkEntry x + uptoBulkEntries r
def uptoBulkEntry {H : Type} : Lit × DataW H → Nat
  | (.string bytes, d) => bytes.length + uptoBulk d + 1
  | (_, d) => uptoBulk d + 1
 end
def uptoSmall : (H : Type) → List (DataW H) → Bool := fun _ ds => decide (uptoBulkAll ds ≤ 1048576)
def OpenSpec.upto (s : _root_.Go.ChangeSpec) : _root_.Go.OpenSpec := { _root_.Go.OpenSpec.ofChange s with cond := some uptoSmall }

/-- 'trammellaw20.ChunkTakes', WHERE WHAT IT READS IS OF BULK AT MOST 1048576: true; the input reads as it did. -/
def chunkTakesUptoRow : OpenClaim := { program := "ytpmndblakmobdaadoor", sum := "36a4fe271e58b3247b0b6b390697fc856366d9afe40866749f4d6776559be9b1", func := "trammel/trammellaw20.ChunkTakes", spec := "chunkTakes", inPlace := ["internal/bytealg.IndexByteString"], unfollowed := true, recurses := true, named := ["trammel/scan.keys"], apart := false, laid := [("trammel/scan.keys", laid_trammel_scan_keys)], narrowed := true }
def ChunkTakesUptoSaid : Prop := chunkTakesUptoRow.holds Tryd.pinned (OpenSpec.upto chunkTakesSpec)

/-- 'trammellaw20.ChunkFacts', WHERE WHAT IT READS IS OF BULK AT MOST 1048576: true; the input reads as it did. -/
def chunkFactsUptoRow : OpenClaim := { program := "ytpmndblakmobdaadoor", sum := "36a4fe271e58b3247b0b6b390697fc856366d9afe40866749f4d6776559be9b1", func := "trammel/trammellaw20.ChunkFacts", spec := "chunkFacts", inPlace := ["internal/bytealg.IndexByteString"], unfollowed := true, recurses := true, named := ["trammel/scan.keys"], apart := false, laid := [("trammel/scan.keys", laid_trammel_scan_keys)], narrowed := true }
def ChunkFactsUptoSaid : Prop := chunkFactsUptoRow.holds Tryd.pinned (OpenSpec.upto chunkFactsSpec)

/-- 'trammellaw20.ChunkStays', WHERE WHAT IT READS IS OF BULK AT MOST 1048576: true; the input reads as it did. -/
def chunkStaysUptoRow : OpenClaim := { program := "ytpmndblakmobdaadoor", sum := "36a4fe271e58b3247b0b6b390697fc856366d9afe40866749f4d6776559be9b1", func := "trammel/trammellaw20.ChunkStays", spec := "chunkStays", inPlace := ["internal/bytealg.IndexByteString"], unfollowed := true, recurses := true, named := ["trammel/scan.keys"], apart := false, laid := [("trammel/scan.keys", laid_trammel_scan_keys)], narrowed := true }
def ChunkStaysUptoSaid : Prop := chunkStaysUptoRow.holds Tryd.pinned (OpenSpec.upto chunkStaysSpec)

end Rows
end Go.Proofs.YtpmndblakmobdaaDoor
