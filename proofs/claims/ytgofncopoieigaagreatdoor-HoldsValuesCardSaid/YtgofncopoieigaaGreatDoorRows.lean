/-
  NARROWER THAN 'FOR EVERY INPUT', by the rows' own cells (each row's printed sentence says how): HoldsAssns: loops, laid · HoldsStays: loops, laid · HoldsValues: loops, laid.
  DERIVED. THE GIVEN ROWS OF THIS SEAT. 3 by the template 'for every input the law returns true; each argument reads behind the call as it read before'; 0 by the template 'total and deterministic' (their statements: YtgofncopoieigaaGreatDoorTotals.lean).
  GIVEN WITH THE SEED: the statements are not yours to turn. If you find one false, say at which input.
  Laid BY PROGRAM, IN A SANDBOX (cutbox-rows.mjs): the forced cells as the released guide's own fill.sh prints them over the translation fd76e8627d920ed4… (all of the seat's roots in one cut). By AI agents, Wed Nov 11 2026. No macro, syntax, notation, axiom, sorry.
-/
import Derived.Test.YtgofncopoieigaaGreatDoorChecked
import GoSem.Claim
import GoSem.ClaimJoined
import GoSem.ClaimMapViews
import Derived.JoinedTies
import Derived.KernelRfl
namespace Go.Proofs.YtgofncopoieigaaGreatDoor
/- THE CELL 'sum', in the pinned program and in every row, IS THE sha256 OF THE DUMP (.gsa) THAT YtgofncopoieigaaGreatDoorProg.lean LOADS. Nothing in Lean hashes anything: it is a label: what it is worth is what the hold of that sum in a sandbox is worth. -/
noncomputable def Tryz.pinned : Pinned := { name := "ytgofncopoieigaagreatdoor", sum := "fd76e8627d920ed4d91b13f358edff84f899ff72220079ee103ff047de0caef6", checked := Tryz.checked }
namespace Rows
def none {H : Type} : Left H := { results := [], args := [] }

/- WHAT THE LISTED PACKAGE-LEVEL VARIABLES READ AS WHEN THE CALL BEGINS. Each datum BY PROGRAM (the guide's laid-datum.mjs) off the statement by which the dump's own 'gosem.cut.vars' lays the variable. In a bare row this is a premise. The card (YtgofncopoieigaaGreatDoorCards.lean) ties it to the program's text. -/
def laid_trammel_scan_keys {H : Type} : DataW H := .slice [.lit (.string [112, 114, 111, 99]), .lit (.string [114, 101, 113, 117, 105, 114, 101, 115]), .lit (.string [101, 110, 115, 117, 114, 101, 115]), .lit (.string [115, 107, 105, 112]), .lit (.string [112, 117, 116]), .lit (.string [103, 101, 116]), .lit (.string [110, 101, 119]), .lit (.string [102, 114, 101, 101]), .lit (.string [105, 102]), .lit (.string [101, 108, 115, 101]), .lit (.string [119, 104, 105, 108, 101]), .lit (.string [105, 110, 118, 97, 114, 105, 97, 110, 116]), .lit (.string [97, 115, 115, 101, 114, 116]), .lit (.string [99, 97, 108, 108]), .lit (.string [116, 114, 117, 101]), .lit (.string [102, 97, 108, 115, 101]), .lit (.string [101, 109, 112]), .lit (.string [97, 99, 99]), .lit (.string [112, 116, 115])] []

/-- 'trammellaw18.HoldsAssns': WHATEVER THE INPUT: true; the input reads as it did. -/
def holdsAssnsSpec : ChangeSpec := { name := "holdsAssns", fn := fun _ => fun
  | [d1, d2, d3] => { results := [.lit (.bool true)], args := [d1, d2, d3] }
  | _ => none }
def holdsAssnsRow : OpenClaim := { program := "ytgofncopoieigaagreatdoor", sum := "fd76e8627d920ed4d91b13f358edff84f899ff72220079ee103ff047de0caef6", func := "trammel/trammellaw18.HoldsAssns", spec := "holdsAssns", inPlace := ["internal/bytealg.IndexByteString"], unfollowed := true, recurses := true, named := ["trammel/scan.keys"], loops := true, apart := false, laid := [("trammel/scan.keys", laid_trammel_scan_keys)] }
def HoldsAssnsSaid : Prop := holdsAssnsRow.holds Tryz.pinned (OpenSpec.ofChange holdsAssnsSpec)

/-- ITS FALSE NEIGHBOUR: 'it returns false'. Refute it at one input. -/
def holdsAssnsWrong : ChangeSpec := { name := "holdsAssns", fn := fun _ => fun
  | [d1, d2, d3] => { results := [.lit (.bool false)], args := [d1, d2, d3] }
  | _ => none }
def HoldsAssnsWrongFalsely : Prop := holdsAssnsRow.holds Tryz.pinned (OpenSpec.ofChange holdsAssnsWrong)

/-- 'trammellaw18.HoldsStays': WHATEVER THE INPUT: true; the input reads as it did. -/
def holdsStaysSpec : ChangeSpec := { name := "holdsStays", fn := fun _ => fun
  | [d1, d2, d3] => { results := [.lit (.bool true)], args := [d1, d2, d3] }
  | _ => none }
def holdsStaysRow : OpenClaim := { program := "ytgofncopoieigaagreatdoor", sum := "fd76e8627d920ed4d91b13f358edff84f899ff72220079ee103ff047de0caef6", func := "trammel/trammellaw18.HoldsStays", spec := "holdsStays", inPlace := ["internal/bytealg.IndexByteString"], unfollowed := true, recurses := true, named := ["trammel/scan.keys"], loops := true, apart := false, laid := [("trammel/scan.keys", laid_trammel_scan_keys)] }
def HoldsStaysSaid : Prop := holdsStaysRow.holds Tryz.pinned (OpenSpec.ofChange holdsStaysSpec)

/-- ITS FALSE NEIGHBOUR: 'it returns false'. Refute it at one input. -/
def holdsStaysWrong : ChangeSpec := { name := "holdsStays", fn := fun _ => fun
  | [d1, d2, d3] => { results := [.lit (.bool false)], args := [d1, d2, d3] }
  | _ => none }
def HoldsStaysWrongFalsely : Prop := holdsStaysRow.holds Tryz.pinned (OpenSpec.ofChange holdsStaysWrong)

/-- 'trammellaw18.HoldsValues': WHATEVER THE INPUT: true; the input reads as it did. -/
def holdsValuesSpec : ChangeSpec := { name := "holdsValues", fn := fun _ => fun
  | [d1, d2, d3] => { results := [.lit (.bool true)], args := [d1, d2, d3] }
  | _ => none }
def holdsValuesRow : OpenClaim := { program := "ytgofncopoieigaagreatdoor", sum := "fd76e8627d920ed4d91b13f358edff84f899ff72220079ee103ff047de0caef6", func := "trammel/trammellaw18.HoldsValues", spec := "holdsValues", inPlace := ["internal/bytealg.IndexByteString"], unfollowed := true, recurses := true, named := ["trammel/scan.keys"], loops := true, apart := false, laid := [("trammel/scan.keys", laid_trammel_scan_keys)] }
def HoldsValuesSaid : Prop := holdsValuesRow.holds Tryz.pinned (OpenSpec.ofChange holdsValuesSpec)

/-- ITS FALSE NEIGHBOUR: 'it returns false'. Refute it at one input. -/
def holdsValuesWrong : ChangeSpec := { name := "holdsValues", fn := fun _ => fun
  | [d1, d2, d3] => { results := [.lit (.bool false)], args := [d1, d2, d3] }
  | _ => none }
def HoldsValuesWrongFalsely : Prop := holdsValuesRow.holds Tryz.pinned (OpenSpec.ofChange holdsValuesWrong)

/- THE SECOND FORM. 'bulk': how many values and letters a reading holds, each counted each time it is reached (what is shared counts as often as it is met; a slice's spare places count too). A statement '..UptoSaid' is the law's where the arguments, and the package variables that the reading takes, are together of bulk at most 1048576: NARROWER than '..Said'. Prove '..Said' where nothing that the law and all that it calls make is longer than what came in: it says more and counts as full. Else prove '..UptoSaid'. A law counts once. -/
mutual
def uptoBulk {H : Type} : DataW H → Nat
  | .lit (.string bytes) => bytes.length + 1
  | .lit _ => 1
  | .nil => 1
  | .ptr d => uptoBulk d + 1
  | .slice elems spare => uptoBulkAll elems + uptoBulkAll spare + 1
  | .agg parts => uptoBulkAll parts + 1
  | .iface _ d => uptoBulk d + 1
  | .map entries => uptoBulkEntries entries + 1
  | .held _ => 1
def uptoBulkAll {H : Type} : List (DataW H) → Nat
  | [] => 0
  | d :: r => uptoBulk d + uptoBulkAll r
def uptoBulkEntries {H : Type} : List (Lit × DataW H) → Nat
  | [] => 0
  | x :: r => uptoBulkEntry x + uptoBulkEntries r
def uptoBulkEntry {H : Type} : Lit × DataW H → Nat
  | (.string bytes, d) => bytes.length + uptoBulk d + 1
  | (_, d) => uptoBulk d + 1
 end
def uptoSmall : (H : Type) → List (DataW H) → Bool := fun _ ds => decide (uptoBulkAll ds ≤ 1048576)
def OpenSpec.upto (s : _root_.Go.ChangeSpec) : _root_.Go.OpenSpec := { _root_.Go.OpenSpec.ofChange s with cond := some uptoSmall }

/-- 'trammellaw18.HoldsAssns', WHERE WHAT IT READS IS OF BULK AT MOST 1048576: true; the input reads as it did. -/
def holdsAssnsUptoRow : OpenClaim := { program := "ytgofncopoieigaagreatdoor", sum := "fd76e8627d920ed4d91b13f358edff84f899ff72220079ee103ff047de0caef6", func := "trammel/trammellaw18.HoldsAssns", spec := "holdsAssns", inPlace := ["internal/bytealg.IndexByteString"], unfollowed := true, recurses := true, named := ["trammel/scan.keys"], loops := true, apart := false, laid := [("trammel/scan.keys", laid_trammel_scan_keys)], narrowed := true }
def HoldsAssnsUptoSaid : Prop := holdsAssnsUptoRow.holds Tryz.pinned (OpenSpec.upto holdsAssnsSpec)

/-- 'trammellaw18.HoldsStays', WHERE WHAT IT READS IS OF BULK AT MOST 1048576: true; the input reads as it did. -/
def holdsStaysUptoRow : OpenClaim := { program := "ytgofncopoieigaagreatdoor", sum := "fd76e8627d920ed4d91b13f358edff84f899ff72220079ee103ff047de0caef6", func := "trammel/trammellaw18.HoldsStays", spec := "holdsStays", inPlace := ["internal/bytealg.IndexByteString"], unfollowed := true, recurses := true, named := ["trammel/scan.keys"], loops := true, apart := false, laid := [("trammel/scan.keys", laid_trammel_scan_keys)], narrowed := true }
def HoldsStaysUptoSaid : Prop := holdsStaysUptoRow.holds Tryz.pinned (OpenSpec.upto holdsStaysSpec)

/-- 'trammellaw18.HoldsValues', WHERE WHAT IT READS IS OF BULK AT MOST 1048576: true; the input reads as it did. -/
def holdsValuesUptoRow : OpenClaim := { program := "ytgofncopoieigaagreatdoor", sum := "fd76e8627d920ed4d91b13f358edff84f899ff72220079ee103ff047de0caef6", func := "trammel/trammellaw18.HoldsValues", spec := "holdsValues", inPlace := ["internal/bytealg.IndexByteString"], unfollowed := true, recurses := true, named := ["trammel/scan.keys"], loops := true, apart := false, laid := [("trammel/scan.keys", laid_trammel_scan_keys)], narrowed := true }
def HoldsValuesUptoSaid : Prop := holdsValuesUptoRow.holds Tryz.pinned (OpenSpec.upto holdsValuesSpec)

end Rows
end Go.Proofs.YtgofncopoieigaaGreatDoor
