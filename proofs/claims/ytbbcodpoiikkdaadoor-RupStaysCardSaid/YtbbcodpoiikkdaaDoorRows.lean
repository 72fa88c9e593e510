/-
  NARROWER THAN 'FOR EVERY INPUT', by the rows' own cells (each row's printed sentence says how): RupChecks: laid · RupNone: laid · RupStays: laid · RupRight: laid.
  DERIVED. THE GIVEN ROWS OF THIS SEAT. 4 by the template 'for every input the law returns true; each argument reads behind the call as it read before'; 0 by the template 'total and deterministic' (their statements: YtbbcodpoiikkdaaDoorTotals.lean).
  GIVEN WITH THE SEED: the statements are not yours to turn. If you find one false, say at which input.
  Laid BY PROGRAM, IN A SANDBOX (cutbox-rows.mjs): the forced cells as the released guide's own fill.sh prints them over the translation 2f2de3d771a401df… (all of the seat's roots in one cut). By AI agents, Wed Nov 11 2026. No macro, syntax, notation, axiom, sorry.
-/
import Derived.Test.YtbbcodpoiikkdaaDoorChecked
import GoSem.Claim
import GoSem.ClaimJoined
import GoSem.ClaimMapViews
import Derived.JoinedTies
import Derived.KernelRfl
namespace Go.Proofs.YtbbcodpoiikkdaaDoor
/- THE CELL 'sum', in the pinned program and in every row, IS THE sha256 OF THE DUMP (.gsa) THAT YtbbcodpoiikkdaaDoorProg.lean LOADS. Nothing in Lean hashes anything: it is a label: what it is worth is what the hold of that sum in a sandbox is worth. -/
noncomputable def Tryd.pinned : Pinned := { name := "ytbbcodpoiikkdaadoor", sum := "2f2de3d771a401dff95c7de67fd581a638d26fb40313448e93c07572c4fc899c", checked := Tryd.checked }
namespace Rows
def none {H : Type} : Left H := { results := [], args := [] }

/- WHAT THE LISTED PACKAGE-LEVEL VARIABLES READ AS WHEN THE CALL BEGINS. Each datum BY PROGRAM (the guide's laid-datum.mjs) off the statement by which the dump's own 'gosem.cut.vars' lays the variable. In a bare row this is a premise. The card (YtbbcodpoiikkdaaDoorCards.lean) ties it to the program's text. -/
def laid_errors_errorType {H : Type} : DataW H := .iface "internal/reflectlite.rtype" (.agg [.ptr (.lit (.string [101, 114, 114, 111, 114]))])

/-- 'trammellaw07.RupChecks': WHATEVER THE INPUT: true; the input reads as it did. -/
def rupChecksSpec : ChangeSpec := { name := "rupChecks", fn := fun _ => fun
  | [d1, d2, d3] => { results := [.lit (.bool true)], args := [d1, d2, d3] }
  | _ => none }
def rupChecksRow : OpenClaim := { program := "ytbbcodpoiikkdaadoor", sum := "2f2de3d771a401dff95c7de67fd581a638d26fb40313448e93c07572c4fc899c", func := "trammel/trammellaw07.RupChecks", spec := "rupChecks", inPlace := ["internal/reflectlite.ValueOf", "(internal/reflectlite.Value).Type", "(internal/reflectlite.Value).IsNil", "internal/reflectlite.TypeOf", "(internal/reflectlite.Value).Elem", "(internal/reflectlite.Value).Set"], unfollowed := true, recurses := true, named := ["errors.errorType"], apart := false, laid := [("errors.errorType", laid_errors_errorType)] }
def RupChecksSaid : Prop := rupChecksRow.holds Tryd.pinned (OpenSpec.ofChange rupChecksSpec)

/-- ITS FALSE NEIGHBOUR: 'it returns false'. Refute it at one input. -/
def rupChecksWrong : ChangeSpec := { name := "rupChecks", fn := fun _ => fun
  | [d1, d2, d3] => { results := [.lit (.bool false)], args := [d1, d2, d3] }
  | _ => none }
def RupChecksWrongFalsely : Prop := rupChecksRow.holds Tryd.pinned (OpenSpec.ofChange rupChecksWrong)

/-- 'trammellaw07.RupNone': WHATEVER THE INPUT: true; the input reads as it did. -/
def rupNoneSpec : ChangeSpec := { name := "rupNone", fn := fun _ => fun
  | [d1, d2, d3] => { results := [.lit (.bool true)], args := [d1, d2, d3] }
  | _ => none }
def rupNoneRow : OpenClaim := { program := "ytbbcodpoiikkdaadoor", sum := "2f2de3d771a401dff95c7de67fd581a638d26fb40313448e93c07572c4fc899c", func := "trammel/trammellaw07.RupNone", spec := "rupNone", inPlace := ["internal/reflectlite.ValueOf", "(internal/reflectlite.Value).Type", "(internal/reflectlite.Value).IsNil", "internal/reflectlite.TypeOf", "(internal/reflectlite.Value).Elem", "(internal/reflectlite.Value).Set"], unfollowed := true, recurses := true, named := ["errors.errorType"], apart := false, laid := [("errors.errorType", laid_errors_errorType)] }
def RupNoneSaid : Prop := rupNoneRow.holds Tryd.pinned (OpenSpec.ofChange rupNoneSpec)

/-- ITS FALSE NEIGHBOUR: 'it returns false'. Refute it at one input. -/
def rupNoneWrong : ChangeSpec := { name := "rupNone", fn := fun _ => fun
  | [d1, d2, d3] => { results := [.lit (.bool false)], args := [d1, d2, d3] }
  | _ => none }
def RupNoneWrongFalsely : Prop := rupNoneRow.holds Tryd.pinned (OpenSpec.ofChange rupNoneWrong)

/-- 'trammellaw07.RupStays': WHATEVER THE INPUT: true; the input reads as it did. -/
def rupStaysSpec : ChangeSpec := { name := "rupStays", fn := fun _ => fun
  | [d1, d2, d3] => { results := [.lit (.bool true)], args := [d1, d2, d3] }
  | _ => none }
def rupStaysRow : OpenClaim := { program := "ytbbcodpoiikkdaadoor", sum := "2f2de3d771a401dff95c7de67fd581a638d26fb40313448e93c07572c4fc899c", func := "trammel/trammellaw07.RupStays", spec := "rupStays", inPlace := ["internal/reflectlite.ValueOf", "(internal/reflectlite.Value).Type", "(internal/reflectlite.Value).IsNil", "internal/reflectlite.TypeOf", "(internal/reflectlite.Value).Elem", "(internal/reflectlite.Value).Set"], unfollowed := true, recurses := true, named := ["errors.errorType"], apart := false, laid := [("errors.errorType", laid_errors_errorType)] }
def RupStaysSaid : Prop := rupStaysRow.holds Tryd.pinned (OpenSpec.ofChange rupStaysSpec)

/-- ITS FALSE NEIGHBOUR: 'it returns false'. Refute it at one input. -/
def rupStaysWrong : ChangeSpec := { name := "rupStays", fn := fun _ => fun
  | [d1, d2, d3] => { results := [.lit (.bool false)], args := [d1, d2, d3] }
  | _ => none }
def RupStaysWrongFalsely : Prop := rupStaysRow.holds Tryd.pinned (OpenSpec.ofChange rupStaysWrong)

/-- 'trammellaw07.RupRight': WHATEVER THE INPUT: true; the input reads as it did. -/
def rupRightSpec : ChangeSpec := { name := "rupRight", fn := fun _ => fun
  | [d1, d2, d3, d4] => { results := [.lit (.bool true)], args := [d1, d2, d3, d4] }
  | _ => none }
def rupRightRow : OpenClaim := { program := "ytbbcodpoiikkdaadoor", sum := "2f2de3d771a401dff95c7de67fd581a638d26fb40313448e93c07572c4fc899c", func := "trammel/trammellaw07.RupRight", spec := "rupRight", inPlace := ["internal/reflectlite.ValueOf", "(internal/reflectlite.Value).Type", "(internal/reflectlite.Value).IsNil", "internal/reflectlite.TypeOf", "(internal/reflectlite.Value).Elem", "(internal/reflectlite.Value).Set"], unfollowed := true, recurses := true, named := ["errors.errorType"], apart := false, laid := [("errors.errorType", laid_errors_errorType)] }
def RupRightSaid : Prop := rupRightRow.holds Tryd.pinned (OpenSpec.ofChange rupRightSpec)

/-- ITS FALSE NEIGHBOUR: 'it returns false'. Refute it at one input. -/
def rupRightWrong : ChangeSpec := { name := "rupRight", fn := fun _ => fun
  | [d1, d2, d3, d4] => { results := [.lit (.bool false)], args := [d1, d2, d3, d4] }
  | _ => none }
def RupRightWrongFalsely : Prop := rupRightRow.holds Tryd.pinned (OpenSpec.ofChange rupRightWrong)

/- THE SECOND FORM. 'bulk': how many values and letters a reading holds, each counted each time it is reached (what is shared counts as often as it is met; a slice's spare places count too). A statement '..UptoSaid' is the law's where the arguments, and the package variables that the reading takes, are together of bulk at most 1048576: NARROWER than '..Said'. Prove '..Said' where nothing that the law and all that it calls make is longer than what came in: it says more and counts as full. Else prove '..UptoSaid'. A law counts once. -/
mutual
def uptoBulk {H : Type} : DataW H → Nat
  | .lit (.string bytes) => bytes.length + 1
  | .lit _ => 1
  | .nil => 1
  | .ptr d => uptoBulk d + 1
  | .slice elems spare => uptoBulkAll elems + uptoBulkAll spare + 1
  | .agg parts => uptoBulkAll parts + 1
  | .iface _ d => uptoBulk d + 1
  | .map entries => uptoBulkEntries entries + 1
  | .held _ => 1
def uptoBulkAll {H : Type} : List (DataW H) → Nat
  | [] => 0
  | d :: r => uptoBulk d + uptoBulkAll r
def uptoBulkEntries {H : Type} : List (Lit × DataW H) → Nat
  | [] => 0
  | x :: r => uptoBulkEntry x + uptoBulkEntries r
def uptoBulkEntry {H : Type} : Lit × DataW H → Nat
  | (.string bytes, d) => bytes.length + uptoBulk d + 1
  | (_, d) => uptoBulk d + 1
 end
def uptoSmall : (H : Type) → List (DataW H) → Bool := fun _ ds => decide (uptoBulkAll ds ≤ 1048576)
def OpenSpec.upto (s : _root_.Go.ChangeSpec) : _root_.Go.OpenSpec := { _root_.Go.OpenSpec.ofChange s with cond := some uptoSmall }

/-- 'trammellaw07.RupChecks', WHERE WHAT IT READS IS OF BULK AT MOST 1048576: true; the input reads as it did. -/
def rupChecksUptoRow : OpenClaim := { program := "ytbbcodpoiikkdaadoor", sum := "2f2de3d771a401dff95c7de67fd581a638d26fb40313448e93c07572c4fc899c", func := "trammel/trammellaw07.RupChecks", spec := "rupChecks", inPlace := ["internal/reflectlite.ValueOf", "(internal/reflectlite.Value).Type", "(internal/reflectlite.Value).IsNil", "internal/reflectlite.TypeOf", "(internal/reflectlite.Value).Elem", "(internal/reflectlite.Value).Set"], unfollowed := true, recurses := true, named := ["errors.errorType"], apart := false, laid := [("errors.errorType", laid_errors_errorType)], narrowed := true }
def RupChecksUptoSaid : Prop := rupChecksUptoRow.holds Tryd.pinned (OpenSpec.upto rupChecksSpec)

/-- 'trammellaw07.RupNone', WHERE WHAT IT READS IS OF BULK AT MOST 1048576: true; the input reads as it did. -/
def rupNoneUptoRow : OpenClaim := { program := "ytbbcodpoiikkdaadoor", sum := "2f2de3d771a401dff95c7de67fd581a638d26fb40313448e93c07572c4fc899c", func := "trammel/trammellaw07.RupNone", spec := "rupNone", inPlace := ["internal/reflectlite.ValueOf", "(internal/reflectlite.Value).Type", "(internal/reflectlite.Value).IsNil", "internal/reflectlite.TypeOf", "(internal/reflectlite.Value).Elem", "(internal/reflectlite.Value).Set"], unfollowed := true, recurses := true, named := ["errors.errorType"], apart := false, laid := [("errors.errorType", laid_errors_errorType)], narrowed := true }
def RupNoneUptoSaid : Prop := rupNoneUptoRow.holds Tryd.pinned (OpenSpec.upto rupNoneSpec)

/-- 'trammellaw07.RupStays', WHERE WHAT IT READS IS OF BULK AT MOST 1048576: true; the input reads as it did. -/
def rupStaysUptoRow : OpenClaim := { program := "ytbbcodpoiikkdaadoor", sum := "2f2de3d771a401dff95c7de67fd581a638d26fb40313448e93c07572c4fc899c", func := "trammel/trammellaw07.RupStays", spec := "rupStays", inPlace := ["internal/reflectlite.ValueOf", "(internal/reflectlite.Value).Type", "(internal/reflectlite.Value).IsNil", "internal/reflectlite.TypeOf", "(internal/reflectlite.Value).Elem", "(internal/reflectlite.Value).Set"], unfollowed := true, recurses := true, named := ["errors.errorType"], apart := false, laid := [("errors.errorType", laid_errors_errorType)], narrowed := true }
def RupStaysUptoSaid : Prop := rupStaysUptoRow.holds Tryd.pinned (OpenSpec.upto rupStaysSpec)

/-- 'trammellaw07.RupRight', WHERE WHAT IT READS IS OF BULK AT MOST 1048576: true; the input reads as it did. -/
def rupRightUptoRow : OpenClaim := { program := "ytbbcodpoiikkdaadoor", sum := "2f2de3d771a401dff95c7de67fd581a638d26fb40313448e93c07572c4fc899c", func := "trammel/trammellaw07.RupRight", spec := "rupRight", inPlace := ["internal/reflectlite.ValueOf", "(internal/reflectlite.Value).Type", "(internal/reflectlite.Value).IsNil", "internal/reflectlite.TypeOf", "(internal/reflectlite.Value).Elem", "(internal/reflectlite.Value).Set"], unfollowed := true, recurses := true, named := ["errors.errorType"], apart := false, laid := [("errors.errorType", laid_errors_errorType)], narrowed := true }
def RupRightUptoSaid : Prop := rupRightUptoRow.holds Tryd.pinned (OpenSpec.upto rupRightSpec)

end Rows
end Go.Proofs.YtbbcodpoiikkdaaDoor
