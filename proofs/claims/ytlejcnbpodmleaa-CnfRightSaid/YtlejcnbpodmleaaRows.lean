/-
  NARROWER THAN 'FOR EVERY INPUT', by the rows' own cells (each row's printed sentence says how): CnfMakes: loops · CnfStays: loops · CnfRight: loops.
  DERIVED. THE GIVEN ROWS OF THIS SEAT. 4 by the template 'for every input the law returns true; each argument reads behind the call as it read before'; 0 by the template 'total and deterministic' (their statements: YtlejcnbpodmleaaTotals.lean).
  GIVEN WITH THE SEED: the statements are not yours to turn. If you find one false, say at which input.
  Laid BY PROGRAM, IN A SANDBOX (cutbox-rows.mjs): the forced cells as the released guide's own fill.sh prints them over the translation 3d81e2cdd03cc009… (all of the seat's roots in one cut). By AI agents, Wed Nov 11 2026. No macro, syntax, notation, axiom, sorry.
-/
import Derived.Test.YtlejcnbpodmleaaChecked
import GoSem.Claim
import GoSem.ClaimJoined
import GoSem.ClaimMapViews
import Derived.JoinedTies
import Derived.KernelRfl
namespace Go.Proofs.Ytlejcnbpodmleaa
/- THE CELL 'sum', in the pinned program and in every row, IS THE sha256 OF THE DUMP (.gsa) THAT YtlejcnbpodmleaaProg.lean LOADS. Nothing in Lean hashes anything: it is a label: what it is worth is what the hold of that sum in a sandbox is worth. -/
noncomputable def Try.pinned : Pinned := { name := "ytlejcnbpodmleaa", sum := "3d81e2cdd03cc009b81ebb6d538e62768d62972abefec7369d577cefefb7bfd3", checked := Try.checked }
namespace Rows
def none {H : Type} : Left H := { results := [], args := [] }

/-- 'trammellaw09.CnfMakes': WHATEVER THE INPUT: true; the input reads as it did. -/
def cnfMakesSpec : ChangeSpec := { name := "cnfMakes", fn := fun _ => fun
  | [d] => { results := [.lit (.bool true)], args := [d] }
  | _ => none }
def cnfMakesRow : OpenClaim := { program := "ytlejcnbpodmleaa", sum := "3d81e2cdd03cc009b81ebb6d538e62768d62972abefec7369d577cefefb7bfd3", func := "trammel/trammellaw09.CnfMakes", spec := "cnfMakes", unfollowed := true, recurses := true, loops := true, apart := false }
def CnfMakesSaid : Prop := cnfMakesRow.holds Try.pinned (OpenSpec.ofChange cnfMakesSpec)

/-- ITS FALSE NEIGHBOUR: 'it returns false'. Refute it at one input. -/
def cnfMakesWrong : ChangeSpec := { name := "cnfMakes", fn := fun _ => fun
  | [d] => { results := [.lit (.bool false)], args := [d] }
  | _ => none }
def CnfMakesWrongFalsely : Prop := cnfMakesRow.holds Try.pinned (OpenSpec.ofChange cnfMakesWrong)

/-- 'trammellaw09.CnfLong': WHATEVER THE INPUT: true; the input reads as it did. -/
def cnfLongSpec : ChangeSpec := { name := "cnfLong", fn := fun _ => fun
  | [d] => { results := [.lit (.bool true)], args := [d] }
  | _ => none }
def cnfLongRow : OpenClaim := { program := "ytlejcnbpodmleaa", sum := "3d81e2cdd03cc009b81ebb6d538e62768d62972abefec7369d577cefefb7bfd3", func := "trammel/trammellaw09.CnfLong", spec := "cnfLong", unfollowed := true, recurses := true, apart := false }
def CnfLongSaid : Prop := cnfLongRow.holds Try.pinned (OpenSpec.ofChange cnfLongSpec)

/-- ITS FALSE NEIGHBOUR: 'it returns false'. Refute it at one input. -/
def cnfLongWrong : ChangeSpec := { name := "cnfLong", fn := fun _ => fun
  | [d] => { results := [.lit (.bool false)], args := [d] }
  | _ => none }
def CnfLongWrongFalsely : Prop := cnfLongRow.holds Try.pinned (OpenSpec.ofChange cnfLongWrong)

/-- 'trammellaw09.CnfStays': WHATEVER THE INPUT: true; the input reads as it did. -/
def cnfStaysSpec : ChangeSpec := { name := "cnfStays", fn := fun _ => fun
  | [d] => { results := [.lit (.bool true)], args := [d] }
  | _ => none }
def cnfStaysRow : OpenClaim := { program := "ytlejcnbpodmleaa", sum := "3d81e2cdd03cc009b81ebb6d538e62768d62972abefec7369d577cefefb7bfd3", func := "trammel/trammellaw09.CnfStays", spec := "cnfStays", unfollowed := true, recurses := true, loops := true, apart := false }
def CnfStaysSaid : Prop := cnfStaysRow.holds Try.pinned (OpenSpec.ofChange cnfStaysSpec)

/-- ITS FALSE NEIGHBOUR: 'it returns false'. Refute it at one input. -/
def cnfStaysWrong : ChangeSpec := { name := "cnfStays", fn := fun _ => fun
  | [d] => { results := [.lit (.bool false)], args := [d] }
  | _ => none }
def CnfStaysWrongFalsely : Prop := cnfStaysRow.holds Try.pinned (OpenSpec.ofChange cnfStaysWrong)

/-- 'trammellaw09.CnfRight': WHATEVER THE INPUT: true; the input reads as it did. -/
def cnfRightSpec : ChangeSpec := { name := "cnfRight", fn := fun _ => fun
  | [d1, d2] => { results := [.lit (.bool true)], args := [d1, d2] }
  | _ => none }
def cnfRightRow : OpenClaim := { program := "ytlejcnbpodmleaa", sum := "3d81e2cdd03cc009b81ebb6d538e62768d62972abefec7369d577cefefb7bfd3", func := "trammel/trammellaw09.CnfRight", spec := "cnfRight", unfollowed := true, recurses := true, loops := true, apart := false }
def CnfRightSaid : Prop := cnfRightRow.holds Try.pinned (OpenSpec.ofChange cnfRightSpec)

/-- ITS FALSE NEIGHBOUR: 'it returns false'. Refute it at one input. -/
def cnfRightWrong : ChangeSpec := { name := "cnfRight", fn := fun _ => fun
  | [d1, d2] => { results := [.lit (.bool false)], args := [d1, d2] }
  | _ => none }
def CnfRightWrongFalsely : Prop := cnfRightRow.holds Try.pinned (OpenSpec.ofChange cnfRightWrong)

/- THE SECOND FORM. 'bulk': how many values and letters a reading holds, each counted each time it is reached (what is shared counts as often as it is met; a slice's spare places count too). A statement '..UptoSaid' is the law's where the arguments, and the package variables that the reading takes, are together of bulk at most 1048576: NARROWER than '..Said'. Prove '..Said' where nothing that the law and all that it calls make is longer than what came in: it says more and counts as full. Else prove '..UptoSaid'. A law counts once. -/
mutual
def uptoBulk {H : Type} : DataW H → Nat
  | .lit (.string bytes) => bytes.length + 1
  | .lit _ => 1
  | .nil => 1
  | .ptr d => uptoBulk d + 1
  | .slice elems spare => uptoBulkAll elems + uptoBulkAll spare + 1
  | .agg parts => uptoBulkAll parts + 1
  | .iface _ d => uptoBulk d + 1
  | .map entries => uptoBulkEntries entries + 1
  | .held _ => 1
def uptoBulkAll {H : Type} : List (DataW H) → Nat
  | [] => 0
  | d :: r => uptoBulk d + uptoBulkAll r
def uptoBulkEntries {H : Type} : List (Lit × DataW H) → Nat
  | [] => 0
  | x :: r => uptoBulkEntry x + uptoBulkEntries r
def uptoBulkEntry {H : Type} : Lit × DataW H → Nat
  | (.string bytes, d) => bytes.length + uptoBulk d + 1
  | (_, d) => uptoBulk d + 1
 end
def uptoSmall : (H : Type) → List (DataW H) → Bool := fun _ ds => decide (uptoBulkAll ds ≤ 1048576)
def OpenSpec.upto (s : _root_.Go.ChangeSpec) : _root_.Go.OpenSpec := { _root_.Go.OpenSpec.ofChange s with cond := some uptoSmall }

/-- 'trammellaw09.CnfMakes', WHERE WHAT IT READS IS OF BULK AT MOST 1048576: true; the input reads as it did. -/
def cnfMakesUptoRow : OpenClaim := { program := "ytlejcnbpodmleaa", sum := "3d81e2cdd03cc009b81ebb6d538e62768d62972abefec7369d577cefefb7bfd3", func := "trammel/trammellaw09.CnfMakes", spec := "cnfMakes", unfollowed := true, recurses := true, loops := true, apart := false, narrowed := true }
def CnfMakesUptoSaid : Prop := cnfMakesUptoRow.holds Try.pinned (OpenSpec.upto cnfMakesSpec)

/-- 'trammellaw09.CnfLong', WHERE WHAT IT READS IS OF BULK AT MOST 1048576: true; the input reads as it did. -/
def cnfLongUptoRow : OpenClaim := { program := "ytlejcnbpodmleaa", sum := "3d81e2cdd03cc009b81ebb6d538e62768d62972abefec7369d577cefefb7bfd3", func := "trammel/trammellaw09.CnfLong", spec := "cnfLong", unfollowed := true, recurses := true, apart := false, narrowed := true }
def CnfLongUptoSaid : Prop := cnfLongUptoRow.holds Try.pinned (OpenSpec.upto cnfLongSpec)

/-- 'trammellaw09.CnfStays', WHERE WHAT IT READS IS OF BULK AT MOST 1048576: true; the input reads as it did. -/
def cnfStaysUptoRow : OpenClaim := { program := "ytlejcnbpodmleaa", sum := "3d81e2cdd03cc009b81ebb6d538e62768d62972abefec7369d577cefefb7bfd3", func := "trammel/trammellaw09.CnfStays", spec := "cnfStays", unfollowed := true, recurses := true, loops := true, apart := false, narrowed := true }
def CnfStaysUptoSaid : Prop := cnfStaysUptoRow.holds Try.pinned (OpenSpec.upto cnfStaysSpec)

/-- 'trammellaw09.CnfRight', WHERE WHAT IT READS IS OF BULK AT MOST 1048576: true; the input reads as it did. -/
def cnfRightUptoRow : OpenClaim := { program := "ytlejcnbpodmleaa", sum := "3d81e2cdd03cc009b81ebb6d538e62768d62972abefec7369d577cefefb7bfd3", func := "trammel/trammellaw09.CnfRight", spec := "cnfRight", unfollowed := true, recurses := true, loops := true, apart := false, narrowed := true }
def CnfRightUptoSaid : Prop := cnfRightUptoRow.holds Try.pinned (OpenSpec.upto cnfRightSpec)

end Rows
end Go.Proofs.Ytlejcnbpodmleaa
