/-
  No cell of these rows narrows 'for every input' (looked for: loops, veiled, ifaces, maps, wideKeys, modest, calm, conditions, laid).
  DERIVED. THE GIVEN ROWS OF THIS SEAT. 6 by the template 'for every input the law returns true; each argument reads behind the call as it read before'; 0 by the template 'total and deterministic' (their statements: YtcapcghaihmfeaaTotals.lean).
  GIVEN WITH THE SEED: the statements are not yours to turn. If you find one false, say at which input.
  Laid BY PROGRAM, IN A SANDBOX (cutbox-rows.mjs): the forced cells as the released guide's own fill.sh prints them over the translation 22809b838c7bcc01… (all of the seat's roots in one cut). By AI agents, Wed Nov 11 2026. No macro, syntax, notation, axiom, sorry.
-/
import Derived.Test.YtcapcghaihmfeaaChecked
import GoSem.Claim
import GoSem.ClaimJoined
import GoSem.ClaimMapViews
import Derived.JoinedTies
import Derived.KernelRfl
namespace Go.Proofs.Ytcapcghaihmfeaa
/- THE CELL 'sum', in the pinned program and in every row, IS THE sha256 OF THE DUMP (.gsa) THAT YtcapcghaihmfeaaProg.lean LOADS. Nothing in Lean hashes anything: it is a label: what it is worth is what the hold of that sum in a sandbox is worth. -/
noncomputable def Try.pinned : Pinned := { name := "ytcapcghaihmfeaa", sum := "22809b838c7bcc01544169d87dc00432214da93e91d29d5a07351ca6e4554a68", checked := Try.checked }
namespace Rows
def none {H : Type} : Left H := { results := [], args := [] }

/-- 'trammellaw06.PropLong': WHATEVER THE INPUT: true; the input reads as it did. -/
def propLongSpec : ChangeSpec := { name := "propLong", fn := fun _ => fun
  | [d1, d2] => { results := [.lit (.bool true)], args := [d1, d2] }
  | _ => none }
def propLongRow : OpenClaim := { program := "ytcapcghaihmfeaa", sum := "22809b838c7bcc01544169d87dc00432214da93e91d29d5a07351ca6e4554a68", func := "trammel/trammellaw06.PropLong", spec := "propLong", unfollowed := true, recurses := true, apart := false }
def PropLongSaid : Prop := propLongRow.holds Try.pinned (OpenSpec.ofChange propLongSpec)

/-- ITS FALSE NEIGHBOUR: 'it returns false'. Refute it at one input. -/
def propLongWrong : ChangeSpec := { name := "propLong", fn := fun _ => fun
  | [d1, d2] => { results := [.lit (.bool false)], args := [d1, d2] }
  | _ => none }
def PropLongWrongFalsely : Prop := propLongRow.holds Try.pinned (OpenSpec.ofChange propLongWrong)

/-- 'trammellaw06.PropFollows': WHATEVER THE INPUT: true; the input reads as it did. -/
def propFollowsSpec : ChangeSpec := { name := "propFollows", fn := fun _ => fun
  | [d1, d2, d3] => { results := [.lit (.bool true)], args := [d1, d2, d3] }
  | _ => none }
def propFollowsRow : OpenClaim := { program := "ytcapcghaihmfeaa", sum := "22809b838c7bcc01544169d87dc00432214da93e91d29d5a07351ca6e4554a68", func := "trammel/trammellaw06.PropFollows", spec := "propFollows", unfollowed := true, recurses := true, apart := false }
def PropFollowsSaid : Prop := propFollowsRow.holds Try.pinned (OpenSpec.ofChange propFollowsSpec)

/-- ITS FALSE NEIGHBOUR: 'it returns false'. Refute it at one input. -/
def propFollowsWrong : ChangeSpec := { name := "propFollows", fn := fun _ => fun
  | [d1, d2, d3] => { results := [.lit (.bool false)], args := [d1, d2, d3] }
  | _ => none }
def PropFollowsWrongFalsely : Prop := propFollowsRow.holds Try.pinned (OpenSpec.ofChange propFollowsWrong)

/-- 'trammellaw06.PropOrder': WHATEVER THE INPUT: true; the input reads as it did. -/
def propOrderSpec : ChangeSpec := { name := "propOrder", fn := fun _ => fun
  | [d1, d2, d3] => { results := [.lit (.bool true)], args := [d1, d2, d3] }
  | _ => none }
def propOrderRow : OpenClaim := { program := "ytcapcghaihmfeaa", sum := "22809b838c7bcc01544169d87dc00432214da93e91d29d5a07351ca6e4554a68", func := "trammel/trammellaw06.PropOrder", spec := "propOrder", unfollowed := true, recurses := true, apart := false }
def PropOrderSaid : Prop := propOrderRow.holds Try.pinned (OpenSpec.ofChange propOrderSpec)

/-- ITS FALSE NEIGHBOUR: 'it returns false'. Refute it at one input. -/
def propOrderWrong : ChangeSpec := { name := "propOrder", fn := fun _ => fun
  | [d1, d2, d3] => { results := [.lit (.bool false)], args := [d1, d2, d3] }
  | _ => none }
def PropOrderWrongFalsely : Prop := propOrderRow.holds Try.pinned (OpenSpec.ofChange propOrderWrong)

/-- 'trammellaw06.PropStays': WHATEVER THE INPUT: true; the input reads as it did. -/
def propStaysSpec : ChangeSpec := { name := "propStays", fn := fun _ => fun
  | [d1, d2, d3] => { results := [.lit (.bool true)], args := [d1, d2, d3] }
  | _ => none }
def propStaysRow : OpenClaim := { program := "ytcapcghaihmfeaa", sum := "22809b838c7bcc01544169d87dc00432214da93e91d29d5a07351ca6e4554a68", func := "trammel/trammellaw06.PropStays", spec := "propStays", unfollowed := true, recurses := true, apart := false }
def PropStaysSaid : Prop := propStaysRow.holds Try.pinned (OpenSpec.ofChange propStaysSpec)

/-- ITS FALSE NEIGHBOUR: 'it returns false'. Refute it at one input. -/
def propStaysWrong : ChangeSpec := { name := "propStays", fn := fun _ => fun
  | [d1, d2, d3] => { results := [.lit (.bool false)], args := [d1, d2, d3] }
  | _ => none }
def PropStaysWrongFalsely : Prop := propStaysRow.holds Try.pinned (OpenSpec.ofChange propStaysWrong)

/-- 'trammellaw06.PropChecks': WHATEVER THE INPUT: true; the input reads as it did. -/
def propChecksSpec : ChangeSpec := { name := "propChecks", fn := fun _ => fun
  | [d1, d2, d3] => { results := [.lit (.bool true)], args := [d1, d2, d3] }
  | _ => none }
def propChecksRow : OpenClaim := { program := "ytcapcghaihmfeaa", sum := "22809b838c7bcc01544169d87dc00432214da93e91d29d5a07351ca6e4554a68", func := "trammel/trammellaw06.PropChecks", spec := "propChecks", unfollowed := true, recurses := true, apart := false }
def PropChecksSaid : Prop := propChecksRow.holds Try.pinned (OpenSpec.ofChange propChecksSpec)

/-- ITS FALSE NEIGHBOUR: 'it returns false'. Refute it at one input. -/
def propChecksWrong : ChangeSpec := { name := "propChecks", fn := fun _ => fun
  | [d1, d2, d3] => { results := [.lit (.bool false)], args := [d1, d2, d3] }
  | _ => none }
def PropChecksWrongFalsely : Prop := propChecksRow.holds Try.pinned (OpenSpec.ofChange propChecksWrong)

/-- 'trammellaw06.PropRight': WHATEVER THE INPUT: true; the input reads as it did. -/
def propRightSpec : ChangeSpec := { name := "propRight", fn := fun _ => fun
  | [d1, d2, d3, d4] => { results := [.lit (.bool true)], args := [d1, d2, d3, d4] }
  | _ => none }
def propRightRow : OpenClaim := { program := "ytcapcghaihmfeaa", sum := "22809b838c7bcc01544169d87dc00432214da93e91d29d5a07351ca6e4554a68", func := "trammel/trammellaw06.PropRight", spec := "propRight", unfollowed := true, recurses := true, apart := false }
def PropRightSaid : Prop := propRightRow.holds Try.pinned (OpenSpec.ofChange propRightSpec)

/-- ITS FALSE NEIGHBOUR: 'it returns false'. Refute it at one input. -/
def propRightWrong : ChangeSpec := { name := "propRight", fn := fun _ => fun
  | [d1, d2, d3, d4] => { results := [.lit (.bool false)], args := [d1, d2, d3, d4] }
  | _ => none }
def PropRightWrongFalsely : Prop := propRightRow.holds Try.pinned (OpenSpec.ofChange propRightWrong)

/- THE SECOND FORM. 'bulk': how many values and letters a reading holds, each counted each time it is reached (what is shared counts as often as it is met; a slice's spare places count too). A statement '..UptoSaid' is the law's where the arguments, and the package variables that the reading takes, are together of bulk at most 1048576: NARROWER than '..Said'. Prove '..Said' where nothing that the law and all that it calls make is longer than what came in: it says more and counts as full. Else prove '..UptoSaid'. A law counts once. -/
mutual
def uptoBulk {H : Type} : DataW H → Nat
  | .lit (.string bytes) => bytes.length + 1
  | .lit _ => 1
  | .nil => 1
  | .ptr d => uptoBulk d + 1
  | .slice elems spare => uptoBulkAll elems + uptoBulkAll spare + 1
  | .agg parts => uptoBulkAll parts + 1
  | .iface _ d => uptoBulk d + 1
  | .map entries => uptoBulkEntries entries + 1
  | .held _ => 1
def uptoBulkAll {H : Type} : List (DataW H) → Nat
  | [] => 0
  | d :: r => uptoBulk d + uptoBulkAll r
def uptoBulkEntries {H : Type} : List (Lit × DataW H) → Nat
  | [] => 0
  | x :: r => uptoBulkEntry x + uptoBulkEntries r
def uptoBulkEntry {H : Type} : Lit × DataW H → Nat
  | (.string bytes, d) => bytes.length + uptoBulk d + 1
  | (_, d) => uptoBulk d + 1
 end
def uptoSmall : (H : Type) → List (DataW H) → Bool := fun _ ds => decide (uptoBulkAll ds ≤ 1048576)
def OpenSpec.upto (s : _root_.Go.ChangeSpec) : _root_.Go.OpenSpec := { _root_.Go.OpenSpec.ofChange s with cond := some uptoSmall }

/-- 'trammellaw06.PropLong', WHERE WHAT IT READS IS OF BULK AT MOST 1048576: true; the input reads as it did. -/
def propLongUptoRow : OpenClaim := { program := "ytcapcghaihmfeaa", sum := "22809b838c7bcc01544169d87dc00432214da93e91d29d5a07351ca6e4554a68", func := "trammel/trammellaw06.PropLong", spec := "propLong", unfollowed := true, recurses := true, apart := false, narrowed := true }
def PropLongUptoSaid : Prop := propLongUptoRow.holds Try.pinned (OpenSpec.upto propLongSpec)

/-- 'trammellaw06.PropFollows', WHERE WHAT IT READS IS OF BULK AT MOST 1048576: true; the input reads as it did. -/
def propFollowsUptoRow : OpenClaim := { program := "ytcapcghaihmfeaa", sum := "22809b838c7bcc01544169d87dc00432214da93e91d29d5a07351ca6e4554a68", func := "trammel/trammellaw06.PropFollows", spec := "propFollows", unfollowed := true, recurses := true, apart := false, narrowed := true }
def PropFollowsUptoSaid : Prop := propFollowsUptoRow.holds Try.pinned (OpenSpec.upto propFollowsSpec)

/-- 'trammellaw06.PropOrder', WHERE WHAT IT READS IS OF BULK AT MOST 1048576: true; the input reads as it did. -/
def propOrderUptoRow : OpenClaim := { program := "ytcapcghaihmfeaa", sum := "22809b838c7bcc01544169d87dc00432214da93e91d29d5a07351ca6e4554a68", func := "trammel/trammellaw06.PropOrder", spec := "propOrder", unfollowed := true, recurses := true, apart := false, narrowed := true }
def PropOrderUptoSaid : Prop := propOrderUptoRow.holds Try.pinned (OpenSpec.upto propOrderSpec)

/-- 'trammellaw06.PropStays', WHERE WHAT IT READS IS OF BULK AT MOST 1048576: true; the input reads as it did. -/
def propStaysUptoRow : OpenClaim := { program := "ytcapcghaihmfeaa", sum := "22809b838c7bcc01544169d87dc00432214da93e91d29d5a07351ca6e4554a68", func := "trammel/trammellaw06.PropStays", spec := "propStays", unfollowed := true, recurses := true, apart := false, narrowed := true }
def PropStaysUptoSaid : Prop := propStaysUptoRow.holds Try.pinned (OpenSpec.upto propStaysSpec)

/-- 'trammellaw06.PropChecks', WHERE WHAT IT READS IS OF BULK AT MOST 1048576: true; the input reads as it did. -/
def propChecksUptoRow : OpenClaim := { program := "ytcapcghaihmfeaa", sum := "22809b838c7bcc01544169d87dc00432214da93e91d29d5a07351ca6e4554a68", func := "trammel/trammellaw06.PropChecks", spec := "propChecks", unfollowed := true, recurses := true, apart := false, narrowed := true }
def PropChecksUptoSaid : Prop := propChecksUptoRow.holds Try.pinned (OpenSpec.upto propChecksSpec)

/-- 'trammellaw06.PropRight', WHERE WHAT IT READS IS OF BULK AT MOST 1048576: true; the input reads as it did. -/
def propRightUptoRow : OpenClaim := { program := "ytcapcghaihmfeaa", sum := "22809b838c7bcc01544169d87dc00432214da93e91d29d5a07351ca6e4554a68", func := "trammel/trammellaw06.PropRight", spec := "propRight", unfollowed := true, recurses := true, apart := false, narrowed := true }
def PropRightUptoSaid : Prop := propRightUptoRow.holds Try.pinned (OpenSpec.upto propRightSpec)

end Rows
end Go.Proofs.Ytcapcghaihmfeaa
