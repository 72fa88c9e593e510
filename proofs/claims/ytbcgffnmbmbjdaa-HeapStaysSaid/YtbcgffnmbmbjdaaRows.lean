/-
  No cell of these rows narrows 'for every input' (looked for: loops, veiled, ifaces, maps, wideKeys, modest, calm, conditions, laid).
  DERIVED. THE GIVEN ROWS OF THIS SEAT. 5 by the template 'for every input the law returns true; each argument reads behind the call as it read before'; 0 by the template 'total and deterministic' (their statements: YtbcgffnmbmbjdaaTotals.lean).
  GIVEN WITH THE SEED: the statements are not yours to turn. If you find one false, say at which input.
  Laid BY PROGRAM, IN A SANDBOX (cutbox-rows.mjs): the forced cells as the released guide's own fill.sh prints them over the translation 1aabfdc5f61b0640… (all of the seat's roots in one cut). By AI agents, Wed Nov 11 2026. No macro, syntax, notation, axiom, sorry.
-/
import Derived.Test.YtbcgffnmbmbjdaaChecked
import GoSem.Claim
import GoSem.ClaimJoined
import GoSem.ClaimMapViews
import Derived.JoinedTies
import Derived.KernelRfl
namespace Go.Proofs.Ytbcgffnmbmbjdaa
/- THE CELL 'sum', in the pinned program and in every row, IS THE sha256 OF THE DUMP (.gsa) THAT YtbcgffnmbmbjdaaProg.lean LOADS. Nothing in Lean hashes anything: it is a label: what it is worth is what the hold of that sum in a sandbox is worth. -/
noncomputable def Try.pinned : Pinned := { name := "ytbcgffnmbmbjdaa", sum := "1aabfdc5f61b0640261fac434221d251ee37def28d45b943b7e9bedd438b08e8", checked := Try.checked }
namespace Rows
def none {H : Type} : Left H := { results := [], args := [] }

/-- 'trammellaw17.HeapJoins': WHATEVER THE INPUT: true; the input reads as it did. -/
def heapJoinsSpec : ChangeSpec := { name := "heapJoins", fn := fun _ => fun
  | [d1, d2] => { results := [.lit (.bool true)], args := [d1, d2] }
  | _ => none }
def heapJoinsRow : OpenClaim := { program := "ytbcgffnmbmbjdaa", sum := "1aabfdc5f61b0640261fac434221d251ee37def28d45b943b7e9bedd438b08e8", func := "trammel/trammellaw17.HeapJoins", spec := "heapJoins", inPlace := ["slices.overlaps[trammel/api.Cell]"], unfollowed := true, recurses := true, apart := false }
def HeapJoinsSaid : Prop := heapJoinsRow.holds Try.pinned (OpenSpec.ofChange heapJoinsSpec)

/-- ITS FALSE NEIGHBOUR: 'it returns false'. Refute it at one input. -/
def heapJoinsWrong : ChangeSpec := { name := "heapJoins", fn := fun _ => fun
  | [d1, d2] => { results := [.lit (.bool false)], args := [d1, d2] }
  | _ => none }
def HeapJoinsWrongFalsely : Prop := heapJoinsRow.holds Try.pinned (OpenSpec.ofChange heapJoinsWrong)

/-- 'trammellaw17.HeapChecks': WHATEVER THE INPUT: true; the input reads as it did. -/
def heapChecksSpec : ChangeSpec := { name := "heapChecks", fn := fun _ => fun
  | [d] => { results := [.lit (.bool true)], args := [d] }
  | _ => none }
def heapChecksRow : OpenClaim := { program := "ytbcgffnmbmbjdaa", sum := "1aabfdc5f61b0640261fac434221d251ee37def28d45b943b7e9bedd438b08e8", func := "trammel/trammellaw17.HeapChecks", spec := "heapChecks", inPlace := ["slices.overlaps[trammel/api.Cell]"], unfollowed := true, recurses := true, apart := false }
def HeapChecksSaid : Prop := heapChecksRow.holds Try.pinned (OpenSpec.ofChange heapChecksSpec)

/-- ITS FALSE NEIGHBOUR: 'it returns false'. Refute it at one input. -/
def heapChecksWrong : ChangeSpec := { name := "heapChecks", fn := fun _ => fun
  | [d] => { results := [.lit (.bool false)], args := [d] }
  | _ => none }
def HeapChecksWrongFalsely : Prop := heapChecksRow.holds Try.pinned (OpenSpec.ofChange heapChecksWrong)

/-- 'trammellaw17.HeapStays': WHATEVER THE INPUT: true; the input reads as it did. -/
def heapStaysSpec : ChangeSpec := { name := "heapStays", fn := fun _ => fun
  | [d1, d2, d3, d4] => { results := [.lit (.bool true)], args := [d1, d2, d3, d4] }
  | _ => none }
def heapStaysRow : OpenClaim := { program := "ytbcgffnmbmbjdaa", sum := "1aabfdc5f61b0640261fac434221d251ee37def28d45b943b7e9bedd438b08e8", func := "trammel/trammellaw17.HeapStays", spec := "heapStays", inPlace := ["slices.overlaps[trammel/api.Cell]"], unfollowed := true, recurses := true, apart := false }
def HeapStaysSaid : Prop := heapStaysRow.holds Try.pinned (OpenSpec.ofChange heapStaysSpec)

/-- ITS FALSE NEIGHBOUR: 'it returns false'. Refute it at one input. -/
def heapStaysWrong : ChangeSpec := { name := "heapStays", fn := fun _ => fun
  | [d1, d2, d3, d4] => { results := [.lit (.bool false)], args := [d1, d2, d3, d4] }
  | _ => none }
def HeapStaysWrongFalsely : Prop := heapStaysRow.holds Try.pinned (OpenSpec.ofChange heapStaysWrong)

/-- 'trammellaw17.HeapDoes': WHATEVER THE INPUT: true; the input reads as it did. -/
def heapDoesSpec : ChangeSpec := { name := "heapDoes", fn := fun _ => fun
  | [d1, d2, d3, d4] => { results := [.lit (.bool true)], args := [d1, d2, d3, d4] }
  | _ => none }
def heapDoesRow : OpenClaim := { program := "ytbcgffnmbmbjdaa", sum := "1aabfdc5f61b0640261fac434221d251ee37def28d45b943b7e9bedd438b08e8", func := "trammel/trammellaw17.HeapDoes", spec := "heapDoes", inPlace := ["slices.overlaps[trammel/api.Cell]"], unfollowed := true, recurses := true, apart := false }
def HeapDoesSaid : Prop := heapDoesRow.holds Try.pinned (OpenSpec.ofChange heapDoesSpec)

/-- ITS FALSE NEIGHBOUR: 'it returns false'. Refute it at one input. -/
def heapDoesWrong : ChangeSpec := { name := "heapDoes", fn := fun _ => fun
  | [d1, d2, d3, d4] => { results := [.lit (.bool false)], args := [d1, d2, d3, d4] }
  | _ => none }
def HeapDoesWrongFalsely : Prop := heapDoesRow.holds Try.pinned (OpenSpec.ofChange heapDoesWrong)

/-- 'trammellaw17.HeapKeeps': WHATEVER THE INPUT: true; the input reads as it did. -/
def heapKeepsSpec : ChangeSpec := { name := "heapKeeps", fn := fun _ => fun
  | [d1, d2, d3, d4, d5, d6] => { results := [.lit (.bool true)], args := [d1, d2, d3, d4, d5, d6] }
  | _ => none }
def heapKeepsRow : OpenClaim := { program := "ytbcgffnmbmbjdaa", sum := "1aabfdc5f61b0640261fac434221d251ee37def28d45b943b7e9bedd438b08e8", func := "trammel/trammellaw17.HeapKeeps", spec := "heapKeeps", inPlace := ["slices.overlaps[trammel/api.Cell]"], unfollowed := true, recurses := true, apart := false }
def HeapKeepsSaid : Prop := heapKeepsRow.holds Try.pinned (OpenSpec.ofChange heapKeepsSpec)

/-- ITS FALSE NEIGHBOUR: 'it returns false'. Refute it at one input. -/
def heapKeepsWrong : ChangeSpec := { name := "heapKeeps", fn := fun _ => fun
  | [d1, d2, d3, d4, d5, d6] => { results := [.lit (.bool false)], args := [d1, d2, d3, d4, d5, d6] }
  | _ => none }
def HeapKeepsWrongFalsely : Prop := heapKeepsRow.holds Try.pinned (OpenSpec.ofChange heapKeepsWrong)

/- THE SECOND FORM. 'bulk': how many values and letters a reading holds, each counted each time it is reached (what is shared counts as often as it is met; a slice's spare places count too). A statement '..UptoSaid' is the law's where the arguments, and the package variables that the reading takes, are together of bulk at most 1048576: NARROWER than '..Said'. Prove '..Said' where nothing that the law and all that it calls make is longer than what came in: it says more and counts as full. Else prove '..UptoSaid'. A law counts once. -/
mutual
def uptoBulk {H : Type} : DataW H → Nat
  | .lit (.string bytes) => bytes.length + 1
  | .lit _ => 1
  | .nil => 1
  | .ptr d => uptoBulk d + 1
  | .slice elems spare => uptoBulkAll elems + uptoBulkAll spare + 1
  | .agg parts => uptoBulkAll parts + 1
  | .iface _ d => uptoBulk d + 1
  | .map entries => uptoBulkEntries entries + 1
  | .held _ => 1
def uptoBulkAll {H : Type} : List (DataW H) → Nat
  | [] => 0
  | d :: r => uptoBulk d + uptoBulkAll r
def uptoBulkEntries {H : Type} : List (Lit × DataW H) → Nat
  | [] => 0
  | x :: r => uptoBulkEntry x + uptoBulkEntries r
def uptoBulkEntry {H : Type} : Lit × DataW H → Nat
  | (.string bytes, d) => bytes.length + uptoBulk d + 1
  | (_, d) => uptoBulk d + 1
 end
def uptoSmall : (H : Type) → List (DataW H) → Bool := fun _ ds => decide (uptoBulkAll ds ≤ 1048576)
def OpenSpec.upto (s : _root_.Go.ChangeSpec) : _root_.Go.OpenSpec := { _root_.Go.OpenSpec.ofChange s with cond := some uptoSmall }

/-- 'trammellaw17.HeapJoins', WHERE WHAT IT READS IS OF BULK AT MOST 1048576: true; the input reads as it did. -/
def heapJoinsUptoRow : OpenClaim := { program := "ytbcgffnmbmbjdaa", sum := "1aabfdc5f61b0640261fac434221d251ee37def28d45b943b7e9bedd438b08e8", func := "trammel/trammellaw17.HeapJoins", spec := "heapJoins", inPlace := ["slices.overlaps[trammel/api.Cell]"], unfollowed := true, recurses := true, apart := false, narrowed := true }
def HeapJoinsUptoSaid : Prop := heapJoinsUptoRow.holds Try.pinned (OpenSpec.upto heapJoinsSpec)

/-- 'trammellaw17.HeapChecks', WHERE WHAT IT READS IS OF BULK AT MOST 1048576: true; the input reads as it did. -/
def heapChecksUptoRow : OpenClaim := { program := "ytbcgffnmbmbjdaa", sum := "1aabfdc5f61b0640261fac434221d251ee37def28d45b943b7e9bedd438b08e8", func := "trammel/trammellaw17.HeapChecks", spec := "heapChecks", inPlace := ["slices.overlaps[trammel/api.Cell]"], unfollowed := true, recurses := true, apart := false, narrowed := true }
def HeapChecksUptoSaid : Prop := heapChecksUptoRow.holds Try.pinned (OpenSpec.upto heapChecksSpec)

/-- 'trammellaw17.HeapStays', WHERE WHAT IT READS IS OF BULK AT MOST 1048576: true; the input reads as it did. -/
def heapStaysUptoRow : OpenClaim := { program := "ytbcgffnmbmbjdaa", sum := "1aabfdc5f61b0640261fac434221d251ee37def28d45b943b7e9bedd438b08e8", func := "trammel/trammellaw17.HeapStays", spec := "heapStays", inPlace := ["slices.overlaps[trammel/api.Cell]"], unfollowed := true, recurses := true, apart := false, narrowed := true }
def HeapStaysUptoSaid : Prop := heapStaysUptoRow.holds Try.pinned (OpenSpec.upto heapStaysSpec)

/-- 'trammellaw17.HeapDoes', WHERE WHAT IT READS IS OF BULK AT MOST 1048576: true; the input reads as it did. -/
def heapDoesUptoRow : OpenClaim := { program := "ytbcgffnmbmbjdaa", sum := "1aabfdc5f61b0640261fac434221d251ee37def28d45b943b7e9bedd438b08e8", func := "trammel/trammellaw17.HeapDoes", spec := "heapDoes", inPlace := ["slices.overlaps[trammel/api.Cell]"], unfollowed := true, recurses := true, apart := false, narrowed := true }
def HeapDoesUptoSaid : Prop := heapDoesUptoRow.holds Try.pinned (OpenSpec.upto heapDoesSpec)

/-- 'trammellaw17.HeapKeeps', WHERE WHAT IT READS IS OF BULK AT MOST 1048576: true; the input reads as it did. -/
def heapKeepsUptoRow : OpenClaim := { program := "ytbcgffnmbmbjdaa", sum := "1aabfdc5f61b0640261fac434221d251ee37def28d45b943b7e9bedd438b08e8", func := "trammel/trammellaw17.HeapKeeps", spec := "heapKeeps", inPlace := ["slices.overlaps[trammel/api.Cell]"], unfollowed := true, recurses := true, apart := false, narrowed := true }
def HeapKeepsUptoSaid : Prop := heapKeepsUptoRow.holds Try.pinned (OpenSpec.upto heapKeepsSpec)

end Rows
end Go.Proofs.Ytbcgffnmbmbjdaa
