/-
  No cell of these rows narrows 'for every input' (looked for: loops, veiled, ifaces, maps, wideKeys, modest, calm, conditions, laid).
  DERIVED. THE GIVEN ROWS OF THIS SEAT. 3 by the template 'for every input the law returns true; each argument reads behind the call as it read before'; 0 by the template 'total and deterministic' (their statements: YtiklknilnmkbmaaTotals.lean).
  GIVEN WITH THE SEED: the statements are not yours to turn. If you find one false, say at which input.
  Laid BY PROGRAM, IN A SANDBOX (cutbox-rows.mjs): the forced cells as the released guide's own fill.sh prints them over the translation c21bc6ab28276624… (all of the seat's roots in one cut). By AI agents, Wed Nov 11 2026. No macro, syntax, notation, axiom, sorry.
-/
import Derived.Test.YtiklknilnmkbmaaChecked
import GoSem.Claim
import GoSem.ClaimJoined
import GoSem.ClaimMapViews
import Derived.JoinedTies
import Derived.KernelRfl
namespace Go.Proofs.Ytiklknilnmkbmaa
/- THE CELL 'sum', in the pinned program and in every row, IS THE sha256 OF THE DUMP (.gsa) THAT YtiklknilnmkbmaaProg.lean LOADS. Nothing in Lean hashes anything: it is a label: what it is worth is what the hold of that sum in a sandbox is worth. -/
noncomputable def Try.pinned : Pinned := { name := "ytiklknilnmkbmaa", sum := "c21bc6ab282766243667cfdd973f553e810b22dc5b03f968a7651386b08b12a8", checked := Try.checked }
namespace Rows
def none {H : Type} : Left H := { results := [], args := [] }

/-- 'trammellaw08.SatSolves': WHATEVER THE INPUT: true; the input reads as it did. -/
def satSolvesSpec : ChangeSpec := { name := "satSolves", fn := fun _ => fun
  | [d1, d2, d3] => { results := [.lit (.bool true)], args := [d1, d2, d3] }
  | _ => none }
def satSolvesRow : OpenClaim := { program := "ytiklknilnmkbmaa", sum := "c21bc6ab282766243667cfdd973f553e810b22dc5b03f968a7651386b08b12a8", func := "trammel/trammellaw08.SatSolves", spec := "satSolves", unfollowed := true, recurses := true, apart := false }
def SatSolvesSaid : Prop := satSolvesRow.holds Try.pinned (OpenSpec.ofChange satSolvesSpec)

/-- ITS FALSE NEIGHBOUR: 'it returns false'. Refute it at one input. -/
def satSolvesWrong : ChangeSpec := { name := "satSolves", fn := fun _ => fun
  | [d1, d2, d3] => { results := [.lit (.bool false)], args := [d1, d2, d3] }
  | _ => none }
def SatSolvesWrongFalsely : Prop := satSolvesRow.holds Try.pinned (OpenSpec.ofChange satSolvesWrong)

/-- 'trammellaw08.SatDecides': WHATEVER THE INPUT: true; the input reads as it did. -/
def satDecidesSpec : ChangeSpec := { name := "satDecides", fn := fun _ => fun
  | [d1, d2] => { results := [.lit (.bool true)], args := [d1, d2] }
  | _ => none }
def satDecidesRow : OpenClaim := { program := "ytiklknilnmkbmaa", sum := "c21bc6ab282766243667cfdd973f553e810b22dc5b03f968a7651386b08b12a8", func := "trammel/trammellaw08.SatDecides", spec := "satDecides", unfollowed := true, recurses := true, apart := false }
def SatDecidesSaid : Prop := satDecidesRow.holds Try.pinned (OpenSpec.ofChange satDecidesSpec)

/-- ITS FALSE NEIGHBOUR: 'it returns false'. Refute it at one input. -/
def satDecidesWrong : ChangeSpec := { name := "satDecides", fn := fun _ => fun
  | [d1, d2] => { results := [.lit (.bool false)], args := [d1, d2] }
  | _ => none }
def SatDecidesWrongFalsely : Prop := satDecidesRow.holds Try.pinned (OpenSpec.ofChange satDecidesWrong)

/-- 'trammellaw08.SatNever': WHATEVER THE INPUT: true; the input reads as it did. -/
def satNeverSpec : ChangeSpec := { name := "satNever", fn := fun _ => fun
  | [d1, d2, d3, d4] => { results := [.lit (.bool true)], args := [d1, d2, d3, d4] }
  | _ => none }
def satNeverRow : OpenClaim := { program := "ytiklknilnmkbmaa", sum := "c21bc6ab282766243667cfdd973f553e810b22dc5b03f968a7651386b08b12a8", func := "trammel/trammellaw08.SatNever", spec := "satNever", unfollowed := true, recurses := true, apart := false }
def SatNeverSaid : Prop := satNeverRow.holds Try.pinned (OpenSpec.ofChange satNeverSpec)

/-- ITS FALSE NEIGHBOUR: 'it returns false'. Refute it at one input. -/
def satNeverWrong : ChangeSpec := { name := "satNever", fn := fun _ => fun
  | [d1, d2, d3, d4] => { results := [.lit (.bool false)], args := [d1, d2, d3, d4] }
  | _ => none }
def SatNeverWrongFalsely : Prop := satNeverRow.holds Try.pinned (OpenSpec.ofChange satNeverWrong)

/- THE SECOND FORM. 'bulk': how many values and letters a reading holds, each counted each time it is reached (what is shared counts as often as it is met; a slice's spare places count too). A statement '..UptoSaid' is the law's where the arguments, and the package variables that the reading takes, are together of bulk at most 1048576: NARROWER than '..Said'. Prove '..Said' where nothing that the law and all that it calls make is longer than what came in: it says more and counts as full. Else prove '..UptoSaid'. A law counts once. -/
mutual
def uptoBulk {H : Type} : DataW H → Nat
  | .lit (.string bytes) => bytes.length + 1
  | .lit _ => 1
  | .nil => 1
  | .ptr d => uptoBulk d + 1
  | .slice elems spare => uptoBulkAll elems + uptoBulkAll spare + 1
  | .agg parts => uptoBulkAll parts + 1
  | .iface _ d => uptoBulk d + 1
  | .map entries => uptoBulkEntries entries + 1
  | .held _ => 1
def uptoBulkAll {H : Type} : List (DataW H) → Nat
  | [] => 0
  | d :: r => uptoBulk d + uptoBulkAll r
def uptoBulkEntries {H : Type} : List (Lit × DataW H) → Nat
  | [] => 0
  | x :: r => uptoBulkEntry x + uptoBulkEntries r
def uptoBulkEntry {H : Type} : Lit × DataW H → Nat
  | (.string bytes, d) => bytes.length + uptoBulk d + 1
  | (_, d) => uptoBulk d + 1
 end
def uptoSmall : (H : Type) → List (DataW H) → Bool := fun _ ds => decide (uptoBulkAll ds ≤ 1048576)
def OpenSpec.upto (s : _root_.Go.ChangeSpec) : _root_.Go.OpenSpec := { _root_.Go.OpenSpec.ofChange s with cond := some uptoSmall }

/-- 'trammellaw08.SatSolves', WHERE WHAT IT READS IS OF BULK AT MOST 1048576: true; the input reads as it did. -/
def satSolvesUptoRow : OpenClaim := { program := "ytiklknilnmkbmaa", sum := "c21bc6ab282766243667cfdd973f553e810b22dc5b03f968a7651386b08b12a8", func := "trammel/trammellaw08.SatSolves", spec := "satSolves", unfollowed := true, recurses := true, apart := false, narrowed := true }
def SatSolvesUptoSaid : Prop := satSolvesUptoRow.holds Try.pinned (OpenSpec.upto satSolvesSpec)

/-- 'trammellaw08.SatDecides', WHERE WHAT IT READS IS OF BULK AT MOST 1048576: true; the input reads as it did. -/
def satDecidesUptoRow : OpenClaim := { program := "ytiklknilnmkbmaa", sum := "c21bc6ab282766243667cfdd973f553e810b22dc5b03f968a7651386b08b12a8", func := "trammel/trammellaw08.SatDecides", spec := "satDecides", unfollowed := true, recurses := true, apart := false, narrowed := true }
def SatDecidesUptoSaid : Prop := satDecidesUptoRow.holds Try.pinned (OpenSpec.upto satDecidesSpec)

/-- 'trammellaw08.SatNever', WHERE WHAT IT READS IS OF BULK AT MOST 1048576: true; the input reads as it did. -/
def satNeverUptoRow : OpenClaim := { program := "ytiklknilnmkbmaa", sum := "c21bc6ab282766243667cfdd973f553e810b22dc5b03f968a7651386b08b12a8", func := "trammel/trammellaw08.SatNever", spec := "satNever", unfollowed := true, recurses := true, apart := false, narrowed := true }
def SatNeverUptoSaid : Prop := satNeverUptoRow.holds Try.pinned (OpenSpec.upto satNeverSpec)

end Rows
end Go.Proofs.Ytiklknilnmkbmaa
