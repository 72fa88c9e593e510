/-
  No cell of these rows narrows 'for every input' (looked for: loops, veiled, ifaces, maps, wideKeys, modest, calm, conditions, laid).
  DERIVED. THE GIVEN ROWS OF THIS SEAT. 6 by the template 'for every input the law returns true; each argument reads behind the call as it read before'; 0 by the template 'total and deterministic' (their statements: YtdljgclaccahaaaTotals.lean).
  GIVEN WITH THE SEED: the statements are not yours to turn. If you find one false, say at which input.
  Laid BY PROGRAM, IN A SANDBOX (cutbox-rows.mjs): the forced cells as the released guide's own fill.sh prints them over the translation 7adb199c553adcd2… (all of the seat's roots in one cut). By AI agents, Wed Nov 11 2026. No macro, syntax, notation, axiom, sorry.
-/
import Derived.Test.YtdljgclaccahaaaChecked
import GoSem.Claim
import GoSem.ClaimJoined
import GoSem.ClaimMapViews
import Derived.JoinedTies
import Derived.KernelRfl
namespace Go.Proofs.Ytdljgclaccahaaa
/- THE CELL 'sum', in the pinned program and in every row, IS THE sha256 OF THE DUMP (.gsa) THAT YtdljgclaccahaaaProg.lean LOADS. Nothing in Lean hashes anything: it is a label: what it is worth is what the hold of that sum in a sandbox is worth. -/
noncomputable def Try.pinned : Pinned := { name := "ytdljgclaccahaaa", sum := "7adb199c553adcd20278ba4fc6427a6109db6cd53fe4f42f81a1afcdbe54bc06", checked := Try.checked }
namespace Rows
def none {H : Type} : Left H := { results := [], args := [] }

/-- 'trammellaw01.LinMakes': WHATEVER THE INPUT: true; the input reads as it did. -/
def linMakesSpec : ChangeSpec := { name := "linMakes", fn := fun _ => fun
  | [d1, d2] => { results := [.lit (.bool true)], args := [d1, d2] }
  | _ => none }
def linMakesRow : OpenClaim := { program := "ytdljgclaccahaaa", sum := "7adb199c553adcd20278ba4fc6427a6109db6cd53fe4f42f81a1afcdbe54bc06", func := "trammel/trammellaw01.LinMakes", spec := "linMakes", unfollowed := true, recurses := true, apart := false }
def LinMakesSaid : Prop := linMakesRow.holds Try.pinned (OpenSpec.ofChange linMakesSpec)

/-- ITS FALSE NEIGHBOUR: 'it returns false'. Refute it at one input. -/
def linMakesWrong : ChangeSpec := { name := "linMakes", fn := fun _ => fun
  | [d1, d2] => { results := [.lit (.bool false)], args := [d1, d2] }
  | _ => none }
def LinMakesWrongFalsely : Prop := linMakesRow.holds Try.pinned (OpenSpec.ofChange linMakesWrong)

/-- 'trammellaw01.LinValues': WHATEVER THE INPUT: true; the input reads as it did. -/
def linValuesSpec : ChangeSpec := { name := "linValues", fn := fun _ => fun
  | [d1, d2, d3] => { results := [.lit (.bool true)], args := [d1, d2, d3] }
  | _ => none }
def linValuesRow : OpenClaim := { program := "ytdljgclaccahaaa", sum := "7adb199c553adcd20278ba4fc6427a6109db6cd53fe4f42f81a1afcdbe54bc06", func := "trammel/trammellaw01.LinValues", spec := "linValues", unfollowed := true, recurses := true, apart := false }
def LinValuesSaid : Prop := linValuesRow.holds Try.pinned (OpenSpec.ofChange linValuesSpec)

/-- ITS FALSE NEIGHBOUR: 'it returns false'. Refute it at one input. -/
def linValuesWrong : ChangeSpec := { name := "linValues", fn := fun _ => fun
  | [d1, d2, d3] => { results := [.lit (.bool false)], args := [d1, d2, d3] }
  | _ => none }
def LinValuesWrongFalsely : Prop := linValuesRow.holds Try.pinned (OpenSpec.ofChange linValuesWrong)

/-- 'trammellaw01.LinChecks': WHATEVER THE INPUT: true; the input reads as it did. -/
def linChecksSpec : ChangeSpec := { name := "linChecks", fn := fun _ => fun
  | [d] => { results := [.lit (.bool true)], args := [d] }
  | _ => none }
def linChecksRow : OpenClaim := { program := "ytdljgclaccahaaa", sum := "7adb199c553adcd20278ba4fc6427a6109db6cd53fe4f42f81a1afcdbe54bc06", func := "trammel/trammellaw01.LinChecks", spec := "linChecks", unfollowed := true, recurses := true, apart := false }
def LinChecksSaid : Prop := linChecksRow.holds Try.pinned (OpenSpec.ofChange linChecksSpec)

/-- ITS FALSE NEIGHBOUR: 'it returns false'. Refute it at one input. -/
def linChecksWrong : ChangeSpec := { name := "linChecks", fn := fun _ => fun
  | [d] => { results := [.lit (.bool false)], args := [d] }
  | _ => none }
def LinChecksWrongFalsely : Prop := linChecksRow.holds Try.pinned (OpenSpec.ofChange linChecksWrong)

/-- 'trammellaw01.LinAdds': WHATEVER THE INPUT: true; the input reads as it did. -/
def linAddsSpec : ChangeSpec := { name := "linAdds", fn := fun _ => fun
  | [d1, d2, d3, d4] => { results := [.lit (.bool true)], args := [d1, d2, d3, d4] }
  | _ => none }
def linAddsRow : OpenClaim := { program := "ytdljgclaccahaaa", sum := "7adb199c553adcd20278ba4fc6427a6109db6cd53fe4f42f81a1afcdbe54bc06", func := "trammel/trammellaw01.LinAdds", spec := "linAdds", unfollowed := true, recurses := true, apart := false }
def LinAddsSaid : Prop := linAddsRow.holds Try.pinned (OpenSpec.ofChange linAddsSpec)

/-- ITS FALSE NEIGHBOUR: 'it returns false'. Refute it at one input. -/
def linAddsWrong : ChangeSpec := { name := "linAdds", fn := fun _ => fun
  | [d1, d2, d3, d4] => { results := [.lit (.bool false)], args := [d1, d2, d3, d4] }
  | _ => none }
def LinAddsWrongFalsely : Prop := linAddsRow.holds Try.pinned (OpenSpec.ofChange linAddsWrong)

/-- 'trammellaw01.LinSpreads': WHATEVER THE INPUT: true; the input reads as it did. -/
def linSpreadsSpec : ChangeSpec := { name := "linSpreads", fn := fun _ => fun
  | [d1, d2, d3, d4, d5] => { results := [.lit (.bool true)], args := [d1, d2, d3, d4, d5] }
  | _ => none }
def linSpreadsRow : OpenClaim := { program := "ytdljgclaccahaaa", sum := "7adb199c553adcd20278ba4fc6427a6109db6cd53fe4f42f81a1afcdbe54bc06", func := "trammel/trammellaw01.LinSpreads", spec := "linSpreads", unfollowed := true, recurses := true, apart := false }
def LinSpreadsSaid : Prop := linSpreadsRow.holds Try.pinned (OpenSpec.ofChange linSpreadsSpec)

/-- ITS FALSE NEIGHBOUR: 'it returns false'. Refute it at one input. -/
def linSpreadsWrong : ChangeSpec := { name := "linSpreads", fn := fun _ => fun
  | [d1, d2, d3, d4, d5] => { results := [.lit (.bool false)], args := [d1, d2, d3, d4, d5] }
  | _ => none }
def LinSpreadsWrongFalsely : Prop := linSpreadsRow.holds Try.pinned (OpenSpec.ofChange linSpreadsWrong)

/-- 'trammellaw01.LinStays': WHATEVER THE INPUT: true; the input reads as it did. -/
def linStaysSpec : ChangeSpec := { name := "linStays", fn := fun _ => fun
  | [d1, d2, d3] => { results := [.lit (.bool true)], args := [d1, d2, d3] }
  | _ => none }
def linStaysRow : OpenClaim := { program := "ytdljgclaccahaaa", sum := "7adb199c553adcd20278ba4fc6427a6109db6cd53fe4f42f81a1afcdbe54bc06", func := "trammel/trammellaw01.LinStays", spec := "linStays", unfollowed := true, recurses := true, apart := false }
def LinStaysSaid : Prop := linStaysRow.holds Try.pinned (OpenSpec.ofChange linStaysSpec)

/-- ITS FALSE NEIGHBOUR: 'it returns false'. Refute it at one input. -/
def linStaysWrong : ChangeSpec := { name := "linStays", fn := fun _ => fun
  | [d1, d2, d3] => { results := [.lit (.bool false)], args := [d1, d2, d3] }
  | _ => none }
def LinStaysWrongFalsely : Prop := linStaysRow.holds Try.pinned (OpenSpec.ofChange linStaysWrong)

/- THE SECOND FORM. 'bulk': how many values and letters a reading holds, each counted each time it is reached (what is shared counts as often as it is met; a slice's spare places count too). A statement '..UptoSaid' is the law's where the arguments, and the package variables that the reading takes, are together of bulk at most 1048576: NARROWER than '..Said'. Prove '..Said' where nothing that the law and all that it calls make is longer than what came in: it says more and counts as full. Else prove '..UptoSaid'. A law counts once. -/
mutual
def uptoBulk {H : Type} : DataW H → Nat
  | .lit (.string bytes) => bytes.length + 1
  | .lit _ => 1
  | .nil => 1
  | .ptr d => uptoBulk d + 1
  | .slice elems spare => uptoBulkAll elems + uptoBulkAll spare + 1
  | .agg parts => uptoBulkAll parts + 1
  | .iface _ d => uptoBulk d + 1
  | .map entries => uptoBulkEntries entries + 1
  | .held _ => 1
def uptoBulkAll {H : Type} : List (DataW H) → Nat
  | [] => 0
  | d :: r => uptoBulk d + uptoBulkAll r
def uptoBulkEntries {H : Type} : List (Lit × DataW H) → Nat
  | [] => 0
  | x :: r => uptoBulkEntry x + uptoBulkEntries r
def uptoBulkEntry {H : Type} : Lit × DataW H → Nat
  | (.string bytes, d) => bytes.length + uptoBulk d + 1
  | (_, d) => uptoBulk d + 1
 end
def uptoSmall : (H : Type) → List (DataW H) → Bool := fun _ ds => decide (uptoBulkAll ds ≤ 1048576)
def OpenSpec.upto (s : _root_.Go.ChangeSpec) : _root_.Go.OpenSpec := { _root_.Go.OpenSpec.ofChange s with cond := some uptoSmall }

/-- 'trammellaw01.LinMakes', WHERE WHAT IT READS IS OF BULK AT MOST 1048576: true; the input reads as it did. -/
def linMakesUptoRow : OpenClaim := { program := "ytdljgclaccahaaa", sum := "7adb199c553adcd20278ba4fc6427a6109db6cd53fe4f42f81a1afcdbe54bc06", func := "trammel/trammellaw01.LinMakes", spec := "linMakes", unfollowed := true, recurses := true, apart := false, narrowed := true }
def LinMakesUptoSaid : Prop := linMakesUptoRow.holds Try.pinned (OpenSpec.upto linMakesSpec)

/-- 'trammellaw01.LinValues', WHERE WHAT IT READS IS OF BULK AT MOST 1048576: true; the input reads as it did. -/
def linValuesUptoRow : OpenClaim := { program := "ytdljgclaccahaaa", sum := "7adb199c553adcd20278ba4fc6427a6109db6cd53fe4f42f81a1afcdbe54bc06", func := "trammel/trammellaw01.LinValues", spec := "linValues", unfollowed := true, recurses := true, apart := false, narrowed := true }
def LinValuesUptoSaid : Prop := linValuesUptoRow.holds Try.pinned (OpenSpec.upto linValuesSpec)

/-- 'trammellaw01.LinChecks', WHERE WHAT IT READS IS OF BULK AT MOST 1048576: true; the input reads as it did. -/
def linChecksUptoRow : OpenClaim := { program := "ytdljgclaccahaaa", sum := "7adb199c553adcd20278ba4fc6427a6109db6cd53fe4f42f81a1afcdbe54bc06", func := "trammel/trammellaw01.LinChecks", spec := "linChecks", unfollowed := true, recurses := true, apart := false, narrowed := true }
def LinChecksUptoSaid : Prop := linChecksUptoRow.holds Try.pinned (OpenSpec.upto linChecksSpec)

/-- 'trammellaw01.LinAdds', WHERE WHAT IT READS IS OF BULK AT MOST 1048576: true; the input reads as it did. -/
def linAddsUptoRow : OpenClaim := { program := "ytdljgclaccahaaa", sum := "7adb199c553adcd20278ba4fc6427a6109db6cd53fe4f42f81a1afcdbe54bc06", func := "trammel/trammellaw01.LinAdds", spec := "linAdds", unfollowed := true, recurses := true, apart := false, narrowed := true }
def LinAddsUptoSaid : Prop := linAddsUptoRow.holds Try.pinned (OpenSpec.upto linAddsSpec)

/-- 'trammellaw01.LinSpreads', WHERE WHAT IT READS IS OF BULK AT MOST 1048576: true; the input reads as it did. -/
def linSpreadsUptoRow : OpenClaim := { program := "ytdljgclaccahaaa", sum := "7adb199c553adcd20278ba4fc6427a6109db6cd53fe4f42f81a1afcdbe54bc06", func := "trammel/trammellaw01.LinSpreads", spec := "linSpreads", unfollowed := true, recurses := true, apart := false, narrowed := true }
def LinSpreadsUptoSaid : Prop := linSpreadsUptoRow.holds Try.pinned (OpenSpec.upto linSpreadsSpec)

/-- 'trammellaw01.LinStays', WHERE WHAT IT READS IS OF BULK AT MOST 1048576: true; the input reads as it did. -/
def linStaysUptoRow : OpenClaim := { program := "ytdljgclaccahaaa", sum := "7adb199c553adcd20278ba4fc6427a6109db6cd53fe4f42f81a1afcdbe54bc06", func := "trammel/trammellaw01.LinStays", spec := "linStays", unfollowed := true, recurses := true, apart := false, narrowed := true }
def LinStaysUptoSaid : Prop := linStaysUptoRow.holds Try.pinned (OpenSpec.upto linStaysSpec)

end Rows
end Go.Proofs.Ytdljgclaccahaaa
