/-
  NARROWER THAN 'FOR EVERY INPUT', by the rows' own cells (each row's printed sentence says how): NormIs: loops · NormForms: loops · NormTwice: loops · NormStays: loops · NormRight: loops.
  DERIVED. THE GIVEN ROWS OF THIS SEAT. 6 by the template 'for every input the law returns true; each argument reads behind the call as it read before'; 0 by the template 'total and deterministic' (their statements: YtobkihmmdlacnaaTotals.lean).
  GIVEN WITH THE SEED: the statements are not yours to turn. If you find one false, say at which input.
  Laid BY PROGRAM, IN A SANDBOX (cutbox-rows.mjs): the forced cells as the released guide's own fill.sh prints them over the translation 9c30332ffc865690… (all of the seat's roots in one cut). By AI agents, Wed Nov 11 2026. No macro, syntax, notation, axiom, sorry.
-/
import Derived.Test.YtobkihmmdlacnaaChecked
import GoSem.Claim
import GoSem.ClaimJoined
import GoSem.ClaimMapViews
import Derived.JoinedTies
import Derived.KernelRfl
namespace Go.Proofs.Ytobkihmmdlacnaa
/- THE CELL 'sum', in the pinned program and in every row, IS THE sha256 OF THE DUMP (.gsa) THAT YtobkihmmdlacnaaProg.lean LOADS. Nothing in Lean hashes anything: it is a label: what it is worth is what the hold of that sum in a sandbox is worth. -/
noncomputable def Try.pinned : Pinned := { name := "ytobkihmmdlacnaa", sum := "9c30332ffc865690b6433f84d0c7aae2a5199cfa83c417ce2dda92c04e39a1f9", checked := Try.checked }
namespace Rows
def none {H : Type} : Left H := { results := [], args := [] }

/-- 'trammellaw03.NormLiterals': WHATEVER THE INPUT: true; the input reads as it did. -/
def normLiteralsSpec : ChangeSpec := { name := "normLiterals", fn := fun _ => fun
  | [d] => { results := [.lit (.bool true)], args := [d] }
  | _ => none }
def normLiteralsRow : OpenClaim := { program := "ytobkihmmdlacnaa", sum := "9c30332ffc865690b6433f84d0c7aae2a5199cfa83c417ce2dda92c04e39a1f9", func := "trammel/trammellaw03.NormLiterals", spec := "normLiterals", unfollowed := true, recurses := true, apart := false }
def NormLiteralsSaid : Prop := normLiteralsRow.holds Try.pinned (OpenSpec.ofChange normLiteralsSpec)

/-- ITS FALSE NEIGHBOUR: 'it returns false'. Refute it at one input. -/
def normLiteralsWrong : ChangeSpec := { name := "normLiterals", fn := fun _ => fun
  | [d] => { results := [.lit (.bool false)], args := [d] }
  | _ => none }
def NormLiteralsWrongFalsely : Prop := normLiteralsRow.holds Try.pinned (OpenSpec.ofChange normLiteralsWrong)

/-- 'trammellaw03.NormIs': WHATEVER THE INPUT: true; the input reads as it did. -/
def normIsSpec : ChangeSpec := { name := "normIs", fn := fun _ => fun
  | [d] => { results := [.lit (.bool true)], args := [d] }
  | _ => none }
def normIsRow : OpenClaim := { program := "ytobkihmmdlacnaa", sum := "9c30332ffc865690b6433f84d0c7aae2a5199cfa83c417ce2dda92c04e39a1f9", func := "trammel/trammellaw03.NormIs", spec := "normIs", unfollowed := true, recurses := true, loops := true, apart := false }
def NormIsSaid : Prop := normIsRow.holds Try.pinned (OpenSpec.ofChange normIsSpec)

/-- ITS FALSE NEIGHBOUR: 'it returns false'. Refute it at one input. -/
def normIsWrong : ChangeSpec := { name := "normIs", fn := fun _ => fun
  | [d] => { results := [.lit (.bool false)], args := [d] }
  | _ => none }
def NormIsWrongFalsely : Prop := normIsRow.holds Try.pinned (OpenSpec.ofChange normIsWrong)

/-- 'trammellaw03.NormForms': WHATEVER THE INPUT: true; the input reads as it did. -/
def normFormsSpec : ChangeSpec := { name := "normForms", fn := fun _ => fun
  | [d] => { results := [.lit (.bool true)], args := [d] }
  | _ => none }
def normFormsRow : OpenClaim := { program := "ytobkihmmdlacnaa", sum := "9c30332ffc865690b6433f84d0c7aae2a5199cfa83c417ce2dda92c04e39a1f9", func := "trammel/trammellaw03.NormForms", spec := "normForms", unfollowed := true, recurses := true, loops := true, apart := false }
def NormFormsSaid : Prop := normFormsRow.holds Try.pinned (OpenSpec.ofChange normFormsSpec)

/-- ITS FALSE NEIGHBOUR: 'it returns false'. Refute it at one input. -/
def normFormsWrong : ChangeSpec := { name := "normForms", fn := fun _ => fun
  | [d] => { results := [.lit (.bool false)], args := [d] }
  | _ => none }
def NormFormsWrongFalsely : Prop := normFormsRow.holds Try.pinned (OpenSpec.ofChange normFormsWrong)

/-- 'trammellaw03.NormTwice': WHATEVER THE INPUT: true; the input reads as it did. -/
def normTwiceSpec : ChangeSpec := { name := "normTwice", fn := fun _ => fun
  | [d] => { results := [.lit (.bool true)], args := [d] }
  | _ => none }
def normTwiceRow : OpenClaim := { program := "ytobkihmmdlacnaa", sum := "9c30332ffc865690b6433f84d0c7aae2a5199cfa83c417ce2dda92c04e39a1f9", func := "trammel/trammellaw03.NormTwice", spec := "normTwice", unfollowed := true, recurses := true, loops := true, apart := false }
def NormTwiceSaid : Prop := normTwiceRow.holds Try.pinned (OpenSpec.ofChange normTwiceSpec)

/-- ITS FALSE NEIGHBOUR: 'it returns false'. Refute it at one input. -/
def normTwiceWrong : ChangeSpec := { name := "normTwice", fn := fun _ => fun
  | [d] => { results := [.lit (.bool false)], args := [d] }
  | _ => none }
def NormTwiceWrongFalsely : Prop := normTwiceRow.holds Try.pinned (OpenSpec.ofChange normTwiceWrong)

/-- 'trammellaw03.NormStays': WHATEVER THE INPUT: true; the input reads as it did. -/
def normStaysSpec : ChangeSpec := { name := "normStays", fn := fun _ => fun
  | [d] => { results := [.lit (.bool true)], args := [d] }
  | _ => none }
def normStaysRow : OpenClaim := { program := "ytobkihmmdlacnaa", sum := "9c30332ffc865690b6433f84d0c7aae2a5199cfa83c417ce2dda92c04e39a1f9", func := "trammel/trammellaw03.NormStays", spec := "normStays", unfollowed := true, recurses := true, loops := true, apart := false }
def NormStaysSaid : Prop := normStaysRow.holds Try.pinned (OpenSpec.ofChange normStaysSpec)

/-- ITS FALSE NEIGHBOUR: 'it returns false'. Refute it at one input. -/
def normStaysWrong : ChangeSpec := { name := "normStays", fn := fun _ => fun
  | [d] => { results := [.lit (.bool false)], args := [d] }
  | _ => none }
def NormStaysWrongFalsely : Prop := normStaysRow.holds Try.pinned (OpenSpec.ofChange normStaysWrong)

/-- 'trammellaw03.NormRight': WHATEVER THE INPUT: true; the input reads as it did. -/
def normRightSpec : ChangeSpec := { name := "normRight", fn := fun _ => fun
  | [d1, d2, d3] => { results := [.lit (.bool true)], args := [d1, d2, d3] }
  | _ => none }
def normRightRow : OpenClaim := { program := "ytobkihmmdlacnaa", sum := "9c30332ffc865690b6433f84d0c7aae2a5199cfa83c417ce2dda92c04e39a1f9", func := "trammel/trammellaw03.NormRight", spec := "normRight", unfollowed := true, recurses := true, loops := true, apart := false }
def NormRightSaid : Prop := normRightRow.holds Try.pinned (OpenSpec.ofChange normRightSpec)

/-- ITS FALSE NEIGHBOUR: 'it returns false'. Refute it at one input. -/
def normRightWrong : ChangeSpec := { name := "normRight", fn := fun _ => fun
  | [d1, d2, d3] => { results := [.lit (.bool false)], args := [d1, d2, d3] }
  | _ => none }
def NormRightWrongFalsely : Prop := normRightRow.holds Try.pinned (OpenSpec.ofChange normRightWrong)

/- THE SECOND FORM. 'bulk': how many values and letters a reading holds, each counted each time it is reached (what is shared counts as often as it is met; a slice's spare places count too). A statement '..UptoSaid' is the law's where the arguments, and the package variables that the reading takes, are together of bulk at most 1048576: NARROWER than '..Said'. Prove '..Said' where nothing that the law and all that it calls make is longer than what came in: it says more and counts as full. Else prove '..UptoSaid'. A law counts once. -/
mutual
def uptoBulk {H : Type} : DataW H → Nat
  | .lit (.string bytes) => bytes.length + 1
  | .lit _ => 1
  | .nil => 1
  | .ptr d => uptoBulk d + 1
  | .slice elems spare => uptoBulkAll elems + uptoBulkAll spare + 1
  | .agg parts => uptoBulkAll parts + 1
  | .iface _ d => uptoBulk d + 1
  | .map entries => uptoBulkEntries entries + 1
  | .held _ => 1
def uptoBulkAll {H : Type} : List (DataW H) → Nat
  | [] => 0
  | d :: r => uptoBulk d + uptoBulkAll r
def uptoBulkEntries {H : Type} : List (Lit × DataW H) → Nat
  | [] => 0
  | x :: r => uptoBulkEntry x + uptoBulkEntries r
def uptoBulkEntry {H : Type} : Lit × DataW H → Nat
  | (.string bytes, d) => bytes.length + uptoBulk d + 1
  | (_, d) => uptoBulk d + 1
 end
def uptoSmall : (H : Type) → List (DataW H) → Bool := fun _ ds => decide (uptoBulkAll ds ≤ 1048576)
def OpenSpec.upto (s : _root_.Go.ChangeSpec) : _root_.Go.OpenSpec := { _root_.Go.OpenSpec.ofChange s with cond := some uptoSmall }

/-- 'trammellaw03.NormLiterals', WHERE WHAT IT READS IS OF BULK AT MOST 1048576: true; the input reads as it did. -/
def normLiteralsUptoRow : OpenClaim := { program := "ytobkihmmdlacnaa", sum := "9c30332ffc865690b6433f84d0c7aae2a5199cfa83c417ce2dda92c04e39a1f9", func := "trammel/trammellaw03.NormLiterals", spec := "normLiterals", unfollowed := true, recurses := true, apart := false, narrowed := true }
def NormLiteralsUptoSaid : Prop := normLiteralsUptoRow.holds Try.pinned (OpenSpec.upto normLiteralsSpec)

/-- 'trammellaw03.NormIs', WHERE WHAT IT READS IS OF BULK AT MOST 1048576: true; the input reads as it did. -/
def normIsUptoRow : OpenClaim := { program := "ytobkihmmdlacnaa", sum := "9c30332ffc865690b6433f84d0c7aae2a5199cfa83c417ce2dda92c04e39a1f9", func := "trammel/trammellaw03.NormIs", spec := "normIs", unfollowed := true, recurses := true, loops := true, apart := false, narrowed := true }
def NormIsUptoSaid : Prop := normIsUptoRow.holds Try.pinned (OpenSpec.upto normIsSpec)

/-- 'trammellaw03.NormForms', WHERE WHAT IT READS IS OF BULK AT MOST 1048576: true; the input reads as it did. -/
def normFormsUptoRow : OpenClaim := { program := "ytobkihmmdlacnaa", sum := "9c30332ffc865690b6433f84d0c7aae2a5199cfa83c417ce2dda92c04e39a1f9", func := "trammel/trammellaw03.NormForms", spec := "normForms", unfollowed := true, recurses := true, loops := true, apart := false, narrowed := true }
def NormFormsUptoSaid : Prop := normFormsUptoRow.holds Try.pinned (OpenSpec.upto normFormsSpec)

/-- 'trammellaw03.NormTwice', WHERE WHAT IT READS IS OF BULK AT MOST 1048576: true; the input reads as it did. -/
def normTwiceUptoRow : OpenClaim := { program := "ytobkihmmdlacnaa", sum := "9c30332ffc865690b6433f84d0c7aae2a5199cfa83c417ce2dda92c04e39a1f9", func := "trammel/trammellaw03.NormTwice", spec := "normTwice", unfollowed := true, recurses := true, loops := true, apart := false, narrowed := true }
def NormTwiceUptoSaid : Prop := normTwiceUptoRow.holds Try.pinned (OpenSpec.upto normTwiceSpec)

/-- 'trammellaw03.NormStays', WHERE WHAT IT READS IS OF BULK AT MOST 1048576: true; the input reads as it did. -/
def normStaysUptoRow : OpenClaim := { program := "ytobkihmmdlacnaa", sum := "9c30332ffc865690b6433f84d0c7aae2a5199cfa83c417ce2dda92c04e39a1f9", func := "trammel/trammellaw03.NormStays", spec := "normStays", unfollowed := true, recurses := true, loops := true, apart := false, narrowed := true }
def NormStaysUptoSaid : Prop := normStaysUptoRow.holds Try.pinned (OpenSpec.upto normStaysSpec)

/-- 'trammellaw03.NormRight', WHERE WHAT IT READS IS OF BULK AT MOST 1048576: true; the input reads as it did. -/
def normRightUptoRow : OpenClaim := { program := "ytobkihmmdlacnaa", sum := "9c30332ffc865690b6433f84d0c7aae2a5199cfa83c417ce2dda92c04e39a1f9", func := "trammel/trammellaw03.NormRight", spec := "normRight", unfollowed := true, recurses := true, loops := true, apart := false, narrowed := true }
def NormRightUptoSaid : Prop := normRightUptoRow.holds Try.pinned (OpenSpec.upto normRightSpec)

end Rows
end Go.Proofs.Ytobkihmmdlacnaa
