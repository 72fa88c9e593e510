/-
  The reference's Up.
-/
import Derived.Test.YtlejcnbpodmleaaNrmA
namespace Go.Proofs.Ytlejcnbpodmleaa
open Go Go.RowKit

theorem div_parts {a g : Int} (hg : 1 ≤ g) : Int.tdiv a g * g = a - Int.tmod a g ∧ -g < Int.tmod a g ∧ Int.tmod a g < g := by
  have h1 : Int.tmod a g + g * Int.tdiv a g = a := Int.tmod_add_mul_tdiv a g
  have h2 : (Int.tmod a g).natAbs = a.natAbs % g.natAbs := Int.natAbs_tmod a g
  have h3 : a.natAbs % g.natAbs < g.natAbs := Nat.mod_lt _ (by omega)
  rw [Int.mul_comm]
  omega
theorem up_parts {a g : Int} (hg : 1 ≤ g) : a ≤ upI a g * g ∧ (upI a g - 1) * g < a ∧ upI a g * g < a + g := by
  obtain ⟨h1, h2, h3⟩ := div_parts (a := a) hg
  unfold upI
  split
  · rw [Int.add_mul, Int.one_mul, h1, Int.add_sub_cancel, h1]
    omega
  · rw [Int.sub_mul, Int.one_mul, h1]
    omega
end Go.Proofs.Ytlejcnbpodmleaa
