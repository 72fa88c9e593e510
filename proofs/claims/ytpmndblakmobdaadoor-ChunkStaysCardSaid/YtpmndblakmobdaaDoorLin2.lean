/-
  lin.Same, slices.Equal of terms, lin.Gcd, and the reference's.
-/
import Derived.Test.YtpmndblakmobdaaDoorLin1
import Derived.Laws.StructEq
namespace Go.Proofs.YtpmndblakmobdaaDoor
open Go Go.RowKit

theorem neqMono (a b c d : Int) (w : World) : (binOp .neq 55 (.agg #[.int .i64 a, .int .i64 b]) (.agg #[.int .i64 c, .int .i64 d])).run Tryd.prog w = .ok (.bool (!(a == c && b == d))) w := by
  have u3 := Tryd.underlying3
  have a3 := Tryd.isAgg3
  have z3 := Tryd.sizeOf3
  have hS : Tryd.prog.underlying 55 = some (.struct (Tryd.prog.fieldsOf 55)) := by kernel_rfl
  have hp : Tryd.prog.stoodInHeld 55 = false := by kernel_rfl
  rw [run_neq_struct, show (10000 : Nat) = 9999 + 1 from rfl, run_equalIn_agg w 9999 55 _ _ hS hp]
  simp only [Program.fieldsOf, Tryd.underlying55]
  go_simp
  by_cases h1 : a = c <;> by_cases h2 : b = d <;> simp [h1, h2]

/-- Two lists of terms that are of one length: the same, if each is. -/
theorem monos_same {xs ys : List Mono} (hl : xs.length = ys.length) (h : ∀ i (h1 : i < xs.length) (h2 : i < ys.length), xs[i] = ys[i]) : xs = ys := List.ext_getElem hl h

end Go.Proofs.YtpmndblakmobdaaDoor
