/-
  Chapter 17: trammelref17's Get, Drop, Set, Fresh, Stands, Check walked.
-/
import Derived.Test.YtgofncopoieigaaDoorHpN
namespace Go.Proofs.YtgofncopoieigaaDoor
open Go Go.RowKit

theorem eqT_of {x f z a g u : _} (h : (x : Int) = a ∧ ((f : ByteArray).toList == (g : ByteArray).toList) = true) : eqT (x, f, (z : Int)) (a, g, (u : Int)) = true := by
  show eqK x f a g = true
  unfold eqK
  rw [h.2]
  simp [h.1]
theorem eqT_not {x f z a g u : _} (h : ¬ ((x : Int) = a ∧ ((f : ByteArray).toList == (g : ByteArray).toList) = true)) : eqT (x, f, (z : Int)) (a, g, (u : Int)) = false := by
  show eqK x f a g = false
  unfold eqK
  by_cases hx : x = a
  · cases hf : (f.toList == g.toList)
    · simp
    · exact absurd ⟨hx, hf⟩ h
  · simp [hx]

theorem dropP_take {l : List Tri} {k : Nat} (c : Tri) (hk : k < l.length) {o : List Tri} (h : dropP (l.take k) c = o) : dropP (l.take (k + 1)) c = if eqT l[k] c = true then o else o ++ [l[k]] := by
  rw [List.take_succ_eq_append_getElem hk]
  unfold dropP at *
  rw [List.filter_append, h]
  cases h2 : eqT l[k] c <;> simp [h2]
theorem dropP_len (l : List Tri) (c : Tri) : (dropP l c).length ≤ l.length := List.length_filter_le _ _
end Go.Proofs.YtgofncopoieigaaDoor
