/-
  Chapter 17: trammelref17.add, Join, SameShares walked.
-/
import Derived.Test.YtgofncopoieigaaDoorHpF
import Derived.Deep.RegionHeldLaw
namespace Go.Proofs.YtgofncopoieigaaDoor
open Go Go.RowKit

def stepA (s : Tri) (acc : List Tri × Bool) (x : Tri) : List Tri × Bool :=
  if eqT x s = true then (acc.1 ++ [(s.1, s.2.1, addN x.2.2 s.2.2)], true)
  else if acc.2 = false ∧ ltT s x = true then (acc.1 ++ [s] ++ [x], true)
  else (acc.1 ++ [x], acc.2)
def foldA (s : Tri) (l : List Tri) : List Tri × Bool := l.foldl (stepA s) ([], false)
def addS (l : List Tri) (s : Tri) : List Tri := if (foldA s l).2 = true then (foldA s l).1 else (foldA s l).1 ++ [s]
theorem foldA_take {s : Tri} {l : List Tri} {k : Nat} (hk : k < l.length) {r : List Tri × Bool} (h : foldA s (l.take k) = r) : foldA s (l.take (k + 1)) = stepA s r l[k] := by
  rw [List.take_succ_eq_append_getElem hk]
  unfold foldA at *
  rw [List.foldl_append, h]
  rfl
theorem stepA_len (s : Tri) (a : List Tri × Bool) (x : Tri) : (stepA s a x).1.length ≤ a.1.length + 2 := by
  unfold stepA
  split
  · simp
  · split
    · simp
    · simp
theorem foldA_len (s : Tri) : ∀ l : List Tri, (foldA s l).1.length ≤ 2 * l.length := by
  have h : ∀ (l : List Tri) (a : List Tri × Bool), (l.foldl (stepA s) a).1.length ≤ a.1.length + 2 * l.length := by
    intro l
    induction l with
    | nil => intro a; simp
    | cons x t ih => intro a; have := ih (stepA s a x); have := stepA_len s a x; simp only [List.foldl_cons, List.length_cons]; omega
  intro l
  have := h l ([], false)
  simpa [foldA] using this

end Go.Proofs.YtgofncopoieigaaDoor
