/-
  lin.Make.
-/
import Derived.Test.YtpmndblakmobdaaDoorLin9
import Derived.Test.YtpmndblakmobdaaDoorLin6
namespace Go.Proofs.YtpmndblakmobdaaDoor
open Go Go.RowKit

/-- May a constant and terms be taken? -/
def makeOk (c : Int) (t : List Mono) : Bool := coefB c && decide (t.length ≤ 4096) && !(t.any fun m => !coefB m.2 || !varB m.1)
noncomputable def makeErr (c : Int) (t : List Mono) : Int := if makeOk c t = true then sumErr c t else 1
noncomputable def makeLin (c : Int) (t : List Mono) : Lin := if makeOk c t = true then sumLin c t else (0, [])

theorem makeOk_ok {c : Int} {t : List Mono} (h : makeOk c t = true) : t.length ≤ 4096 ∧ (∀ m ∈ t, 0 ≤ m.1 ∧ m.1 < 1048576) ∧ ∀ v, absAt t v ≤ 4611686018427387904 := by
  unfold makeOk at h
  rw [Bool.and_eq_true, Bool.and_eq_true, decide_eq_true_iff, Bool.not_eq_true', List.any_eq_false] at h
  obtain ⟨⟨_, h1⟩, h2⟩ := h
  have h3 : ∀ m ∈ t, coefB m.2 = true ∧ varB m.1 = true := fun m hm => by
    have := h2 m hm
    simp only [Bool.or_eq_true, Bool.not_eq_true', not_or, Bool.not_eq_false] at this
    exact this
  refine ⟨h1, fun m hm => varB_le (h3 m hm).2, fun v => ?_⟩
  have := absAt_le (t := t) (K := 1073741824) (fun m hm => by have := coefB_le (h3 m hm).1; omega) (by decide) v
  omega

end Go.Proofs.YtpmndblakmobdaaDoor
