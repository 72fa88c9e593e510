/-
  Chapter 17: trammelref17's Stands, Check, Fresh walked.
-/
import Derived.Test.YtgofncopoieigaaDoorHpQ
namespace Go.Proofs.YtgofncopoieigaaDoor
open Go Go.RowKit

theorem strict_of_adj : ∀ {l : List Tri}, (∀ j (h : j + 1 < l.length), ltT l[j] l[j + 1] = true) → Strict l
  | [], _ => List.Pairwise.nil
  | [x], _ => by simp
  | x :: y :: t, h => by
    have ih := strict_of_adj (l := y :: t) (fun j hj => h (j + 1) (by simpa using hj))
    have hxy : ltT x y = true := h 0 (by simp)
    refine List.pairwise_cons.2 ⟨fun z hz => ?_, ih⟩
    rcases List.mem_cons.1 hz with rfl | hz
    · exact hxy
    · exact ltT_trans hxy ((List.pairwise_cons.1 ih).1 z hz)
theorem adj_of_strict {l : List Tri} (h : Strict l) (j : Nat) (hj : j + 1 < l.length) : ltT l[j] l[j + 1] = true :=
  (List.pairwise_iff_getElem.1 h) j (j + 1) (by omega) hj (by omega)
/-- Do cells stand as they should? -/
def standsB (l : List Tri) : Bool := decide (Strict l)
theorem standsB_no {l : List Tri} {j : Nat} (hj : j + 1 < l.length) (h : ltT l[j] l[j + 1] = false) : standsB l = false :=
  decide_eq_false (fun hs => by rw [adj_of_strict hs j hj] at h; cases h)
theorem standsB_yes {l : List Tri} (h : ∀ j (h : j + 1 < l.length), ltT l[j] l[j + 1] = true) : standsB l = true := decide_eq_true (strict_of_adj h)

theorem heapB_eq (l : List Tri) : heapB l = (standsB l && l.all okT) := by
  rw [Bool.eq_iff_iff, Bool.and_eq_true]
  constructor
  · intro h
    have hf : ∀ i, i < l.length → fineT l i = true := fun i hi => by
      cases hfi : fineT l i
      · rw [heapB_no hi hfi] at h; cases h
      · rfl
    refine ⟨standsB_yes (fun j hj => ?_), ?_⟩
    · have := hf (j + 1) hj
      unfold fineT at this
      rw [getD_at hj, Nat.add_sub_cancel, getD_at (by omega)] at this
      simp only [Bool.and_eq_true, Bool.or_eq_true, decide_eq_true_eq] at this
      rcases this.2 with h0 | h0
      · omega
      · exact h0
    · rw [List.all_eq_true]
      intro x hx
      obtain ⟨i, hi, rfl⟩ := List.getElem_of_mem hx
      have := hf i hi
      unfold fineT at this
      rw [getD_at hi, Bool.and_eq_true] at this
      exact this.1
  · rintro ⟨h1, h2⟩
    have hs : Strict l := of_decide_eq_true h1
    refine heapB_yes (fun i hi => ?_)
    unfold fineT
    rw [getD_at hi, Bool.and_eq_true]
    refine ⟨List.all_eq_true.1 h2 _ (List.getElem_mem hi), ?_⟩
    rw [Bool.or_eq_true, decide_eq_true_eq]
    by_cases h0 : i = 0
    · exact .inl h0
    · right
      obtain ⟨j, rfl⟩ : ∃ j, i = j + 1 := ⟨i - 1, by omega⟩
      rw [Nat.add_sub_cancel, getD_at (by omega)]
      exact adj_of_strict hs j hi

end Go.Proofs.YtgofncopoieigaaDoor
