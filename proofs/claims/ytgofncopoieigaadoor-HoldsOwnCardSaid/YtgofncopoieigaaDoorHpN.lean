/-
  Chapter 17: heap.Set walked.
-/
import Derived.Test.YtgofncopoieigaaDoorHpM
import Derived.Deep.RegionHeldLaw
namespace Go.Proofs.YtgofncopoieigaaDoor
open Go Go.RowKit

theorem encL_set3 (l : List Tri) (i : Nat) (c : Tri) (hi : i < l.length) : ((((encL l).set (i * 3) (.int .i64 c.1)).set (i * 3 + 1) (.string c.2.1)).set (i * 3 + 2) (.int .i64 c.2.2)) = encL (l.set i c) := by
  apply List.ext_getElem?
  intro t
  by_cases ht : t < l.length * 3
  · rw [encL_set _ t ht, List.getElem?_set, List.length_set, List.length_set, encL_length, List.getElem?_set, List.length_set, encL_length, List.getElem?_set, encL_length]
    by_cases h5 : t / 3 = i
    · rw [if_pos h5]
      have h7 : t % 3 = 0 ∨ t % 3 = 1 ∨ t % 3 = 2 := by omega
      rcases h7 with h7 | h7 | h7 <;> rw [h7]
      · rw [if_neg (by omega), if_neg (by omega), if_pos (by omega), if_pos (by omega)]; rfl
      · rw [if_neg (by omega), if_pos (by omega), if_pos (by omega)]; rfl
      · rw [if_pos (by omega), if_pos (by omega)]; rfl
    · rw [if_neg h5, if_neg (by omega), if_neg (by omega), if_neg (by omega)]
  · rw [List.getElem?_eq_none (by rw [List.length_set, List.length_set, List.length_set, encL_length]; omega), List.getElem?_eq_none (by rw [encL_length, List.length_set]; omega)]
theorem OTris.setC {e : TypeId} {M : Nat → Prop} {w : World} {g o n cap : Nat} {l : List Tri} (h : OTris e M w (.slice (some ⟨g, o, none⟩) n cap) l) (i : Nat) (hi : i < l.length) {c : Tri} (hc : TriOk c) :
    (∀ j, j < 3 → w.frozen? ⟨g, o + i * 3 + j, none⟩ = false ∧ ∃ u, w.cell? ⟨g, o + i * 3 + j, none⟩ = some u) ∧ M g ∧ OTris e M (((w.setCell ⟨g, o + i * 3, none⟩ (.int .i64 c.1)).setCell ⟨g, o + i * 3 + 1, none⟩ (.string c.2.1)).setCell ⟨g, o + i * 3 + 2, none⟩ (.int .i64 c.2.2)) (.slice (some ⟨g, o, none⟩) n cap) (l.set i c) := by
  have hn := h.blk.1
  subst hn
  obtain ⟨h1, h2⟩ := OTris.iff.1 h
  have hj : ∀ j, j < 3 → i * 3 + j < (encL l).length := fun j hj => by rw [encL_length]; omega
  obtain ⟨_, _, hM, h3⟩ := h1.put (hj 0 (by omega)) (.int .i64 c.1)
  obtain ⟨_, _, _, h4⟩ := h3.put (j := i * 3 + 1) (by rw [List.length_set]; exact hj 1 (by omega)) (.string c.2.1)
  obtain ⟨_, _, _, h5⟩ := h4.put (j := i * 3 + 2) (by rw [List.length_set, List.length_set]; exact hj 2 (by omega)) (.int .i64 c.2.2)
  refine ⟨fun j hj3 => ?_, hM, OTris.iff.2 ⟨?_, fun m hm => ?_⟩⟩
  · obtain ⟨f, g, _⟩ := h1.put (hj j hj3) (.int .i64 0)
    rw [← Nat.add_assoc] at f g
    exact ⟨f, _, g⟩
  · rw [List.length_set, ← encL_set3 l i c hi]
    simp only [Nat.add_zero, ← Nat.add_assoc] at h5
    exact h5
  · rcases List.mem_or_eq_of_mem_set hm with hm | rfl
    · exact h2 m hm
    · exact hc

/-- What heap.Set answers. -/
def SetRet (w : World) (r : List Tri) (e : Ending) (w' : World) : Prop := ∃ A' n' cap', e = .returned (.slice A' n' cap') ∧ n' = r.length ∧ OTris 45 (fun k => w.heap.size ≤ k) w' (.slice A' n' cap') r ∧ Chg No w w'

end Go.Proofs.YtgofncopoieigaaDoor
