/-
  A slice of terms that may be written: its block, known whole.
-/
import Derived.Test.YtdljgclaccahaaaLinH
namespace Go.Proofs.Ytdljgclaccahaaa
open Go Go.RowKit

theorem OMonos.block {M : Nat → Prop} {w : World} {A : Option Addr} {n cap : Nat} {l : List Mono} (h : OMonos M w (.slice A n cap) l) (hA : A ≠ none ∨ 0 < l.length) :
    ∃ g o cur, A = some ⟨g, o, none⟩ ∧ M g ∧ g < w.heap.size ∧ w.heap[g]? = some (.cells cur 50 (0, 0)) ∧ o + l.length * 2 ≤ cur.size ∧ ∀ i (h : i < l.length), cur[o + i * 2]? = some (.int .i64 l[i].1) ∧ cur[o + i * 2 + 1]? = some (.int .i64 l[i].2) := by
  obtain ⟨C, ho, hC, hv⟩ := h
  have hlen : ∀ c ∈ C, c.length = 2 := fun c hc => by
    obtain ⟨i, hi, rfl⟩ := List.getElem_of_mem hc
    exact monoV_good.len (hv i (by omega) hi)
  rcases ho.2 with ⟨hv0, hn⟩ | ⟨g, o, cap', cur, hv1, hM, hg, hle, hm, hsz, hx⟩
  · injection hv0 with e1 e2 e3
    rcases hA with hA | hA
    · exact absurd e1 hA
    · omega
  · injection hv1 with e1 e2 e3
    have hsz' : o + cap' * 2 ≤ cur.size := hsz
    refine ⟨g, o, cur, e1, hM, (Array.getElem?_eq_some_iff.1 hg).1, hg, by omega, fun i hi => ?_⟩
    obtain ⟨hc, _, _⟩ := mono_cells (hv i hi (by omega))
    have hi' : i < C.length := by omega
    have f0 := flatten_get hlen i hi' 0 (by decide)
    have f1 := flatten_get hlen i hi' 1 (by decide)
    rw [hc] at f0 f1
    exact ⟨hx _ _ f0, by rw [Nat.add_assoc]; exact hx _ _ f1⟩
theorem cell_of {w : World} {g k : Nat} {cur : Array Value} {t : TypeId} {u : Value} (h : w.heap[g]? = some (.cells cur t (0, 0))) (hk : cur[k]? = some u) : w.cell? ⟨g, k, none⟩ = some u ∧ w.frozen? ⟨g, k, none⟩ = false := by
  obtain ⟨h1, h2⟩ := obj_cell h k
  exact ⟨h1.trans hk, h2⟩
end Go.Proofs.Ytdljgclaccahaaa
