/-
  A slice of slices of ints that a call builds by append. General.
-/
import Derived.Test.YtcapcghaihmfeaaOwn
namespace Go.Proofs.Ytcapcghaihmfeaa
open Go Go.RowKit

/-- The slice v, whose elements are slices of ints, holds ll; all of it lies in blocks from B on; e: the number of the type of a row. -/
def OwnRows (e : TypeId) (B : Nat) (w : World) (v : Value) (ll : List (List Int)) (V : List Value) : Prop :=
  Own (fun k => B ≤ k) e 1 w v ll.length V ∧ V.length = ll.length ∧ ∀ i (h : i < ll.length) (h' : i < V.length), ∃ A cap, V[i] = .slice A ll[i].length cap ∧ Ints (fun k => B ≤ k ∧ v.ownBlock ≠ some k) w A ll[i] cap

theorem OwnRows.nil (e : TypeId) (B : Nat) (w : World) : OwnRows e B w (.slice none 0 0) [] [] := ⟨Own.nil _ _ _ _, rfl, fun i h => absurd h (Nat.not_lt_zero i)⟩
theorem OwnRows.own {e : TypeId} {B : Nat} {w : World} {v : Value} {ll : List (List Int)} {V : List Value} (h : OwnRows e B w v ll V) : Own (fun k => B ≤ k) e 1 w v ll.length V := h.1
theorem OwnRows.no {e : TypeId} {B : Nat} {w w' : World} {v : Value} {ll : List (List Int)} {V : List Value} (h : OwnRows e B w v ll V) (c : Chg No w w') : OwnRows e B w' v ll V :=
  ⟨h.1.no c, h.2.1, fun i hi hi' => let ⟨A, cap, hv, hs⟩ := h.2.2 i hi hi'; ⟨A, cap, hv, hs.no intE_good c⟩⟩

theorem OwnRows.push {e : TypeId} {B : Nat} {W w1 : World} {v v' : Value} {ll : List (List Int)} {V : List Value} (h : OwnRows e B W v ll V) {A : Option Addr} {r : List Int} {cap : Nat} (hr : Ints (fun k => B ≤ k ∧ v.ownBlock ≠ some k) W A r cap)
    (ho : Own (fun k => B ≤ k) e 1 w1 v' (ll.length + 1) (V ++ [.slice A r.length cap])) (hc : Chg (fun k => v.ownBlock = some k) W w1) (hb : v'.ownBlock = v.ownBlock ∨ v'.ownBlock = some W.heap.size) :
    OwnRows e B w1 v' (ll ++ [r]) (V ++ [.slice A r.length cap]) := by
  obtain ⟨hown, hlen, hrows⟩ := h
  have keep : ∀ {A : Option Addr} {r : List Int} {cap : Nat}, Ints (fun k => B ≤ k ∧ v.ownBlock ≠ some k) W A r cap → Ints (fun k => B ≤ k ∧ v'.ownBlock ≠ some k) w1 A r cap := by
    intro A r cap hs
    have h1 := (hs.mono intE_good (R' := fun k => (B ≤ k ∧ v.ownBlock ≠ some k) ∧ v'.ownBlock ≠ some k) (fun k hk hR => ⟨hR, by
      rcases hb with hb | hb
      · rw [hb]; exact hR.2
      · rw [hb]; intro e; simp at e; omega⟩))
    have h2 := h1.chg intE_good hc (fun k hk hs => hk.1.2 hs)
    exact h2.mono intE_good (fun k _ hk => ⟨hk.1.1, hk.2⟩)
  refine ⟨by simpa using ho, by simp [hlen], fun i hi hi' => ?_⟩
  by_cases hlt : i < ll.length
  · obtain ⟨A', cap', hv, hs⟩ := hrows i hlt (by omega)
    refine ⟨A', cap', ?_, ?_⟩
    · rw [List.getElem_append_left (by omega), List.getElem_append_left hlt]; exact hv
    · rw [List.getElem_append_left hlt]; exact keep hs
  · have : i = ll.length := by simp at hi; omega
    subst this
    refine ⟨A, cap, ?_, ?_⟩
    · rw [List.getElem_append_right (by omega), List.getElem_append_right (by omega)]
      simp [hlen]
    · rw [List.getElem_append_right (by omega)]
      simpa using keep hr

theorem OwnRows.rows {e : TypeId} {B : Nat} {w : World} {v : Value} {ll : List (List Int)} {V : List Value} (h : OwnRows e B w v ll V) (hl : ll.length ≤ big) : ∃ A cap, v = .slice A ll.length cap ∧ Rows2 (fun k => B ≤ k) w A ll cap := by
  obtain ⟨hown, hlen, hrows⟩ := h
  refine hown.sl (E := RowE) hl (fun g o cap hv hM hc i hi => ?_)
  obtain ⟨A, c, hvi, hs⟩ := hrows i hi (by omega)
  refine ⟨hM, A, c, ?_, hs.mono intE_good (fun k _ hk => hk.1)⟩
  rw [← hvi]
  simpa using hc i V[i] (by rw [List.getElem?_eq_getElem (by omega)])
end Go.Proofs.Ytcapcghaihmfeaa
