/-
  A region that draws its order, whose operations only read, and whose callees may lay new blocks but change nothing: walked once. General.
-/
import Derived.Test.YtgofncopoieigaaDoorBase
import Derived.Deep.QuietTactic
import Derived.BigQuiet
namespace Go.Proofs.YtgofncopoieigaaDoor
open Go Go.RowKit

/-- w with blocks laid behind it, and draws made. -/
def later (w : World) (d : Nat) (os : Array Obj) : World := { w with heap := w.heap ++ os, drawn := d }
structure Lat where
  d : Nat
  os : Array Obj

instance : Inhabited Lat := ⟨⟨0, #[]⟩⟩

theorem chg_later (w : World) (d : Nat) (os : Array Obj) : Chg No w (later w d os) :=
  ⟨rfl, rfl, rfl, by simp [later], fun k hk _ => by simp [later, Array.getElem?_append, hk]⟩
theorem later_of_chg {w w' : World} (h : Chg No w w') : ∃ p : Lat, w' = later w p.d p.os := by
  have hh : w'.heap = w.heap ++ w'.heap.extract w.heap.size w'.heap.size := by
    apply Array.ext
    · simp; have := h.size; omega
    · intro i h1 h2
      by_cases hi : i < w.heap.size
      · have := h.block i hi id
        rw [Array.getElem?_eq_getElem h1, Array.getElem?_eq_getElem hi] at this
        injection this with this
        rw [Array.getElem_append_left hi, this]
      · rw [Array.getElem_append_right (by omega), Array.getElem_extract]
        congr 1; omega
  refine ⟨⟨w'.drawn, w'.heap.extract w.heap.size w'.heap.size⟩, ?_⟩
  have e : w' = { w with heap := w'.heap, drawn := w'.drawn } := by
    obtain ⟨h1, h2, h3, _, _⟩ := h
    cases w'
    simp only at h1 h2 h3
    subst h1; subst h2; subst h3
    rfl
  unfold later
  rw [← hh]
  exact e
theorem later_trans {w w' : World} {d : Nat} {os : Array Obj} (h : Chg No (later w d os) w') : ∃ p : Lat, w' = later w p.d p.os := later_of_chg ((chg_later w d os).thenNo h)

theorem wp_region_later {P : Program} {id : Nat} {Q : Exit → Act → World → Prop} {a : Act} {w : World} {l : List Oper} (hm : P.follows .mixedOrders = true) (hB : Region.lexB .any l.toArray = true)
    (h : wpQuiet P l.toArray (fun w' => ∃ p : Lat, w' = later w p.d p.os) (fun a' => ∀ w', (∃ p : Lat, w' = later w p.d p.os) → Q .normal a' w') l a) : (Code.region id l.toArray true).wp P Q a w :=
  wp_region_quiet (C := fun w' => ∃ p : Lat, w' = later w p.d p.os) hm hB ⟨⟨w.drawn + 1, #[]⟩, by unfold later; rw [Array.append_empty]⟩ (by simpa using h)

theorem Calls.later_of {P : Program} {f : FuncId} {args : Array Value} {w : World} {d : Nat} {os : Array Obj} {v : Value}
    (h : Calls P f args (later w d os) fun e w' => e = .returned v ∧ Chg No (later w d os) w') : Calls P f args (later w d os) fun e w'' => e = .returned v ∧ ∃ p : Lat, w'' = later w p.d p.os :=
  h.mono fun _ _ ⟨he, hc⟩ => ⟨he, later_trans hc⟩
theorem Calls.later_same {P : Program} {f : FuncId} {args : Array Value} {w : World} {d : Nat} {os : Array Obj} {v : Value}
    (h : Calls P f args (later w d os) fun e w' => e = .returned v ∧ later w d os = w') : Calls P f args (later w d os) fun e w'' => e = .returned v ∧ ∃ p : Lat, w'' = later w p.d p.os :=
  h.mono fun _ _ ⟨he, hc⟩ => ⟨he, ⟨d, os⟩, hc.symm⟩
theorem cell_later {w : World} {b o : Nat} {v : Value} (h : w.cell? ⟨b, o, none⟩ = some v) (d : Nat) (os : Array Obj) : (later w d os).cell? ⟨b, o, none⟩ = some v := (chg_later w d os).cell h id
end Go.Proofs.YtgofncopoieigaaDoor
