/-
  The first of a list that a test finds; functions that are entered. General.
-/
import Derived.Test.YtgofncopoieigaaDoorRows
import Derived.Test.YtgofncopoieigaaDoorBase
namespace Go.Proofs.YtgofncopoieigaaDoor
open Go Go.RowKit

theorem ret_bool {a b : Bool} (h : a = b) : Ending.returned (.bool a) = .returned (.bool b) := by rw [h]
theorem ret_int {a b : Int} (h : a = b) : Ending.returned (.int .i64 a) = .returned (.int .i64 b) := by rw [h]
def findI {α : Type} (p : α → Bool) (l : List α) : Int := match l.findIdx? p with | some i => (i : Int) | none => -1

theorem findI_hit {α : Type} {p : α → Bool} {l : List α} {k : Nat} (hk : k < l.length) (hp : p l[k] = true) (hall : ∀ j (h : j < l.length), j < k → p l[j] = false) : findI p l = k := by
  have : l.findIdx? p = some k := by
    rw [List.findIdx?_eq_some_iff_getElem]
    exact ⟨hk, hp, fun j hj => by simp [hall j (by omega) hj]⟩
  simp [findI, this]
theorem findI_miss {α : Type} {p : α → Bool} {l : List α} (hall : ∀ j (h : j < l.length), p l[j] = false) : findI p l = -1 := by
  have : l.findIdx? p = none := by
    rw [List.findIdx?_eq_none_iff]
    intro x hx
    obtain ⟨i, hi, rfl⟩ := List.mem_iff_getElem.1 hx
    exact hall i hi
  simp [findI, this]
theorem findI_ge {α : Type} (p : α → Bool) (l : List α) : decide (0 ≤ findI p l) = l.any p := by
  unfold findI
  cases h : l.findIdx? p with
  | none =>
    rw [List.findIdx?_eq_none_iff] at h
    have : l.any p = false := by simpa using h
    simp [this]
  | some k =>
    rw [List.findIdx?_eq_some_iff_getElem] at h
    obtain ⟨hk, hp, _⟩ := h
    have : l.any p = true := List.any_eq_true.2 ⟨l[k], List.getElem_mem hk, hp⟩
    simp [this]

/-- A function of the program that is entered when it is called. -/
def Entered (fv : FuncId) : Prop := ∀ args w, Sem.run Tryd.prog (callFunc fv args) w = .ok (.enter fv args) w

theorem errV_zero (T : TypeId) : errV T 0 = .nilIface := by simp [errV]
theorem errV_of (T : TypeId) {c : Int} (h : c ≠ 0) : errV T c = .iface T (.int .i64 c) := by simp [errV, h]
end Go.Proofs.YtgofncopoieigaaDoor
