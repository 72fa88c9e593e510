/-
  Chapter 17, plain law: the order of cells, lists that stand, getting, dropping, setting.
-/
import Derived.Test.YtgofncopoieigaaGreatDoorMA
import Derived.Sort.Walk0
namespace Go.Proofs.YtgofncopoieigaaGreatDoor
open Go Go.RowKit

/-- A cell, a share: address, field, number. -/
abbrev Tri := Int × ByteArray × Int

theorem bl_irrefl : ∀ x : List UInt8, Op.bytesLess x x = false
  | [] => rfl
  | a :: x => by
    unfold Op.bytesLess
    rw [bl_irrefl x]
    simp
theorem bl_trans : ∀ x y z : List UInt8, Op.bytesLess x y = true → Op.bytesLess y z = true → Op.bytesLess x z = true
  | _, [], _, h, _ => by simp [Op.bytesLess] at h
  | _, _ :: _, [], _, h => by simp [Op.bytesLess] at h
  | [], _ :: _, _ :: _, _, _ => by simp [Op.bytesLess]
  | a :: x, b :: y, c :: z, h1, h2 => by
    unfold Op.bytesLess at *
    simp only [Bool.or_eq_true, decide_eq_true_eq, Bool.and_eq_true, beq_iff_eq] at *
    rcases h1 with h1 | ⟨rfl, h1⟩
    · rcases h2 with h2 | ⟨rfl, h2⟩
      · exact .inl (UInt8.lt_trans h1 h2)
      · exact .inl h1
    · rcases h2 with h2 | ⟨rfl, h2⟩
      · exact .inl h2
      · exact .inr ⟨rfl, bl_trans x y z h1 h2⟩
theorem bl_tri : ∀ x y : List UInt8, Op.bytesLess x y = false → Op.bytesLess y x = false → x = y
  | [], [], _, _ => rfl
  | [], _ :: _, h, _ => by simp [Op.bytesLess] at h
  | _ :: _, [], _, h => by simp [Op.bytesLess] at h
  | a :: x, b :: y, h1, h2 => by
    unfold Op.bytesLess at *
    simp only [Bool.or_eq_false_iff, decide_eq_false_iff_not, Bool.and_eq_false_iff, beq_eq_false_iff_ne] at *
    have hab : a = b := by
      have e1 := h1.1
      have e2 := h2.1
      rw [UInt8.lt_iff_toNat_lt] at e1 e2
      exact UInt8.toNat_inj.1 (by omega)
    subst hab
    have e1 := h1.2
    have e2 := h2.2
    simp at e1 e2
    rw [bl_tri x y e1 e2]
/-- How keys stand. -/
def ltK (a : Int) (f : ByteArray) (b : Int) (g : ByteArray) : Bool := decide (a < b) || (decide (a = b) && Op.bytesLess f.toList g.toList)
def eqK (a : Int) (f : ByteArray) (b : Int) (g : ByteArray) : Bool := decide (a = b) && (f.toList == g.toList)
/-- What order tells. -/
def cmpS (f g : ByteArray) : Int := if Op.bytesLess f.toList g.toList = true then -1 else if (f.toList == g.toList) = true then 0 else 1
def cmpZ (a b : Int) : Int := if a < b then -1 else if a = b then 0 else 1
def ordK (a : Int) (f : ByteArray) (b : Int) (g : ByteArray) : Int := if cmpZ a b ≠ 0 then cmpZ a b else cmpS f g
theorem ltK_irrefl (a : Int) (f : ByteArray) : ltK a f a f = false := by unfold ltK; rw [bl_irrefl]; simp
theorem ltK_trans {a b c : Int} {f g h : ByteArray} (h1 : ltK a f b g = true) (h2 : ltK b g c h = true) : ltK a f c h = true := by
  unfold ltK at *
  simp only [Bool.or_eq_true, decide_eq_true_eq, Bool.and_eq_true] at *
  rcases h1 with h1 | ⟨rfl, h1⟩
  · rcases h2 with h2 | ⟨rfl, h2⟩
    · exact .inl (by omega)
    · exact .inl h1
  · rcases h2 with h2 | ⟨rfl, h2⟩
    · exact .inl h2
    · exact .inr ⟨rfl, bl_trans _ _ _ h1 h2⟩
theorem ltK_tri {a b : Int} {f g : ByteArray} (h1 : ltK a f b g = false) (h2 : ltK b g a f = false) : eqK a f b g = true := by
  unfold ltK eqK at *
  simp only [Bool.or_eq_false_iff, decide_eq_false_iff_not, Bool.and_eq_false_iff, Bool.and_eq_true, decide_eq_true_eq, beq_iff_eq] at *
  have hab : a = b := by omega
  subst hab
  exact ⟨rfl, bl_tri _ _ (by have := h1.2; simpa using this) (by have := h2.2; simpa using this)⟩
theorem eqK_iff {a b : Int} {f g : ByteArray} : eqK a f b g = true ↔ a = b ∧ f.toList = g.toList := by
  unfold eqK; simp
theorem eqK_lt {a b c : Int} {f g h : ByteArray} (e : eqK a f b g = true) : ltK a f c h = ltK b g c h := by
  obtain ⟨rfl, e2⟩ := eqK_iff.1 e
  unfold ltK; rw [e2]
theorem eqK_lt' {a b c : Int} {f g h : ByteArray} (e : eqK a f b g = true) : ltK c h a f = ltK c h b g := by
  obtain ⟨rfl, e2⟩ := eqK_iff.1 e
  unfold ltK; rw [e2]
theorem eqK_symm {a b : Int} {f g : ByteArray} : eqK a f b g = eqK b g a f := by
  rw [Bool.eq_iff_iff, eqK_iff, eqK_iff]
  exact ⟨fun h => ⟨h.1.symm, h.2.symm⟩, fun h => ⟨h.1.symm, h.2.symm⟩⟩
theorem ltK_ne {a b : Int} {f g : ByteArray} (h : ltK a f b g = true) : eqK a f b g = false := by
  cases e : eqK a f b g
  · rfl
  · rw [eqK_lt e, ltK_irrefl] at h; cases h
theorem ltK_asymm {a b : Int} {f g : ByteArray} (h : ltK a f b g = true) : ltK b g a f = false := by
  cases e : ltK b g a f
  · rfl
  · have := ltK_trans h e; rw [ltK_irrefl] at this; cases this
theorem ordK_neg {a b : Int} {f g : ByteArray} : ordK a f b g < 0 ↔ ltK a f b g = true := by
  unfold ordK cmpZ cmpS ltK
  by_cases h1 : a < b
  · simp [h1]
  · by_cases h2 : a = b
    · subst h2
      cases hb : Op.bytesLess f.toList g.toList
      · simp
        split <;> omega
      · simp
    · have : ¬ b = a := fun h => h2 h.symm
      simp [h1, h2]
theorem ordK_zero {a b : Int} {f g : ByteArray} : ordK a f b g = 0 ↔ eqK a f b g = true := by
  unfold ordK cmpZ cmpS eqK
  by_cases h1 : a < b
  · simp [h1]; omega
  · by_cases h2 : a = b
    · subst h2
      cases hb : Op.bytesLess f.toList g.toList
      · simp
      · simp
        intro e
        rw [e, bl_irrefl] at hb; cases hb
    · simp [h1, h2]
end Go.Proofs.YtgofncopoieigaaGreatDoor
