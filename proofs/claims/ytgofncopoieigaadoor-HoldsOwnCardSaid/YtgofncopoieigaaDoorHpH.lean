/-
  Chapter 17: Same, SameShares, trammelref17.Join walked. (Printed by wip/gen17h.py.)
-/
import Derived.Test.YtgofncopoieigaaDoorHpG
import Derived.Laws.StructEq
namespace Go.Proofs.YtgofncopoieigaaDoor
open Go Go.RowKit

theorem toList_inj {f g : ByteArray} (h : f.toList = g.toList) : f = g := by
  rw [ByteArray.toList_eq, ByteArray.toList_eq] at h
  exact ByteArray.ext (Array.toList_inj.1 h)

theorem neqShare (m m' : Tri) (w : World) : (binOp .neq 43 (.agg #[.int .i64 m.1, .string m.2.1, .int .i64 m.2.2]) (.agg #[.int .i64 m'.1, .string m'.2.1, .int .i64 m'.2.2])).run Tryd.prog w = .ok (.bool (!decide (m = m'))) w := by
  have u3 := Tryd.underlying3
  have a3 := Tryd.isAgg3
  have z3 := Tryd.sizeOf3
  have u9 := Tryd.underlying9
  have a9 := Tryd.isAgg9
  have z9 := Tryd.sizeOf9
  have hS : Tryd.prog.underlying 43 = some (.struct (Tryd.prog.fieldsOf 43)) := by kernel_rfl
  have hp : Tryd.prog.stoodInHeld 43 = false := by kernel_rfl
  rw [run_neq_struct, show (10000 : Nat) = 9999 + 1 from rfl, run_equalIn_agg w 9999 43 _ _ hS hp]
  simp only [Program.fieldsOf, Tryd.underlying43]
  obtain ⟨a, f, c⟩ := m
  obtain ⟨a', f', c'⟩ := m'
  have hd : decide ((a, f, c) = (a', f', c')) = ((a == a') && (f.toList == f'.toList) && (c == c')) := by
    rw [Bool.eq_iff_iff]
    simp only [decide_eq_true_eq, Bool.and_eq_true, beq_iff_eq, Prod.mk.injEq]
    exact ⟨fun ⟨h1, h2, h3⟩ => ⟨⟨h1, by rw [h2]⟩, h3⟩, fun ⟨⟨h1, h2⟩, h3⟩ => ⟨h1, toList_inj h2, h3⟩⟩
  rw [hd]
  go_simp
  by_cases h1 : a = a' <;> by_cases h2 : f.toList = f'.toList <;> by_cases h3 : c = c' <;> simp [h1, h2, h3]

theorem neqCell (m m' : Tri) (w : World) : (binOp .neq 45 (.agg #[.int .i64 m.1, .string m.2.1, .int .i64 m.2.2]) (.agg #[.int .i64 m'.1, .string m'.2.1, .int .i64 m'.2.2])).run Tryd.prog w = .ok (.bool (!decide (m = m'))) w := by
  have u3 := Tryd.underlying3
  have a3 := Tryd.isAgg3
  have z3 := Tryd.sizeOf3
  have u9 := Tryd.underlying9
  have a9 := Tryd.isAgg9
  have z9 := Tryd.sizeOf9
  have hS : Tryd.prog.underlying 45 = some (.struct (Tryd.prog.fieldsOf 45)) := by kernel_rfl
  have hp : Tryd.prog.stoodInHeld 45 = false := by kernel_rfl
  rw [run_neq_struct, show (10000 : Nat) = 9999 + 1 from rfl, run_equalIn_agg w 9999 45 _ _ hS hp]
  simp only [Program.fieldsOf, Tryd.underlying45]
  obtain ⟨a, f, c⟩ := m
  obtain ⟨a', f', c'⟩ := m'
  have hd : decide ((a, f, c) = (a', f', c')) = ((a == a') && (f.toList == f'.toList) && (c == c')) := by
    rw [Bool.eq_iff_iff]
    simp only [decide_eq_true_eq, Bool.and_eq_true, beq_iff_eq, Prod.mk.injEq]
    exact ⟨fun ⟨h1, h2, h3⟩ => ⟨⟨h1, by rw [h2]⟩, h3⟩, fun ⟨⟨h1, h2⟩, h3⟩ => ⟨h1, toList_inj h2, h3⟩⟩
  rw [hd]
  go_simp
  by_cases h1 : a = a' <;> by_cases h2 : f.toList = f'.toList <;> by_cases h3 : c = c' <;> simp [h1, h2, h3]

def nd (a : List Tri × Bool) : Nat := if a.2 = true then 0 else 1
theorem stepA_cnt (s : Tri) (a : List Tri × Bool) (x : Tri) : (stepA s a x).1.length + nd (stepA s a x) ≤ a.1.length + nd a + 1 := by
  obtain ⟨o, d⟩ := a
  unfold stepA nd
  split
  · simp
  · split
    · rename_i h
      rw [h.1]
      simp
    · simp
      split <;> omega
theorem addS_len (l : List Tri) (s : Tri) : (addS l s).length ≤ l.length + 1 := by
  have h : ∀ (l : List Tri) (a : List Tri × Bool), (l.foldl (stepA s) a).1.length + nd (l.foldl (stepA s) a) ≤ a.1.length + nd a + l.length := by
    intro l
    induction l with
    | nil => intro a; exact Nat.le_refl _
    | cons x t ih =>
      intro a
      have h1 := ih (stepA s a x)
      have h2 := stepA_cnt s a x
      simp only [List.foldl_cons, List.length_cons]
      omega
  have := h l ([], false)
  unfold addS foldA
  simp only [List.length_nil, nd] at this
  split
  · rename_i hd
    rw [if_pos hd] at this
    simp at this
    omega
  · rename_i hd
    rw [if_neg hd] at this
    simp at this
    rw [List.length_append]
    simp
    omega
def addsS (l : List Tri) : List Tri := l.foldl addS []
theorem addsS_len (l : List Tri) : (addsS l).length ≤ l.length := by
  have h : ∀ (l o : List Tri), (l.foldl addS o).length ≤ o.length + l.length := by
    intro l
    induction l with
    | nil => intro o; simp
    | cons a t ih => intro o; have := ih (addS o a); have := addS_len o a; simp only [List.foldl_cons, List.length_cons]; omega
  have := h l []
  simpa [addsS] using this
theorem addsS_take {s : List Tri} {k : Nat} (hk : k < s.length) (p : List Tri) {o : List Tri} (h : addsS (p ++ s.take k) = o) : addsS (p ++ s.take (k + 1)) = addS o s[k] := by
  rw [List.take_succ_eq_append_getElem hk, ← List.append_assoc]
  unfold addsS at *
  rw [List.foldl_append, h]
  rfl

end Go.Proofs.YtgofncopoieigaaDoor
