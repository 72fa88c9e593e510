/-
  How deep a statement of one expression and one condition is: the reference's.
-/
import Derived.Test.YtpmndblakmobdaaGreatDoorShI
import Derived.Test.YtpmndblakmobdaaGreatDoorHmC
namespace Go.Proofs.YtpmndblakmobdaaGreatDoor
open Go Go.RowKit

/-- A statement of an expression and a condition. -/
def stmG (kd : Int) (nm : ByteArray) (ek en : Int) (es : ByteArray) (eB : Option Addr) (ekl eck : Nat) (ck : Int) (cA : Option Addr) (cel cca : Nat) (cB : Option Addr) (ckl cck : Nat) : Array Value := #[.int .i64 kd, .string nm, .string ⟨#[]⟩, .string ⟨#[]⟩, .int .i64 ek, .int .i64 en, .string es, .slice eB ekl eck, .int .i64 0, .int .i64 0, .string ⟨#[]⟩, .slice none 0 0, .int .i64 ck, .slice cA cel cca, .slice cB ckl cck, .int .i64 0, .int .i64 0, .slice none 0 0, .slice none 0 0, .int .i64 0, .int .i64 0, .string ⟨#[]⟩, .slice none 0 0, .int .i64 0, .int .i64 0, .string ⟨#[]⟩, .slice none 0 0, .string ⟨#[]⟩, .int .i64 0, .slice none 0 0, .slice none 0 0, .slice none 0 0, .slice none 0 0, .slice none 0 0, .slice none 0 0]
theorem stmG_1 (ek en : Int) (es : ByteArray) (eB : Option Addr) (ekl eck : Nat) : stm1 ek en es eB ekl eck = stmG 1 ⟨#[120]⟩ ek en es eB ekl eck 0 none 0 0 none 0 0 := rfl
theorem stmG_8 (ck : Int) (cA : Option Addr) (cel cca : Nat) (cB : Option Addr) (ckl cck : Nat) : stm8 ck cA cel cca cB ckl cck = stmG 8 ⟨#[]⟩ 0 0 ⟨#[]⟩ none 0 0 ck cA cel cca cB ckl cck := rfl
theorem stmG_cells {w : World} {g : Nat} {kd : Int} {nm : ByteArray} {ek en : Int} {es : ByteArray} {eB : Option Addr} {ekl eck : Nat} {ck : Int} {cA : Option Addr} {cel cca : Nat} {cB : Option Addr} {ckl cck : Nat} (h : w.heap[g]? = some (.cells (stmG kd nm ek en es eB ekl eck ck cA cel cca cB ckl cck) 96 (0, 0))) : w.cell? ⟨g, 0, none⟩ = some (.int .i64 kd) ∧ w.cell? ⟨g, 1, none⟩ = some (.string nm) ∧ w.cell? ⟨g, 2, none⟩ = some (.string ⟨#[]⟩) ∧ w.cell? ⟨g, 3, none⟩ = some (.string ⟨#[]⟩) ∧ w.cell? ⟨g, 4, none⟩ = some (.int .i64 ek) ∧ w.cell? ⟨g, 5, none⟩ = some (.int .i64 en) ∧ w.cell? ⟨g, 6, none⟩ = some (.string es) ∧ w.cell? ⟨g, 7, none⟩ = some (.slice eB ekl eck) ∧ w.cell? ⟨g, 8, none⟩ = some (.int .i64 0) ∧ w.cell? ⟨g, 9, none⟩ = some (.int .i64 0) ∧ w.cell? ⟨g, 10, none⟩ = some (.string ⟨#[]⟩) ∧ w.cell? ⟨g, 11, none⟩ = some (.slice none 0 0) ∧ w.cell? ⟨g, 12, none⟩ = some (.int .i64 ck) ∧ w.cell? ⟨g, 13, none⟩ = some (.slice cA cel cca) ∧ w.cell? ⟨g, 14, none⟩ = some (.slice cB ckl cck) ∧ w.cell? ⟨g, 15, none⟩ = some (.int .i64 0) ∧ w.cell? ⟨g, 16, none⟩ = some (.int .i64 0) ∧ w.cell? ⟨g, 17, none⟩ = some (.slice none 0 0) ∧ w.cell? ⟨g, 18, none⟩ = some (.slice none 0 0) ∧ w.cell? ⟨g, 19, none⟩ = some (.int .i64 0) ∧ w.cell? ⟨g, 20, none⟩ = some (.int .i64 0) ∧ w.cell? ⟨g, 21, none⟩ = some (.string ⟨#[]⟩) ∧ w.cell? ⟨g, 22, none⟩ = some (.slice none 0 0) ∧ w.cell? ⟨g, 23, none⟩ = some (.int .i64 0) ∧ w.cell? ⟨g, 24, none⟩ = some (.int .i64 0) ∧ w.cell? ⟨g, 25, none⟩ = some (.string ⟨#[]⟩) ∧ w.cell? ⟨g, 26, none⟩ = some (.slice none 0 0) ∧ w.cell? ⟨g, 27, none⟩ = some (.string ⟨#[]⟩) ∧ w.cell? ⟨g, 28, none⟩ = some (.int .i64 0) ∧ w.cell? ⟨g, 29, none⟩ = some (.slice none 0 0) ∧ w.cell? ⟨g, 30, none⟩ = some (.slice none 0 0) ∧ w.cell? ⟨g, 31, none⟩ = some (.slice none 0 0) ∧ w.cell? ⟨g, 32, none⟩ = some (.slice none 0 0) ∧ w.cell? ⟨g, 33, none⟩ = some (.slice none 0 0) ∧ w.cell? ⟨g, 34, none⟩ = some (.slice none 0 0) := by
  unfold stmG at h
  simp [World.cell?, h]
def dS (me mc n : Nat) (x : ET me) (y : CT mc n) : Nat := max (max (dC mc n y 99) (max (dE me x 99) (dE 1 zE 99))) (dA 1 1 1 zA 99) + 1
theorem dS_deep (me mc n : Nat) (x : ET me) (y : CT mc n) : decide (100 < dS me mc n x y) = (deepC mc n y 99 || deepE me x 99) := by
  have h1 := dC_deep mc n y 99
  have h2 := dE_deep me x 99
  have h3 := dE_deep 1 zE 99
  have h4 := dA_deep 1 1 1 zA 99
  rw [zE_deep (by omega)] at h3
  rw [zA_deep (by omega)] at h4
  have h3' : ¬ 99 < dE 1 zE 99 := of_decide_eq_false h3
  have h4' : ¬ 99 < dA 1 1 1 zA 99 := of_decide_eq_false h4
  rw [← h1, ← h2]
  unfold dS
  generalize dC mc n y 99 = a at *
  generalize dE me x 99 = b at *
  generalize dE 1 zE 99 = c at *
  generalize dA 1 1 1 zA 99 = d at *
  rw [Bool.eq_iff_iff, Bool.or_eq_true]
  simp only [decide_eq_true_eq]
  omega

end Go.Proofs.YtpmndblakmobdaaGreatDoor
