/-
  The reference's Light, Size, Depth of formulas.
-/
import Derived.Test.YtpmndblakmobdaaDoorForm
import Derived.Deep.LoopGhost
import Derived.Deep.QuietTactic
import Derived.BigQuiet
namespace Go.Proofs.YtpmndblakmobdaaDoor
open Go Go.RowKit

theorem obj_four {w : World} {b : Nat} {x y z u : Value} {t : TypeId} (h : w.heap[b]? = some (.cells #[x, y, z, u] t (0, 0))) :
    w.cell? ⟨b, 0, none⟩ = some x ∧ w.cell? ⟨b, 1, none⟩ = some y ∧ w.cell? ⟨b, 2, none⟩ = some z ∧ w.cell? ⟨b, 3, none⟩ = some u := by
  simp [World.cell?, h]

/-- Through a list as long as the number is not below 0. -/
def goF {α : Type} (s : α → Int → Int) : List α → Int → Int
  | [], l => l
  | k :: ks, l => if 0 ≤ l then goF s ks (s k l) else l
theorem goF_neg {α : Type} (s : α → Int → Int) {l : Int} (h : l < 0) : ∀ ks : List α, goF s ks l = l
  | [] => rfl
  | k :: ks => by unfold goF; rw [if_neg (by omega)]
theorem goF_step {α : Type} (s : α → Int → Int) {l : Int} (h : 0 ≤ l) (ks : List α) (i : Nat) (hi : i < ks.length) : goF s (ks.drop i) l = goF s (ks.drop (i + 1)) (s ks[i] l) := by
  rw [List.drop_eq_getElem_cons hi]
  show (if 0 ≤ l then _ else _) = _
  rw [if_pos h]
theorem goF_range {α : Type} {s : α → Int → Int} (hs : ∀ k l, 0 ≤ l → -1 ≤ s k l ∧ s k l ≤ l) : ∀ (ks : List α) (l : Int), -1 ≤ l → -1 ≤ goF s ks l ∧ goF s ks l ≤ l
  | [], l, h => ⟨h, Int.le_refl _⟩
  | k :: ks, l, h => by
    unfold goF
    split
    · rename_i h0
      have h1 := hs k l h0
      have h2 := goF_range hs ks (s k l) h1.1
      omega
    · omega
/-- How many formulas are left. -/
def sizeF : (n : Nat) → FT n → Int → Int
  | 0, _, l => l
  | n + 1, f, l => goF (sizeF n) (Node.kids f) (l - 1)
theorem sizeF_range : ∀ (n : Nat) (f : FT n) (l : Int), 0 ≤ l → -1 ≤ sizeF n f l ∧ sizeF n f l ≤ l
  | 0, _, l, h => ⟨by unfold sizeF; omega, by unfold sizeF; omega⟩
  | n + 1, f, l, h => by
    have := goF_range (s := sizeF n) (sizeF_range n) (Node.kids f) (l - 1) (by omega)
    unfold sizeF
    omega

/-- How deep one is, at most one more than a bound. -/
def depthF : (n : Nat) → FT n → Nat → Nat
  | 0, _, _ => 0
  | _ + 1, _, 0 => 1
  | n + 1, f, b + 1 => (Node.kids f).foldl (fun m k => max m (depthF n k b)) 0 + 1
theorem foldl_max_le {α : Type} (s : α → Nat) (K : Nat) : ∀ (ks : List α) (m : Nat), (ks.foldl (fun m k => max m (s k)) m ≤ K ↔ m ≤ K ∧ ∀ k ∈ ks, s k ≤ K)
  | [], m => by simp
  | k :: ks, m => by
    rw [List.foldl_cons, foldl_max_le s K ks]
    simp only [List.mem_cons, forall_eq_or_imp, Nat.max_le, and_assoc]
theorem depthF_le : ∀ (n : Nat) (f : FT n) (b : Nat), depthF n f b ≤ b + 1
  | 0, _, b => by unfold depthF; omega
  | _ + 1, _, 0 => by unfold depthF; omega
  | n + 1, f, b + 1 => by
    unfold depthF
    have := (foldl_max_le (fun k => depthF n k b) (b + 1) (Node.kids f) 0).2 ⟨Nat.zero_le _, fun k _ => depthF_le n k b⟩
    omega

end Go.Proofs.YtpmndblakmobdaaDoor
