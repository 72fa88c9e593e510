/-
  How deep things are: the reference's.
-/
import Derived.Test.YtpmndblakmobdaaGreatDoorMB
import Derived.Test.YtpmndblakmobdaaGreatDoorMA
namespace Go.Proofs.YtpmndblakmobdaaGreatDoor
open Go Go.RowKit

def dE : (n : Nat) → ET n → Nat → Nat
  | 0, _, b => b + 1
  | _ + 1, _, 0 => 1
  | n + 1, x, b + 1 => ((ENode.kids x).map fun k => dE n k b).foldl max 0 + 1
def dC (m : Nat) : (n : Nat) → CT m n → Nat → Nat
  | 0, _, b => b + 1
  | _ + 1, _, 0 => 1
  | n + 1, x, b + 1 => ((CNode.kids x).map fun k => dC m n k b).foldl max (((CNode.es x).map fun k => dE m k b).foldl max 0) + 1
def dA (m n : Nat) : (k : Nat) → AT m n k → Nat → Nat
  | 0, _, b => b + 1
  | _ + 1, _, 0 => 1
  | k + 1, x, b + 1 => ((ANode.kids x).map fun q => dA m n k q b).foldl max (max (dC m n (ANode.c x) b) (max (dE m (ANode.e x) b) (dE m (ANode.v x) b))) + 1
theorem foldl_max_leH : ∀ (l : List Nat) (a c : Nat), l.foldl max a ≤ c ↔ a ≤ c ∧ ∀ x ∈ l, x ≤ c
  | [], a, c => by simp
  | x :: t, a, c => by
    rw [List.foldl_cons, foldl_max_leH t]
    simp only [List.mem_cons, forall_eq_or_imp, Nat.max_le, and_assoc]
theorem foldl_max_lt (l : List Nat) (a c : Nat) : c < l.foldl max a ↔ c < a ∨ ∃ x ∈ l, c < x := by
  rw [← Nat.not_le, foldl_max_leH]
  constructor
  · intro h
    by_cases h1 : c < a
    · exact .inl h1
    · refine .inr ?_
      apply Classical.byContradiction
      intro h2
      exact h ⟨by omega, fun x hx => by
        apply Classical.byContradiction
        intro h3
        exact h2 ⟨x, hx, by omega⟩⟩
  · rintro (h | ⟨x, hx, h⟩) ⟨h1, h2⟩
    · omega
    · have := h2 x hx; omega
theorem take_fold {α : Type} (f : α → Nat) {l : List α} {i : Nat} (h : i < l.length) (a : Nat) : ((l.take (i + 1)).map f).foldl max a = max (((l.take i).map f).foldl max a) (f l[i]) := by
  rw [List.take_succ_eq_append_getElem h, List.map_append, List.foldl_append]; rfl
theorem nat_lt_max {a b c : Nat} : c < max a b ↔ c < a ∨ c < b := by omega
theorem dE_le : ∀ (n : Nat) (x : ET n) (b : Nat), dE n x b ≤ b + 1
  | 0, _, b => Nat.le_refl _
  | _ + 1, _, 0 => Nat.le_refl _
  | n + 1, x, b + 1 => by
    show _ + 1 ≤ _
    refine Nat.succ_le_succ ((foldl_max_leH _ _ _).2 ⟨Nat.zero_le _, fun v hv => ?_⟩)
    obtain ⟨k, _, rfl⟩ := List.mem_map.1 hv
    exact dE_le n k b
theorem dC_le (m : Nat) : ∀ (n : Nat) (x : CT m n) (b : Nat), dC m n x b ≤ b + 1
  | 0, _, b => Nat.le_refl _
  | _ + 1, _, 0 => Nat.le_refl _
  | n + 1, x, b + 1 => by
    show _ + 1 ≤ _
    refine Nat.succ_le_succ ((foldl_max_leH _ _ _).2 ⟨(foldl_max_leH _ _ _).2 ⟨Nat.zero_le _, fun v hv => ?_⟩, fun v hv => ?_⟩)
    · obtain ⟨k, _, rfl⟩ := List.mem_map.1 hv
      exact dE_le m k b
    · obtain ⟨k, _, rfl⟩ := List.mem_map.1 hv
      exact dC_le m n k b
theorem dA_le (m n : Nat) : ∀ (k : Nat) (x : AT m n k) (b : Nat), dA m n k x b ≤ b + 1
  | 0, _, b => Nat.le_refl _
  | _ + 1, _, 0 => Nat.le_refl _
  | k + 1, x, b + 1 => by
    show _ + 1 ≤ _
    refine Nat.succ_le_succ ((foldl_max_leH _ _ _).2 ⟨Nat.max_le.2 ⟨dC_le m n _ b, Nat.max_le.2 ⟨dE_le m _ b, dE_le m _ b⟩⟩, fun v hv => ?_⟩)
    obtain ⟨q, _, rfl⟩ := List.mem_map.1 hv
    exact dA_le m n k q b
theorem dE_deep : ∀ (n : Nat) (x : ET n) (b : Nat), decide (b < dE n x b) = deepE n x b
  | 0, _, b => by simp [dE, deepE]
  | _ + 1, _, 0 => by simp [dE, deepE]
  | n + 1, x, b + 1 => by
    show decide (b + 1 < _ + 1) = (ENode.kids x).any (fun k => deepE n k b)
    rw [Bool.eq_iff_iff, decide_eq_true_eq, List.any_eq_true, Nat.succ_lt_succ_iff, foldl_max_lt]
    constructor
    · rintro (h | ⟨v, hv, h⟩)
      · omega
      · obtain ⟨k, hk, rfl⟩ := List.mem_map.1 hv
        exact ⟨k, hk, by rw [← dE_deep n k b]; exact decide_eq_true h⟩
    · rintro ⟨k, hk, h⟩
      rw [← dE_deep n k b] at h
      exact .inr ⟨_, List.mem_map.2 ⟨k, hk, rfl⟩, of_decide_eq_true h⟩
theorem dC_deep (m : Nat) : ∀ (n : Nat) (x : CT m n) (b : Nat), decide (b < dC m n x b) = deepC m n x b
  | 0, _, b => by simp [dC, deepC]
  | _ + 1, _, 0 => by simp [dC, deepC]
  | n + 1, x, b + 1 => by
    show decide (b + 1 < _ + 1) = ((CNode.es x).any (fun k => deepE m k b) || (CNode.kids x).any (fun k => deepC m n k b))
    rw [Bool.eq_iff_iff, decide_eq_true_eq, Bool.or_eq_true, List.any_eq_true, List.any_eq_true, Nat.succ_lt_succ_iff, foldl_max_lt, foldl_max_lt]
    constructor
    · rintro ((h | ⟨v, hv, h⟩) | ⟨v, hv, h⟩)
      · omega
      · obtain ⟨k, hk, rfl⟩ := List.mem_map.1 hv
        exact .inl ⟨k, hk, by rw [← dE_deep m k b]; exact decide_eq_true h⟩
      · obtain ⟨k, hk, rfl⟩ := List.mem_map.1 hv
        exact .inr ⟨k, hk, by rw [← dC_deep m n k b]; exact decide_eq_true h⟩
    · rintro (⟨k, hk, h⟩ | ⟨k, hk, h⟩)
      · rw [← dE_deep m k b] at h
        exact .inl (.inr ⟨_, List.mem_map.2 ⟨k, hk, rfl⟩, of_decide_eq_true h⟩)
      · rw [← dC_deep m n k b] at h
        exact .inr ⟨_, List.mem_map.2 ⟨k, hk, rfl⟩, of_decide_eq_true h⟩
theorem dA_deep (m n : Nat) : ∀ (k : Nat) (x : AT m n k) (b : Nat), decide (b < dA m n k x b) = deepA m n k x b
  | 0, _, b => by simp [dA, deepA]
  | _ + 1, _, 0 => by simp [dA, deepA]
  | k + 1, x, b + 1 => by
    show decide (b + 1 < _ + 1) = (deepC m n (ANode.c x) b || deepE m (ANode.e x) b || deepE m (ANode.v x) b || (ANode.kids x).any (fun q => deepA m n k q b))
    rw [← dC_deep, ← dE_deep, ← dE_deep]
    rw [Bool.eq_iff_iff, decide_eq_true_eq, Bool.or_eq_true, Bool.or_eq_true, Bool.or_eq_true, List.any_eq_true, Nat.succ_lt_succ_iff, foldl_max_lt, decide_eq_true_eq, decide_eq_true_eq, decide_eq_true_eq, nat_lt_max, nat_lt_max]
    constructor
    · rintro ((h | h | h) | ⟨v, hv, h⟩)
      · exact .inl (.inl (.inl h))
      · exact .inl (.inl (.inr h))
      · exact .inl (.inr h)
      · obtain ⟨q, hq, rfl⟩ := List.mem_map.1 hv
        exact .inr ⟨q, hq, by rw [← dA_deep m n k q b]; exact decide_eq_true h⟩
    · rintro (((h | h) | h) | ⟨q, hq, h⟩)
      · exact .inl (.inl h)
      · exact .inl (.inr (.inl h))
      · exact .inl (.inr (.inr h))
      · rw [← dA_deep m n k q b] at h
        exact .inr ⟨_, List.mem_map.2 ⟨q, hq, rfl⟩, of_decide_eq_true h⟩

end Go.Proofs.YtpmndblakmobdaaGreatDoor
