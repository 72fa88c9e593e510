/-
  Chapter 17: trammelref17's Set, Fresh, Stands, Check walked.
-/
import Derived.Test.YtgofncopoieigaaDoorHpO
namespace Go.Proofs.YtgofncopoieigaaDoor
open Go Go.RowKit

def stepB (s : Tri) (acc : List Tri × Bool) (x : Tri) : List Tri × Bool :=
  if acc.2 = false ∧ ltT s x = true then (acc.1 ++ [s] ++ [x], true) else (acc.1 ++ [x], acc.2)
def foldB (s : Tri) (l : List Tri) : List Tri × Bool := l.foldl (stepB s) ([], false)
theorem foldB_take {s : Tri} {l : List Tri} {k : Nat} (hk : k < l.length) {r : List Tri × Bool} (h : foldB s (l.take k) = r) : foldB s (l.take (k + 1)) = stepB s r l[k] := by
  rw [List.take_succ_eq_append_getElem hk]
  unfold foldB at *
  rw [List.foldl_append, h]
  rfl
theorem foldB_len (s : Tri) (l : List Tri) : (foldB s l).1.length ≤ 2 * l.length := by
  have h : ∀ (l : List Tri) (a : List Tri × Bool), (l.foldl (stepB s) a).1.length ≤ a.1.length + 2 * l.length := by
    intro l
    induction l with
    | nil => intro a; exact Nat.le_refl _
    | cons x t ih =>
      intro a
      have h1 := ih (stepB s a x)
      have h2 : (stepB s a x).1.length ≤ a.1.length + 2 := by unfold stepB; split <;> simp
      simp only [List.foldl_cons, List.length_cons]
      omega
  have := h l ([], false)
  simpa [foldB] using this
def setR (l : List Tri) (s : Tri) : List Tri := if (foldB s (dropP l s)).2 = true then (foldB s (dropP l s)).1 else (foldB s (dropP l s)).1 ++ [s]
theorem fold_ab (s : Tri) : ∀ (l : List Tri) (a : List Tri × Bool), (∀ x ∈ l, eqT x s = false) → l.foldl (stepB s) a = l.foldl (stepA s) a
  | [], _, _ => rfl
  | x :: t, a, h => by
    rw [List.foldl_cons, List.foldl_cons, fold_ab s t _ (fun y hy => h y (by simp [hy]))]
    congr 1
    unfold stepA stepB
    rw [if_neg (show ¬ eqT x s = true by rw [h x (by simp)]; simp)]
theorem dropP_none {l : List Tri} {s x : Tri} (h : x ∈ dropP l s) : eqT x s = false := by
  unfold dropP at h
  simpa using (List.mem_filter.1 h).2
theorem strict_drop {l : List Tri} (h : Strict l) (s : Tri) : Strict (dropP l s) := h.filter _
theorem addR_drop {s : Tri} : ∀ {l : List Tri}, Strict l → addR (dropP l s) s = setP l s
  | [], _ => rfl
  | x :: t, hs => by
    obtain ⟨h1, h2⟩ := List.pairwise_cons.1 hs
    have ih := addR_drop (s := s) h2
    unfold setP
    by_cases he : eqT x s = true
    · rw [if_pos he]
      have e : dropP (x :: t) s = t := by
        unfold dropP
        rw [List.filter_cons_of_neg (by simp [he])]
        exact dropP_self (fun y hy => by
          have := ltT_ne (h1 y hy)
          cases hys : eqT y s
          · rfl
          · rw [eqT_trans he (eqT_symm hys)] at this; cases this)
      rw [e]
      cases t with
      | nil => rfl
      | cons y t =>
        have h3 : ltT s y = true := by rw [← eqT_lt he]; exact h1 y (by simp)
        unfold addR
        rw [if_neg (by rw [eqT_comm, ltT_ne h3]; simp), if_pos h3]
    · rw [if_neg he]
      have e : dropP (x :: t) s = x :: dropP t s := by unfold dropP; rw [List.filter_cons_of_pos (by simpa using he)]
      rw [e]
      unfold addR
      rw [if_neg he]
      by_cases hl : ltT s x = true
      · rw [if_pos hl, if_pos hl]
        rw [dropP_self (fun y hy => by rw [eqT_comm]; exact ltT_ne (ltT_trans hl (h1 y hy)))]
      · rw [if_neg hl, if_neg hl, ih]
theorem setR_eq {l : List Tri} (h : Strict l) (s : Tri) : setR l s = setP l s := by
  have e : foldB s (dropP l s) = foldA s (dropP l s) := fold_ab s _ _ (fun x hx => dropP_none hx)
  have : setR l s = addS (dropP l s) s := by unfold setR addS; rw [e]
  rw [this, addS_eq (strict_drop h s), addR_drop h]
theorem addR_ok {s : Tri} (hs : TriOk s) : ∀ {o : List Tri}, (∀ m ∈ o, TriOk m) → ∀ m ∈ setP o s, TriOk m
  | [], _, m, hm => by
    have e : m = s := by simpa [setP] using hm
    rw [e]
    exact hs
  | x :: t, h, m, hm => by
    unfold setP at hm
    split at hm
    · rcases List.mem_cons.1 hm with rfl | hm
      · exact hs
      · exact h m (by simp [hm])
    · split at hm
      · rcases List.mem_cons.1 hm with rfl | hm
        · exact hs
        · exact h m hm
      · rcases List.mem_cons.1 hm with rfl | hm
        · exact h _ (by simp)
        · exact addR_ok hs (fun m hm => h m (by simp [hm])) m hm

end Go.Proofs.YtgofncopoieigaaDoor
