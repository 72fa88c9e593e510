/-
  What multiples together are worth: the plain law of LinSpreads.
-/
import Derived.Test.YtpmndblakmobdaaDoorLinD
import Derived.Test.YtpmndblakmobdaaDoorLinA
namespace Go.Proofs.YtpmndblakmobdaaDoor
open Go Go.RowKit

theorem val_split (f : Int → Int) (t : List Mono) (v : Int) : val f t = kAt t v * f v + val f (t.filter fun m => !decide (m.1 = v)) := by
  induction t with
  | nil => simp [val_nil, kAt_nil]
  | cons m t ih =>
    rw [val_cons, kAt_cons, ih]
    by_cases h : m.1 = v
    · rw [List.filter_cons_of_neg (by simp [h]), if_pos h, h, Int.add_mul, Int.add_assoc]
    · rw [List.filter_cons_of_pos (by simp [h]), if_neg h, val_cons, Int.zero_add]
      omega
theorem kAt_filter (t : List Mono) (v u : Int) : kAt (t.filter fun m => !decide (m.1 = v)) u = if u = v then 0 else kAt t u := by
  induction t with
  | nil => simp [kAt_nil]
  | cons m t ih =>
    by_cases h : m.1 = v
    · rw [List.filter_cons_of_neg (by simp [h]), ih, kAt_cons]
      by_cases hu : u = v
      · simp [hu]
      · simp [hu, show ¬ m.1 = u from fun e => hu (e ▸ h)]
    · rw [List.filter_cons_of_pos (by simp [h]), kAt_cons, kAt_cons, ih]
      by_cases hu : u = v
      · rw [if_pos hu, if_pos hu, if_neg (fun e => h (e.trans hu))]; rfl
      · rw [if_neg hu, if_neg hu]
theorem filter_lt {t : List Mono} {m : Mono} (h : m ∈ t) : (t.filter fun x => !decide (x.1 = m.1)).length < t.length := by
  have h1 : (t.filter fun x => !decide (x.1 = m.1)).length ≤ t.length := List.length_filter_le _ _
  have h2 : (t.filter fun x => !decide (x.1 = m.1)).length ≠ t.length := fun e => by
    have := List.length_filter_eq_length_iff.1 e m h
    simp at this
  omega
theorem val_kAt (f : Int → Int) : ∀ (n : Nat) (s t : List Mono), s.length + t.length ≤ n → (∀ v, kAt s v = kAt t v) → val f s = val f t := by
  intro n
  induction n with
  | zero =>
    intro s t h _
    rw [List.eq_nil_of_length_eq_zero (by omega : s.length = 0), List.eq_nil_of_length_eq_zero (by omega : t.length = 0)]
  | succ n ih =>
    intro s t h hk
    have step : ∀ v, (s.filter fun m => !decide (m.1 = v)).length + (t.filter fun m => !decide (m.1 = v)).length ≤ n → val f s = val f t := fun v hl => by
      rw [val_split f s v, val_split f t v, hk v, ih _ _ hl (fun u => by rw [kAt_filter, kAt_filter, hk u])]
    cases s with
    | cons m s =>
      refine step m.1 ?_
      have h1 := filter_lt (t := m :: s) (m := m) (by simp)
      have h2 : (t.filter fun x => !decide (x.1 = m.1)).length ≤ t.length := List.length_filter_le _ _
      omega
    | nil =>
      cases t with
      | nil => rfl
      | cons m t =>
        refine step m.1 ?_
        have h1 := filter_lt (t := m :: t) (m := m) (by simp)
        have h2 : (([] : List Mono).filter fun x => !decide (x.1 = m.1)).length = 0 := rfl
        simp only [List.length_nil] at h h2 ⊢
        omega
theorem val_nf (f : Int → Int) (t : List Mono) : val f (nf t) = val f t := val_kAt f _ _ _ (Nat.le_refl _) (nf_is t).eq
theorem val_scale (f : Int → Int) (x : Int) (t : List Mono) : val f (scale x t) = x * val f t := by
  induction t with
  | nil => simp [scale, val_nil]
  | cons m t ih =>
    show val f ((m.1, x * m.2) :: scale x t) = _
    rw [val_cons, val_cons, ih, Int.mul_add, Int.mul_assoc]

theorem linB_nf {c : Int} {t : List Mono} (hc : coefB c = true) (hl : (nf t).length ≤ 64) (hk : ((nf t).all fun m => coefB m.2) = true) (hv : ∀ m ∈ t, varB m.1 = true) : linB c (nf t) = true := by
  refine linB_good hc hl fun i hi => ?_
  have hN := nf_is t
  have hm : (nf t)[i] ∈ nf t := List.getElem_mem hi
  have e : (nf t).getD i (0, 0) = (nf t)[i] := by simp [List.getD, hi]
  unfold goodAt
  rw [e]
  obtain ⟨x, hx, hxe⟩ := nf_v t hm
  rw [← hxe, hv x hx, List.all_eq_true.1 hk _ hm, decide_eq_true (hN.nz _ hm), Bool.true_and, Bool.true_and, Bool.true_and, hxe]
  by_cases h0 : i = 0
  · rw [decide_eq_true h0]; rfl
  · have hj : i - 1 < (nf t).length := by omega
    have e2 : (nf t).getD (i - 1) (0, 0) = (nf t)[i - 1] := by simp [List.getD, hj]
    rw [e2, decide_eq_true (List.pairwise_iff_getElem.1 hN.asc (i - 1) i hj hi (by omega)), Bool.or_true]

/-- What multiples together are worth. -/
theorem spread_law {a b : Lin} {x y : Int} {vs : List Int} (h1 : addErr a b x y = 0) (h2 : (linVal a.1 a.2 vs).2 = 0) (h3 : (linVal b.1 b.2 vs).2 = 0) :
    (linVal (addLin a b x y).1 (addLin a b x y).2 vs).1 = x * (linVal a.1 a.2 vs).1 + y * (linVal b.1 b.2 vs).1 ∧ (linVal (addLin a b x y).1 (addLin a b x y).2 vs).2 = 0 := by
  have hA : linB a.1 a.2 = true := by
    cases h : linB a.1 a.2
    · rw [addErr, h] at h1; simp at h1
    · rfl
  have hB : linB b.1 b.2 = true := by
    cases h : linB b.1 b.2
    · rw [addErr, h] at h1; simp at h1
    · rfl
  have hT : (timesB x && timesB y) = true := by
    cases h : (timesB x && timesB y)
    · rw [addErr, hA, hB, h] at h1; simp at h1
    · rfl
  have e1 : addErr a b x y = sumErr (x * a.1 + y * b.1) (scale x a.2 ++ scale y b.2) := by unfold addErr; rw [hA, hB, hT]; rfl
  have e2 : addLin a b x y = sumLin (x * a.1 + y * b.1) (scale x a.2 ++ scale y b.2) := by unfold addLin; rw [hA, hB, hT]; rfl
  rw [e1] at h1
  have e3 : addLin a b x y = (x * a.1 + y * b.1, nf (scale x a.2 ++ scale y b.2)) := by rw [e2, sumLin, if_pos h1]
  have hvar : ∀ (x : Int) (t : List Mono) (m : Mono), m ∈ scale x t → ∃ q ∈ t, q.1 = m.1 := fun x t m hm => by
    unfold scale at hm
    obtain ⟨q, hq, rfl⟩ := List.mem_map.1 hm
    exact ⟨q, hq, rfl⟩
  have hvarB : ∀ {c : Int} {t : List Mono}, linB c t = true → ∀ m ∈ t, varB m.1 = true := fun h m hm => by
    obtain ⟨i, hi, rfl⟩ := List.getElem_of_mem hm
    exact ((linB_sound h).2.2 i hi).1
  have hS : linB (x * a.1 + y * b.1) (nf (scale x a.2 ++ scale y b.2)) = true := by
    unfold sumErr at h1
    by_cases hc : (coefB (x * a.1 + y * b.1) && (nf (scale x a.2 ++ scale y b.2)).all fun m => coefB m.2) = true
    · rw [if_pos hc] at h1
      by_cases hl : (nf (scale x a.2 ++ scale y b.2)).length ≤ 64
      · rw [Bool.and_eq_true] at hc
        refine linB_nf hc.1 hl hc.2 fun m hm => ?_
        rcases List.mem_append.1 hm with hm | hm
        · obtain ⟨q, hq, e⟩ := hvar _ _ m hm
          rw [← e]; exact hvarB hA q hq
        · obtain ⟨q, hq, e⟩ := hvar _ _ m hm
          rw [← e]; exact hvarB hB q hq
      · rw [if_neg hl] at h1; simp at h1
    · rw [if_neg hc] at h1; simp at h1
  have hfar : ∀ {c : Int} {t : List Mono}, linB c t = true → (linVal c t vs).2 = 0 → farAny vs t = false := fun {c t} h h' => by
    cases hf : farAny vs t
    · rfl
    · unfold linVal at h'; rw [if_pos h, hf] at h'; simp at h'
  have hfA := hfar hA h2
  have hfB := hfar hB h3
  have hfS : farAny vs (nf (scale x a.2 ++ scale y b.2)) = false := by
    unfold farAny at hfA hfB ⊢
    rw [List.any_eq_false] at hfA hfB ⊢
    intro m hm
    obtain ⟨q, hq, e⟩ := nf_v _ hm
    rw [← e]
    rcases List.mem_append.1 hq with hq | hq
    · obtain ⟨q', hq', e'⟩ := hvar _ _ q hq
      rw [← e']; exact hfA q' hq'
    · obtain ⟨q', hq', e'⟩ := hvar _ _ q hq
      rw [← e']; exact hfB q' hq'
  rw [e3]
  unfold linVal
  simp only [hA, hB, hS, hfA, hfB, hfS]
  simp only [if_true, Bool.false_eq_true, if_false, and_true]
  rw [val_nf, val_append, val_scale, val_scale, Int.mul_add, Int.mul_add]
  omega
end Go.Proofs.YtpmndblakmobdaaDoor
