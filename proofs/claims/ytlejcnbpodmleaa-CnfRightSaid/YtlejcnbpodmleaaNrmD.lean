/-
  Plain law of a form's literal.
-/
import Derived.Test.YtlejcnbpodmleaaNrmC
import Derived.Test.YtlejcnbpodmleaaLinD
import Derived.Test.YtlejcnbpodmleaaForm
namespace Go.Proofs.Ytlejcnbpodmleaa
open Go Go.RowKit

theorem fold_dvd : ∀ (t : List Mono) (g0 : Nat), t.foldl (fun g m => Nat.gcd g m.2.natAbs) g0 ∣ g0 ∧ ∀ m ∈ t, t.foldl (fun g m => Nat.gcd g m.2.natAbs) g0 ∣ m.2.natAbs
  | [], g0 => ⟨Nat.dvd_refl _, fun m hm => by cases hm⟩
  | x :: t, g0 => by
    obtain ⟨h1, h2⟩ := fold_dvd t (Nat.gcd g0 x.2.natAbs)
    refine ⟨Nat.dvd_trans h1 (Nat.gcd_dvd_left _ _), fun m hm => ?_⟩
    rcases List.mem_cons.1 hm with rfl | hm
    · exact Nat.dvd_trans h1 (Nat.gcd_dvd_right _ _)
    · exact h2 m hm
theorem gcdN_dvd {t : List Mono} {m : Mono} (h : m ∈ t) : (gcdN t : Int) ∣ m.2 := by
  have h1 : gcdN t ∣ m.2.natAbs := (fold_dvd t 0).2 m h
  exact Int.natAbs_dvd_natAbs.1 (by simpa using h1)
theorem gcdN_pos {c : Int} {t : List Mono} (hB : linB c t = true) (hne : 0 < t.length) : 1 ≤ gcdN t := by
  have h0 := ((linB_sound hB).2.2 0 hne).2.2.1
  have hd := (fold_dvd t 0).2 t[0] (List.getElem_mem hne)
  rcases Nat.eq_zero_or_pos (gcdN t) with h | h
  · have e : t.foldl (fun g m => Nat.gcd g m.2.natAbs) 0 = 0 := h
    rw [e] at hd
    have := Nat.eq_zero_of_zero_dvd hd
    omega
  · exact h
theorem div_nz {k g : Int} (hg : 1 ≤ g) (hd : g ∣ k) (hk : k ≠ 0) : Int.tdiv k g ≠ 0 := by
  obtain ⟨q, rfl⟩ := hd
  rw [Int.mul_tdiv_cancel_left q (by omega)]
  rintro rfl
  simp at hk
theorem up_coef {c g : Int} (hg : 1 ≤ g) (h1 : -1073741824 ≤ c) (h2 : c ≤ 1073741824) : -1073741824 ≤ upI c g ∧ upI c g ≤ 1073741824 := by
  obtain ⟨t1, t2⟩ := tdiv_range (g := g) h1 h2 hg
  obtain ⟨d1, d2, d3⟩ := div_parts (a := c) hg
  unfold upI
  split
  · refine ⟨by omega, ?_⟩
    have hne : Int.tdiv c g ≠ 1073741824 := fun e => by
      rw [e] at d1
      have : (1073741824 : Int) * 1 ≤ 1073741824 * g := Int.mul_le_mul_of_nonneg_left (by omega) (by omega)
      omega
    omega
  · exact ⟨t1, t2⟩
theorem asc_step {c : Int} {t : List Mono} (hB : linB c t = true) : ∀ (d i : Nat) (h : i + d + 1 < t.length), t[i].1 < t[i + d + 1].1
  | 0, i, h => by
    rcases ((linB_sound hB).2.2 (i + 0 + 1) h).2.2.2 with h' | h'
    · omega
    · have e : (t.getD (i + 0 + 1 - 1) (0, 0)).1 = t[i].1 := by
        rw [show i + 0 + 1 - 1 = i by omega, List.getD_eq_getElem?_getD, List.getElem?_eq_getElem (by omega)]; rfl
      omega
  | d + 1, i, h => by
    have h1 := asc_step hB d i (by omega)
    have h2 := asc_step hB 0 (i + d + 1) (by omega)
    have e : i + d + 1 + 0 + 1 = i + (d + 1) + 1 := by omega
    simp only [e] at h2
    omega
theorem asc_of {c : Int} {t : List Mono} (hB : linB c t = true) : Asc t := by
  unfold Asc
  rw [List.pairwise_iff_getElem]
  intro i j hi hj hij
  obtain ⟨d, rfl⟩ : ∃ d, j = i + d + 1 := ⟨j - i - 1, by omega⟩
  exact asc_step hB d i hj
theorem divT_len (t : List Mono) (g : Int) : (divT t g).length = t.length := by simp [divT]
theorem divT_get {t : List Mono} {g : Int} {i : Nat} (h : i < (divT t g).length) : (divT t g)[i] = ((t[i]'(by rw [divT_len] at h; exact h)).1, Int.tdiv (t[i]'(by rw [divT_len] at h; exact h)).2 g) := by
  simp [divT]
theorem linB_div {c : Int} {t : List Mono} (hB : linB c t = true) (hne : 0 < t.length) : linB (upI c (gcdN t)) (divT t (gcdN t)) = true := by
  obtain ⟨hc, hl, hall⟩ := linB_sound hB
  have hg := gcdN_pos hB hne
  obtain ⟨c1, c2⟩ := coefB_le hc
  obtain ⟨u1, u2⟩ := up_coef (c := c) (g := (gcdN t : Int)) (by omega) c1 c2
  refine linB_good (by unfold coefB; simp [u1, u2]) (by rw [divT_len]; exact hl) (fun i hi => ?_)
  have hi' : i < t.length := by rw [divT_len] at hi; exact hi
  obtain ⟨hv, hk, hz, ha⟩ := hall i hi'
  obtain ⟨k1, k2⟩ := coefB_le hk
  obtain ⟨q1, q2⟩ := tdiv_range (g := (gcdN t : Int)) k1 k2 (by omega)
  have hnz := div_nz (g := (gcdN t : Int)) (by omega) (gcdN_dvd (List.getElem_mem hi')) hz
  have e1 : (divT t (gcdN t)).getD i (0, 0) = (t[i].1, Int.tdiv t[i].2 (gcdN t)) := by
    rw [List.getD_eq_getElem?_getD, List.getElem?_eq_getElem hi, divT_get hi]; rfl
  have e2 : ((divT t (gcdN t)).getD (i - 1) (0, 0)).1 = (t.getD (i - 1) (0, 0)).1 := by
    have h1 : i - 1 < (divT t (gcdN t)).length := by omega
    have h2 : i - 1 < t.length := by omega
    rw [List.getD_eq_getElem?_getD, List.getElem?_eq_getElem h1, divT_get h1, List.getD_eq_getElem?_getD, List.getElem?_eq_getElem h2]; rfl
  rw [goodAt_of e1, e2]
  have hcb : coefB (Int.tdiv t[i].2 (gcdN t)) = true := by unfold coefB; simp [q1, q2]
  simp only [hv, hcb, Bool.true_and, Bool.and_eq_true, decide_eq_true_eq, Bool.or_eq_true]
  exact ⟨hnz, ha⟩
theorem scale_get {x : Int} {t : List Mono} {i : Nat} (h : i < (scale x t).length) : (scale x t)[i] = ((t[i]'(by rw [scale_len] at h; exact h)).1, x * (t[i]'(by rw [scale_len] at h; exact h)).2) := by
  simp [scale]
/-- 1 less a form. -/
theorem add_neg {u : Int} {T : List Mono} (hB : linB u T = true) : addErr (u, T) (1, []) (-1) 1 = (if coefB (1 - u) = true then 0 else 3) ∧ addLin (u, T) (1, []) (-1) 1 = (if coefB (1 - u) = true then (1 - u, scale (-1) T) else (0, [])) := by
  have hb1 : linB 1 [] = true := by decide
  have ht1 : timesB (-1) = true := by decide
  have ht2 : timesB 1 = true := by decide
  obtain ⟨_, hl, hall⟩ := linB_sound hB
  have hasc : Asc (scale (-1) T) := by
    have := asc_of hB
    unfold Asc scale at *
    rw [List.pairwise_map]
    exact this
  have hnz : ∀ m ∈ scale (-1) T, m.2 ≠ 0 := fun m hm => by
    obtain ⟨i, hi, rfl⟩ := List.getElem_of_mem hm
    rw [scale_get hi]
    have := (hall i (by rw [scale_len] at hi; exact hi)).2.2.1
    simp only
    omega
  have hnf : nf (scale (-1) T ++ scale 1 []) = scale (-1) T := by
    rw [show scale 1 [] = [] from rfl, List.append_nil]
    exact nf_self hasc hnz
  have hany : ((scale (-1) T).any fun m => !coefB m.2) = false := by
    rw [List.any_eq_false]
    intro m hm
    obtain ⟨i, hi, rfl⟩ := List.getElem_of_mem hm
    rw [scale_get hi]
    have := coefB_le (hall i (by rw [scale_len] at hi; exact hi)).2.1
    have h9 : coefB (-1 * (T[i]'(by rw [scale_len] at hi; exact hi)).2) = true := by unfold coefB; simp; omega
    rw [h9]
    decide
  have hce : -1 * u + 1 * 1 = 1 - u := by omega
  have hse : sumErr (1 - u) (scale (-1) T ++ scale 1 []) = if coefB (1 - u) = true then 0 else 3 := by
    rw [sumErr_eq _ hnf, hany]
    split
    · rw [if_neg (by decide), if_neg (by rw [scale_len]; omega)]
    · rfl
  constructor
  · unfold addErr
    simp only [hB, hb1, ht1, ht2, Bool.and_true, if_true, hce, hse]
  · unfold addLin
    simp only [hB, hb1, ht1, ht2, Bool.and_true, if_true, hce]
    unfold sumLin
    rw [hse, hnf]
    split
    · rw [if_pos (by rfl)]
    · rw [if_neg (by decide)]
end Go.Proofs.Ytlejcnbpodmleaa
