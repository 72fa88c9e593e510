/-
  LinLaw, Lin5, Lin6, in one file.
-/
import Derived.Test.YtpmndblakmobdaaGreatDoorTS
import Derived.Test.YtpmndblakmobdaaGreatDoorTL
import Derived.Test.YtpmndblakmobdaaGreatDoorMA
/- LinLaw -/
namespace Go.Proofs.YtpmndblakmobdaaGreatDoor
open Go.Sort

/-- The coefficient of a variable in terms; the same with all coefficients above 0. -/
def kAt (t : List (Int × Int)) (v : Int) : Int := (t.map fun m => if m.1 = v then m.2 else 0).sum
def absAt (t : List (Int × Int)) (v : Int) : Int := (t.map fun m => if m.1 = v then (m.2.natAbs : Int) else 0).sum

theorem kAt_nil (v : Int) : kAt [] v = 0 := rfl
theorem kAt_cons (m : Int × Int) (t : List (Int × Int)) (v : Int) : kAt (m :: t) v = (if m.1 = v then m.2 else 0) + kAt t v := by unfold kAt; simp
theorem kAt_append (s t : List (Int × Int)) (v : Int) : kAt (s ++ t) v = kAt s v + kAt t v := by unfold kAt; simp [List.sum_append]
theorem kAt_perm {s t : List (Int × Int)} (h : s.Perm t) (v : Int) : kAt s v = kAt t v := by
  unfold kAt
  induction h with
  | nil => rfl
  | cons x _ ih => simp [ih]
  | swap x y l => simp; omega
  | trans _ _ h1 h2 => exact h1.trans h2
theorem kAt_one (v k u : Int) : kAt [(v, k)] u = kAt [] u + if u = v then k else 0 := by
  rw [kAt_cons]
  by_cases hu : u = v
  · rw [if_pos hu.symm, if_pos hu]; omega
  · rw [if_neg (Ne.symm hu), if_neg hu]; omega
theorem absAt_nil (v : Int) : absAt [] v = 0 := rfl
theorem absAt_cons (m : Int × Int) (t : List (Int × Int)) (v : Int) : absAt (m :: t) v = (if m.1 = v then (m.2.natAbs : Int) else 0) + absAt t v := by unfold absAt; simp
theorem absAt_append (s t : List (Int × Int)) (v : Int) : absAt (s ++ t) v = absAt s v + absAt t v := by unfold absAt; simp [List.sum_append]
theorem absAt_nonneg (t : List (Int × Int)) (v : Int) : 0 ≤ absAt t v := by
  induction t with
  | nil => simp [absAt_nil]
  | cons m t ih => rw [absAt_cons]; split <;> omega
theorem absAt_perm {s t : List (Int × Int)} (h : s.Perm t) (v : Int) : absAt s v = absAt t v := by
  unfold absAt
  induction h with
  | nil => rfl
  | cons x _ ih => simp [ih]
  | swap x y l => simp; omega
  | trans _ _ h1 h2 => exact h1.trans h2
theorem kAt_abs (t : List (Int × Int)) (v : Int) : -(absAt t v) ≤ kAt t v ∧ kAt t v ≤ absAt t v := by
  induction t with
  | nil => simp [absAt_nil, kAt_nil]
  | cons m t ih => rw [absAt_cons, kAt_cons]; split <;> omega
theorem absAt_take (t : List (Int × Int)) (k : Nat) (v : Int) : absAt (t.take k) v ≤ absAt t v := by
  have h := absAt_append (t.take k) (t.drop k) v
  rw [List.take_append_drop] at h
  have := absAt_nonneg (t.drop k) v
  omega
theorem kAt_take_abs (t : List (Int × Int)) (k : Nat) (v : Int) : -(absAt t v) ≤ kAt (t.take k) v ∧ kAt (t.take k) v ≤ absAt t v := by
  have h1 := kAt_abs (t.take k) v
  have h2 := absAt_take t k v
  omega
theorem kAt_none {t : List (Int × Int)} {v : Int} (h : ∀ m ∈ t, m.1 ≠ v) : kAt t v = 0 := by
  induction t with
  | nil => rfl
  | cons m t ih =>
    rw [kAt_cons, if_neg (h m List.mem_cons_self), ih (fun x hx => h x (List.mem_cons_of_mem _ hx))]
    rfl
/-- Bounds of a coefficient out of a bound of each. -/
theorem absAt_le {t : List (Int × Int)} {K : Int} (h : ∀ m ∈ t, (m.2.natAbs : Int) ≤ K) (hK : 0 ≤ K) (v : Int) : absAt t v ≤ t.length * K := by
  induction t with
  | nil => simp [absAt_nil]
  | cons m t ih =>
    have h1 := ih (fun x hx => h x (List.mem_cons_of_mem _ hx))
    have h2 := h m List.mem_cons_self
    rw [absAt_cons, List.length_cons, Int.natCast_add, Int.add_mul]
    split <;> omega

/-- Rising, none twice. -/
def Asc (l : List (Int × Int)) : Prop := l.Pairwise fun a b => a.1 < b.1
/-- The terms o have t's coefficients, rising, none of them 0. -/
structure IsNf (t o : List (Int × Int)) : Prop where
  asc : Asc o
  nz : ∀ m ∈ o, m.2 ≠ 0
  eq : ∀ v, kAt o v = kAt t v

theorem kAt_head {m : Int × Int} {o : List (Int × Int)} (h : Asc (m :: o)) : kAt (m :: o) m.1 = m.2 := by
  rw [kAt_cons, if_pos rfl, kAt_none (fun x hx => by have := (List.pairwise_cons.1 h).1 x hx; omega)]
  omega
theorem kAt_mem {o : List (Int × Int)} (h : Asc o) {m : Int × Int} (hm : m ∈ o) : kAt o m.1 = m.2 := by
  induction o with
  | nil => cases hm
  | cons x o ih =>
    rcases List.mem_cons.1 hm with rfl | hm
    · exact kAt_head h
    · have h2 := List.pairwise_cons.1 h
      rw [kAt_cons, if_neg (by have := h2.1 m hm; omega), ih h2.2 hm]
      omega
theorem kAt_below {m : Int × Int} {o : List (Int × Int)} (h : Asc (m :: o)) {v : Int} (hv : v < m.1) : kAt (m :: o) v = 0 :=
  kAt_none (fun x hx => by
    rcases List.mem_cons.1 hx with rfl | hx
    · omega
    · have := (List.pairwise_cons.1 h).1 x hx; omega)

theorem asc_unique : ∀ {o p : List (Int × Int)}, Asc o → Asc p → (∀ m ∈ o, m.2 ≠ 0) → (∀ m ∈ p, m.2 ≠ 0) → (∀ v, kAt o v = kAt p v) → o = p
  | [], [], _, _, _, _, _ => rfl
  | [], m :: p, _, h2, _, n2, he => by
    have := he m.1
    rw [kAt_head h2, kAt_nil] at this
    exact absurd this.symm (n2 m List.mem_cons_self)
  | m :: o, [], h1, _, n1, _, he => by
    have := he m.1
    rw [kAt_head h1, kAt_nil] at this
    exact absurd this (n1 m List.mem_cons_self)
  | m :: o, x :: p, h1, h2, n1, n2, he => by
    have a1 : ¬ m.1 < x.1 := fun h => by
      have := he m.1
      rw [kAt_head h1, kAt_below h2 h] at this
      exact n1 m List.mem_cons_self this
    have a2 : ¬ x.1 < m.1 := fun h => by
      have := he x.1
      rw [kAt_head h2, kAt_below h1 h] at this
      exact n2 x List.mem_cons_self this.symm
    have a3 : m.1 = x.1 := by omega
    have a4 : m.2 = x.2 := by
      have := he m.1
      rw [kAt_head h1, a3, kAt_head h2] at this
      exact this
    obtain rfl : m = x := Prod.ext a3 a4
    congr 1
    refine asc_unique (List.pairwise_cons.1 h1).2 (List.pairwise_cons.1 h2).2 (fun x hx => n1 x (List.mem_cons_of_mem _ hx)) (fun x hx => n2 x (List.mem_cons_of_mem _ hx)) (fun v => ?_)
    have := he v
    rw [kAt_cons, kAt_cons] at this
    omega
theorem IsNf.unique {t o p : List (Int × Int)} (h1 : IsNf t o) (h2 : IsNf t p) : o = p :=
  asc_unique h1.asc h2.asc h1.nz h2.nz (fun v => (h1.eq v).trans (h2.eq v).symm)
theorem IsNf.perm {s t o : List (Int × Int)} (h : IsNf s o) (hp : s.Perm t) : IsNf t o := ⟨h.asc, h.nz, fun v => (h.eq v).trans (kAt_perm hp v)⟩
theorem IsNf.nil : IsNf [] [] := ⟨List.Pairwise.nil, (fun m hm => by cases hm), fun v => rfl⟩
/-- A variable beyond all others is added. -/
theorem IsNf.push {t s o : List (Int × Int)} {v k : Int} (h : IsNf t o) (ho : ∀ m ∈ o, m.1 < v) (hk : kAt s v = k) (hs : ∀ m ∈ s, m.1 = v) : IsNf (t ++ s) (if k = 0 then o else o ++ [(v, k)]) := by
  have hz : ∀ u, u ≠ v → kAt s u = 0 := fun u hu => kAt_none (fun m hm e => hu (e.symm.trans (hs m hm)))
  by_cases h0 : k = 0
  · rw [if_pos h0]
    refine ⟨h.asc, h.nz, fun u => ?_⟩
    rw [kAt_append, h.eq u]
    by_cases hu : u = v
    · subst hu; omega
    · rw [hz u hu]; omega
  · rw [if_neg h0]
    refine ⟨List.pairwise_append.2 ⟨h.asc, List.pairwise_singleton _ _, fun a ha b hb => by simp at hb; subst hb; exact ho a ha⟩, fun m hm => ?_, fun u => ?_⟩
    · rcases List.mem_append.1 hm with hm | hm
      · exact h.nz m hm
      · simp at hm; subst hm; exact h0
    · rw [kAt_append, kAt_append, h.eq u, kAt_cons, kAt_nil]
      by_cases hu : u = v
      · subst hu; rw [if_pos rfl, hk]; omega
      · rw [hz u hu, if_neg (Ne.symm hu)]; omega

/-- Where there is one. -/
theorem nf_exists (t : List (Int × Int)) : ∃ o, IsNf t o := by
  -- by the terms one after the other, each put in its place
  have ins : ∀ (o : List (Int × Int)) (v k : Int), Asc o → (∀ m ∈ o, m.2 ≠ 0) → ∃ p, Asc p ∧ (∀ m ∈ p, m.2 ≠ 0) ∧ (∀ u, kAt p u = kAt o u + if u = v then k else 0) ∧ ∀ m ∈ p, m.1 = v ∨ m ∈ o := by
    intro o v k
    induction o with
    | nil =>
      intro _ _
      by_cases h0 : k = 0
      · exact ⟨[], List.Pairwise.nil, (fun m hm => by cases hm), (fun u => by rw [h0, kAt_nil]; split <;> rfl), (fun m hm => by cases hm)⟩
      · exact ⟨[(v, k)], List.pairwise_singleton _ _, (fun m hm => by simp at hm; subst hm; exact h0), (fun u => kAt_one v k u), (fun m hm => by simp at hm; subst hm; exact .inl rfl)⟩
    | cons m o ih =>
      intro ha hn
      have h2 := List.pairwise_cons.1 ha
      by_cases h0 : k = 0
      · exact ⟨m :: o, ha, hn, (fun u => by rw [h0]; split <;> omega), fun x hx => .inr hx⟩
      rcases Int.lt_trichotomy v m.1 with hv | hv | hv
      · refine ⟨(v, k) :: m :: o, List.pairwise_cons.2 ⟨fun x hx => ?_, ha⟩, fun x hx => ?_, fun u => ?_, fun x hx => ?_⟩
        · rcases List.mem_cons.1 hx with rfl | hx
          · exact hv
          · have := h2.1 x hx; show v < x.1; omega
        · rcases List.mem_cons.1 hx with rfl | hx
          · exact h0
          · exact hn x hx
        · rw [kAt_cons]
          by_cases hu : u = v
          · rw [if_pos hu, if_pos hu.symm]; omega
          · rw [if_neg hu, if_neg (Ne.symm hu)]; omega
        · rcases List.mem_cons.1 hx with rfl | hx
          · exact .inl rfl
          · exact .inr hx
      · by_cases hz : m.2 + k = 0
        · refine ⟨o, h2.2, fun x hx => hn x (List.mem_cons_of_mem _ hx), fun u => ?_, fun x hx => .inr (List.mem_cons_of_mem _ hx)⟩
          rw [kAt_cons]
          by_cases hu : u = v
          · rw [if_pos hu, if_pos (by omega)]; omega
          · rw [if_neg hu, if_neg (by omega)]; omega
        · refine ⟨(m.1, m.2 + k) :: o, List.pairwise_cons.2 ⟨fun x hx => h2.1 x hx, h2.2⟩, fun x hx => ?_, fun u => ?_, fun x hx => ?_⟩
          · rcases List.mem_cons.1 hx with rfl | hx
            · exact hz
            · exact hn x (List.mem_cons_of_mem _ hx)
          · rw [kAt_cons, kAt_cons]
            by_cases hu : u = v
            · rw [if_pos hu, if_pos (by show m.1 = u; omega), if_pos (by omega)]; show m.2 + k + _ = _; omega
            · rw [if_neg hu, if_neg (by show ¬ m.1 = u; omega), if_neg (by omega)]; omega
          · rcases List.mem_cons.1 hx with rfl | hx
            · exact .inl hv.symm
            · exact .inr (List.mem_cons_of_mem _ hx)
      · obtain ⟨p, p1, p2, p3, p4⟩ := ih h2.2 (fun x hx => hn x (List.mem_cons_of_mem _ hx))
        refine ⟨m :: p, List.pairwise_cons.2 ⟨fun x hx => ?_, p1⟩, fun x hx => ?_, fun u => ?_, fun x hx => ?_⟩
        · rcases p4 x hx with e | hx
          · omega
          · exact h2.1 x hx
        · rcases List.mem_cons.1 hx with rfl | hx
          · exact hn _ List.mem_cons_self
          · exact p2 x hx
        · rw [kAt_cons, kAt_cons, p3 u]; omega
        · rcases List.mem_cons.1 hx with rfl | hx
          · exact .inr List.mem_cons_self
          · rcases p4 x hx with e | hx
            · exact .inl e
            · exact .inr (List.mem_cons_of_mem _ hx)
  induction t with
  | nil => exact ⟨[], IsNf.nil⟩
  | cons m t ih =>
    obtain ⟨o, ho⟩ := ih
    obtain ⟨p, p1, p2, p3, _⟩ := ins o m.1 m.2 ho.asc ho.nz
    refine ⟨p, p1, p2, fun v => ?_⟩
    rw [p3 v, ho.eq v, kAt_cons]
    by_cases hv : m.1 = v
    · rw [if_pos hv, if_pos hv.symm]; omega
    · rw [if_neg hv, if_neg (Ne.symm hv)]; omega
/-- The terms together. -/
noncomputable def nf (t : List (Int × Int)) : List (Int × Int) := Classical.choose (nf_exists t)
theorem nf_is (t : List (Int × Int)) : IsNf t (nf t) := Classical.choose_spec (nf_exists t)
theorem nf_eq {t o : List (Int × Int)} (h : IsNf t o) : nf t = o := (nf_is t).unique h
theorem nf_perm {s t : List (Int × Int)} (h : s.Perm t) : nf s = nf t := nf_eq ((nf_is t).perm h.symm)
theorem nf_self {o : List (Int × Int)} (h1 : Asc o) (h2 : ∀ m ∈ o, m.2 ≠ 0) : nf o = o := nf_eq ⟨h1, h2, fun _ => rfl⟩
theorem nf_k (t : List (Int × Int)) {m : Int × Int} (h : m ∈ nf t) : m.2 = kAt t m.1 := by rw [← (nf_is t).eq, kAt_mem (nf_is t).asc h]
/-- Each of its variables stands in the terms. -/
theorem nf_v (t : List (Int × Int)) {m : Int × Int} (h : m ∈ nf t) : ∃ x ∈ t, x.1 = m.1 := by
  by_cases hx : ∃ x ∈ t, x.1 = m.1
  · exact hx
  · have : kAt t m.1 = 0 := kAt_none (fun x hm e => hx ⟨x, hm, e⟩)
    exact absurd ((nf_k t h).trans this) ((nf_is t).nz m h)
/-- The value of terms by values of variables. -/
def val (f : Int → Int) (t : List (Int × Int)) : Int := (t.map fun m => m.2 * f m.1).sum
theorem val_nil (f : Int → Int) : val f [] = 0 := rfl
theorem val_cons (f : Int → Int) (m : Int × Int) (t : List (Int × Int)) : val f (m :: t) = m.2 * f m.1 + val f t := by unfold val; simp
theorem val_append (f : Int → Int) (s t : List (Int × Int)) : val f (s ++ t) = val f s + val f t := by unfold val; simp [List.sum_append]

/-- How far a sorted list has been gone through: a variable's terms are wholly in, or wholly out. -/
structure SumI (s : List (Int × Int)) (k : Nat) (o : List (Int × Int)) : Prop where
  nf : IsNf (s.take k) o
  lt : ∀ x ∈ s.take k, ∀ (h : k < s.length), x.1 < s[k].1
  len : o.length ≤ k
theorem SumI.start (s : List (Int × Int)) : SumI s 0 [] := ⟨by rw [List.take_zero]; exact IsNf.nil, (fun x hx => by rw [List.take_zero] at hx; cases hx), Nat.le_refl _⟩
theorem SumI.done {s o : List (Int × Int)} {k : Nat} (h : SumI s k o) (hk : s.length ≤ k) : IsNf s o := by
  have := h.nf
  rwa [List.take_of_length_le hk] at this
theorem SumI.zero {s o : List (Int × Int)} {k : Nat} (h : SumI s k o) (hk : k < s.length) : kAt (s.take k) s[k].1 = 0 := kAt_none (fun x hx => by have := h.lt x hx hk; omega)
theorem kAt_take {s : List (Int × Int)} {j : Nat} (hj : j < s.length) (v : Int) : kAt (s.take (j + 1)) v = kAt (s.take j) v + if s[j].1 = v then s[j].2 else 0 := by
  rw [List.take_succ_eq_append_getElem hj, kAt_append, kAt_cons, kAt_nil]
  omega
theorem SumI.next {s o : List (Int × Int)} {k j : Nat} {v : Int} (hs : s.Pairwise fun a b => a.1 ≤ b.1) (h : SumI s k o) (hk : k < j) (hj : j ≤ s.length) (hv : ∀ i (hi : i < s.length), k ≤ i → i < j → s[i].1 = v) (hout : ∀ h : j < s.length, s[j].1 ≠ v) :
    SumI s j (if kAt (s.take j) v = 0 then o else o ++ [(v, kAt (s.take j) v)]) := by
  have hk' : k < s.length := by omega
  have hkv : s[k].1 = v := hv k hk' (Nat.le_refl _) hk
  have e : s.take j = s.take k ++ (s.drop k).take (j - k) := by
    rw [← List.take_add]
    congr 1; omega
  have hz : kAt (s.take k) v = 0 := by rw [← hkv]; exact h.zero hk'
  have hseg : ∀ m ∈ (s.drop k).take (j - k), m.1 = v := fun m hm => by
    obtain ⟨i, hi, rfl⟩ := List.getElem_of_mem hm
    rw [List.length_take, List.length_drop] at hi
    rw [List.getElem_take, List.getElem_drop]
    exact hv _ (by omega) (by omega) (by omega)
  have hK : kAt ((s.drop k).take (j - k)) v = kAt (s.take j) v := by rw [e, kAt_append, hz]; omega
  have ho : ∀ m ∈ o, m.1 < v := fun m hm => by
    have hne : kAt (s.take k) m.1 ≠ 0 := by rw [← h.nf.eq, kAt_mem h.nf.asc hm]; exact h.nf.nz m hm
    have hx : ∃ x ∈ s.take k, x.1 = m.1 := by
      by_cases hx : ∃ x ∈ s.take k, x.1 = m.1
      · exact hx
      · exact absurd (kAt_none (fun x hm e => hx ⟨x, hm, e⟩)) hne
    obtain ⟨x, hx1, hx2⟩ := hx
    have := h.lt x hx1 hk'
    omega
  refine ⟨?_, fun x hx hjl => ?_, ?_⟩
  · have := h.nf.push ho hK hseg
    rwa [← e] at this
  · obtain ⟨i, hi, rfl⟩ := List.getElem_of_mem hx
    rw [List.length_take] at hi
    rw [List.getElem_take]
    have h1 : s[k].1 ≤ s[j].1 := by
      have := List.pairwise_iff_getElem.1 hs k j hk' hjl hk
      exact this
    have h2 := hout hjl
    rcases Nat.lt_or_ge i k with g | g
    · have := h.lt s[i] (List.mem_iff_getElem.2 ⟨i, by rw [List.length_take]; omega, by rw [List.getElem_take]⟩) hk'
      omega
    · have := hv i (by omega) g (by omega)
      omega
  · split
    · have := h.len; omega
    · rw [List.length_append]
      have := h.len
      simp; omega
theorem absAt_of_perm {s t : List (Int × Int)} (h : s.Perm t) {K : Int} (hK : ∀ v, absAt t v ≤ K) (v : Int) : absAt s v ≤ K := by rw [absAt_perm h]; exact hK v
end Go.Proofs.YtpmndblakmobdaaGreatDoor
/- Lin5 -/
namespace Go.Proofs.YtpmndblakmobdaaGreatDoor
open Go Go.RowKit

/-- A variable's value by a list. -/
def valOf (vs : List Int) (v : Int) : Int := if v < (vs.length : Int) then vs.getD v.toNat 0 else 0
/-- Is a value too great? -/
def farB (x : Int) : Bool := decide (x < -16777216) || decide (16777216 < x)
def farAny (vs : List Int) (t : List Mono) : Bool := t.any fun m => farB (valOf vs m.1)
/-- What the value is, and what is amiss. -/
def linVal (c : Int) (t : List Mono) (vs : List Int) : Int × Int := if linB c t = true then (if farAny vs t = true then (0, 1) else (c + val (valOf vs) t, 0)) else (0, 5)

theorem mul_bound {a b : Int} (h1 : -1073741824 ≤ a) (h2 : a ≤ 1073741824) (h3 : -16777216 ≤ b) (h4 : b ≤ 16777216) : -18014398509481984 ≤ a * b ∧ a * b ≤ 18014398509481984 := by
  have h : (a * b).natAbs ≤ 1073741824 * 16777216 := by
    rw [Int.natAbs_mul]
    exact Nat.mul_le_mul (by omega) (by omega)
  omega
theorem farB_no {x : Int} (h : farB x = false) : -16777216 ≤ x ∧ x ≤ 16777216 := by
  unfold farB at h
  rw [Bool.or_eq_false_iff, decide_eq_false_iff_not, decide_eq_false_iff_not] at h
  omega
theorem val_bound {f : Int → Int} : ∀ {t : List Mono}, (∀ m ∈ t, (-1073741824 ≤ m.2 ∧ m.2 ≤ 1073741824) ∧ farB (f m.1) = false) → -(18014398509481984 * (t.length : Int)) ≤ val f t ∧ val f t ≤ 18014398509481984 * (t.length : Int)
  | [], _ => by simp [val_nil]
  | m :: t, h => by
    have h1 := val_bound (t := t) (fun x hx => h x (List.mem_cons_of_mem _ hx))
    obtain ⟨⟨h2, h3⟩, h4⟩ := h m List.mem_cons_self
    have h5 := farB_no h4
    have h6 := mul_bound h2 h3 h5.1 h5.2
    rw [val_cons, List.length_cons]
    omega
theorem val_take {f : Int → Int} {t : List Mono} {k : Nat} (h : k < t.length) : val f (t.take (k + 1)) = val f (t.take k) + t[k].2 * f t[k].1 := by
  rw [List.take_succ_eq_append_getElem h, val_append, val_cons, val_nil]
  omega
theorem valOf_in {vs : List Int} {n : Nat} (h : n < vs.length) : valOf vs (n : Int) = vs[n] := by
  unfold valOf
  rw [if_pos (by omega)]
  simp [List.getD, h]
theorem valOf_out {vs : List Int} {n : Nat} (h : ¬ n < vs.length) : valOf vs (n : Int) = 0 := by
  unfold valOf
  rw [if_neg (by omega)]
theorem farAny_bad {vs : List Int} {t : List Mono} (k : Nat) (hk : k < t.length) (h : farB (valOf vs t[k].1) = true) : farAny vs t = true := by
  unfold farAny
  rw [List.any_eq_true]
  exact ⟨_, List.getElem_mem hk, h⟩
theorem farAny_good {vs : List Int} {t : List Mono} (h : ∀ i (hi : i < t.length), farB (valOf vs t[i].1) = false) : farAny vs t = false := by
  unfold farAny
  rw [List.any_eq_false]
  intro m hm
  obtain ⟨i, hi, rfl⟩ := List.getElem_of_mem hm
  rw [h i hi]
  decide

set_option maxHeartbeats 400000 in
theorem ref01Of_any {R : Nat → Prop} {w : World} {A : Option Addr} {vs : List Int} {cap : Nat} (hv : Ints R w A vs cap) (n : Nat) (hn : n < 9000000000000000000) :
    Calls Tryz.prog 20 #[.slice A vs.length cap, .int .i64 n] w fun e w' => e = .returned (.int .i64 (valOf vs n)) ∧ w = w' := by
  have hb := hv.big
  unfold big at hb
  by_cases h : n < vs.length
  · rw [valOf_in h]
    obtain ⟨b, o, rfl, hx⟩ := hv.int_at n h
    have i0 : (0 : Int) ≤ (n : Int) := by omega
    have hd : decide (n < vs.length) = true := decide_eq_true h
    generalize vs[n] = x at *
    clear hv
    go_enter Tryz.func20, Tryz.ntmps20
    go_wp2
    go_ret
    exact ⟨rfl, rfl⟩
  · rw [valOf_out h]
    have hd : decide (n < vs.length) = false := decide_eq_false h
    clear hv
    go_enter Tryz.func20, Tryz.ntmps20
    go_wp2
    go_ret
    exact ⟨rfl, rfl⟩

/-- The value when all is sound, by the way that the loops take. -/
structure ValWay (c : Int) (t : List Mono) (vs : List Int) (r : Int × Int) : Prop where
  len : t.length ≤ 64
  c1 : -1073741824 ≤ c
  c2 : c ≤ 1073741824
  var : ∀ i (hi : i < t.length), ∃ n : Nat, t[i].1 = (n : Int) ∧ n < 1048576
  k1 : ∀ i (hi : i < t.length), -1073741824 ≤ t[i].2 ∧ t[i].2 ≤ 1073741824
  bad : ∀ i (hi : i < t.length), farB (valOf vs t[i].1) = true → r = (0, 1)
  good : (∀ i (hi : i < t.length), farB (valOf vs t[i].1) = false) → r = (c + val (valOf vs) (t.take t.length), 0)
theorem valWay {c : Int} {t : List Mono} {vs : List Int} (h : linB c t = true) : ValWay c t vs (linVal c t vs) := by
  have hs := linB_sound h
  refine ⟨hs.2.1, (coefB_le hs.1).1, (coefB_le hs.1).2, fun i hi => ?_, fun i hi => coefB_le (hs.2.2 i hi).2.1, fun i hi hf => ?_, fun hf => ?_⟩
  · have := varB_le (hs.2.2 i hi).1
    exact ⟨t[i].1.toNat, by omega, by omega⟩
  · unfold linVal; rw [if_pos h, if_pos (farAny_bad i hi hf)]
  · unfold linVal; rw [if_pos h, if_neg (by rw [farAny_good hf]; decide), List.take_of_length_le (Nat.le_refl _)]

theorem farB_cases (x : Int) : (farB x = true ∧ decide (x < -16777216) = true) ∨ (farB x = true ∧ decide (x < -16777216) = false ∧ decide (16777216 < x) = true) ∨ (farB x = false ∧ decide (x < -16777216) = false ∧ decide (16777216 < x) = false ∧ -16777216 ≤ x ∧ x ≤ 16777216) := by
  unfold farB
  by_cases h1 : x < -16777216 <;> by_cases h2 : 16777216 < x <;> simp [h1, h2] <;> omega

/-- A partial sum. -/
theorem part_bound {c : Int} {t : List Mono} {vs : List Int} {r : Int × Int} (V : ValWay c t vs r) {k : Nat} (hk : k ≤ t.length) (hg : ∀ i (hi : i < t.length), i < k → farB (valOf vs t[i].1) = false) :
    -1170000000000000000 ≤ c + val (valOf vs) (t.take k) ∧ c + val (valOf vs) (t.take k) ≤ 1170000000000000000 := by
  have h := val_bound (f := valOf vs) (t := t.take k) (fun m hm => by
    obtain ⟨i, hi, rfl⟩ := List.getElem_of_mem hm
    rw [List.length_take] at hi
    rw [List.getElem_take]
    exact ⟨V.k1 i (by omega), hg i (by omega) (by omega)⟩)
  have hl : (t.take k).length ≤ 64 := by rw [List.length_take]; have := V.len; omega
  have := V.c1
  have := V.c2
  omega

set_option maxRecDepth 100000 in
set_option maxHeartbeats 2000000 in
theorem linValue_any {R R' : Nat → Prop} {w : World} {A A' : Option Addr} (c : Int) {t : List Mono} {vs : List Int} {cap cap' : Nat} (ht : Monos R w A t cap) (hv : Ints R' w A' vs cap') :
    Calls Tryz.prog 49 #[.agg #[.int .i64 c, .slice A t.length cap], .slice A' vs.length cap'] w fun e w' => e = .returned (.tuple #[.int .i64 (linVal c t vs).1, errV 83 (linVal c t vs).2]) ∧ Chg No w w' := by
  have HT := Lib.hid (fun W (h : Chg No w W) => ht.no monoE_good h)
  have HV := Lib.hid (fun W (h : Chg No w W) => hv.no intE_good h)
  have HC := Lib.hid (fun W (h : Chg No w W) => linCheck_any c (ht.no monoE_good h))
  have hb := ht.big
  have hb' := hv.big
  unfold big at hb hb'
  clear ht hv
  cases hB : linB c t
  · rw [hB] at HC
    rw [show (if false = true then (0 : Int) else 5) = 5 from rfl, errV_of _ (by decide)] at HC
    rw [show linVal c t vs = (0, 5) by unfold linVal; rw [hB]; rfl]
    simp only
    rw [errV_of _ (by decide)]
    clear hB
    go_enter Tryz.func49, Tryz.ntmps49
    go_wp2_with (go_at_call 40; refine (HC.out _ ((Chg.refl _ _).alloc _)).mono ?_; rintro e w1 ⟨rfl, h1⟩)
    go_ret2
    exact ⟨rfl, ((Chg.refl _ _).alloc _).thenNo h1⟩
  · rw [hB] at HC
    rw [show (if true = true then (0 : Int) else 5) = 0 from rfl, errV_zero] at HC
    have V := Lib.hid (valWay (vs := vs) hB)
    generalize linVal c t vs = r at *
    clear hB
    have hcw : Hid (Chg No w (w.alloc (.cells #[.int .i64 c, .slice A t.length cap] 32))) := (Chg.refl _ _).alloc _
    have hbx : Hid ((w.alloc (.cells #[.int .i64 c, .slice A t.length cap] 32)).cell? ⟨w.heap.size, 1, none⟩ = some (.slice A t.length cap)) := by unfold Hid; simp
    have hbc : Hid ((w.alloc (.cells #[.int .i64 c, .slice A t.length cap] 32)).cell? ⟨w.heap.size, 0, none⟩ = some (.int .i64 c)) := by unfold Hid; simp
    go_enter Tryz.func49, Tryz.ntmps49
    go_wp2_with (go_at_call 40; refine (HC.out _ hcw.out).mono ?_; rintro e w1 ⟨rfl, h1⟩; have hbx1 := h1.cell hbx.out id; have hbc1 := h1.cell hbc.out id; have hc1 := Lib.hid (hcw.out.thenNo h1); clear h1 hcw hbx hbc)
    clear hbx1 hbc1
    obtain ⟨w0, rfl⟩ : ∃ w0 : World, w0 = w1 := ⟨_, rfl⟩
    go_loopw [7, 21] (fun g s wr => ∃ (k : Nat) (u : Int), k ≤ t.length ∧ g = .int .i64 u ∧ s = .int .i64 k ∧ Hid (u = c + val (valOf vs) (t.take k)) ∧ Hid (Chg No w0 wr) ∧ Hid (∀ i (hi : i < t.length), i < k → farB (valOf vs t[i].1) = false)) (fun _ s _ => t.length - (intOf s).toNat)
    case atStart => exact ⟨0, c, Nat.zero_le _, rfl, rfl, by unfold Hid; simp [val_nil], Chg.refl _ _, fun i _ h => absurd h (Nat.not_lt_zero i)⟩
    case round =>
      obtain ⟨k, u, hkl, rfl, rfl, hu, hch, hgd⟩ := hrel
      by_cases hlt : k < t.length
      · obtain ⟨b, o, rfl, hx0, hx1⟩ := (HT.out wr (hc1.out.thenNo hch.out)).mono_at k hlt
        have i0 : (0 : Int) ≤ (k : Int) := by omega
        have i1 : (k : Int) < (t.length : Int) := by omega
        obtain ⟨n, hn, hnb⟩ := V.out.var k hlt
        obtain ⟨hk1, hk2⟩ := V.out.k1 k hlt
        have hpb := part_bound V.out hkl hgd.out
        rw [← hu.out] at hpb
        obtain ⟨hu1, hu2⟩ := hpb
        have Hbad := Lib.hid (V.out.bad k hlt)
        have Hst := Lib.hid (val_take (f := valOf vs) hlt)
        have Hnew : Hid (farB (valOf vs t[k].1) = false → ∀ i (hi : i < t.length), i < k + 1 → farB (valOf vs t[i].1) = false) := fun e i h1 h3 => by
          rcases Nat.lt_succ_iff_lt_or_eq.1 h3 with h | rfl
          · exact hgd.out i h1 h
          · exact e
        rw [hn] at Hbad Hst Hnew hx0
        generalize t[k].2 = kk at *
        clear hn
        have hch2 : Hid (Chg No w0 (wr.alloc (.cells #[.int .i64 (n : Int), .int .i64 kk] 71))) := hch.out.alloc _
        have n0 : (0 : Int) ≤ (n : Int) := by omega
        have hxv : Hid (∀ h : n < vs.length, ∃ b' o', A' = some ⟨b', o', none⟩ ∧ (wr.alloc (.cells #[.int .i64 (n : Int), .int .i64 kk] 71)).cell? ⟨b', o' + n, none⟩ = some (.int .i64 vs[n])) := fun h => (HV.out _ (hc1.out.thenNo hch2.out)).int_at n h
        obtain ⟨x, hx⟩ : ∃ x, x = valOf vs (n : Int) := ⟨_, rfl⟩
        rw [← hx] at Hbad Hst Hnew
        have hmb := fun h3 h4 => mul_bound (b := x) hk1 hk2 h3 h4
        have HMB := Lib.hid hmb
        clear hmb hgd
        by_cases hin : n < vs.length
        · obtain ⟨b', o', rfl, hx3⟩ := hxv.out hin
          rw [valOf_in hin] at hx
          rw [← hx] at hx3
          have hd1 : decide (n < vs.length) = true := decide_eq_true hin
          have hin' : (n : Int) < (vs.length : Int) := by omega
          clear hx hxv hin
          rcases farB_cases x with ⟨hf, hd2⟩ | ⟨hf, hd2, hd3⟩ | ⟨hf, hd2, hd3, hx4, hx5⟩
          · obtain rfl : r = (0, 1) := Hbad.out hf
            clear hf
            go_wp2
            go_ret2
            exact ⟨by rw [errV_of _ (by decide)]; rfl, hc1.out.thenNo hch2.out⟩
          · obtain rfl : r = (0, 1) := Hbad.out hf
            clear hf
            go_wp2
            go_ret2
            exact ⟨by rw [errV_of _ (by decide)]; rfl, hc1.out.thenNo hch2.out⟩
          · obtain ⟨hp1, hp2⟩ := HMB.out hx4 hx5
            have Hn := Lib.hid (Hnew.out hf)
            clear hf hx4 hx5
            go_wp2
            go_roundw
            case rel => exact ⟨k + 1, _, hlt, rfl, by go_num, by unfold Hid; rw [Hst.out, hu.out]; omega, hch2, Hn.out⟩
            case measure => simp [intOf]; omega
        · rw [valOf_out hin] at hx
          have hd1 : decide (n < vs.length) = false := decide_eq_false hin
          subst hx
          have Hn := Lib.hid (Hnew.out (by decide))
          clear hxv hin
          go_wp2
          go_roundw
          case rel => exact ⟨k + 1, _, hlt, rfl, by go_num, by unfold Hid; rw [Hst.out, hu.out]; omega, hch2, Hn.out⟩
          case measure => simp [intOf]; omega
      · obtain rfl : k = t.length := by omega
        obtain rfl := V.out.good (fun i hi => hgd.out i hi hi)
        have hu' := hu.out
        clear hu
        subst hu'
        go_wp2
        go_ret2
        exact ⟨by simp only [errV_zero]; rfl, hc1.out.thenNo hch.out⟩
end Go.Proofs.YtpmndblakmobdaaGreatDoor
/- Lin6 -/
namespace Go.Proofs.YtpmndblakmobdaaGreatDoor
open Go Go.RowKit

set_option maxRecDepth 100000 in
set_option maxHeartbeats 2000000 in
theorem ref01Value_any {R R' : Nat → Prop} {w : World} {A A' : Option Addr} (c : Int) {t : List Mono} {vs : List Int} {cap cap' : Nat} (ht : Monos R w A t cap) (hv : Ints R' w A' vs cap') :
    Calls Tryz.prog 7 #[.agg #[.int .i64 c, .slice A t.length cap], .slice A' vs.length cap'] w fun e w' => e = .returned (.tuple #[.int .i64 (linVal c t vs).1, .int .i64 (linVal c t vs).2]) ∧ Chg No w w' := by
  have HT := Lib.hid (fun W (h : Chg No w W) => ht.no monoE_good h)
  have HO := Lib.hid (fun W (h : Chg No w W) n hn => ref01Of_any (hv.no intE_good h) n hn)
  have HC := Lib.hid (fun W (h : Chg No w W) => ref01Check_any c (ht.no monoE_good h))
  have hb := ht.big
  have hb' := hv.big
  unfold big at hb hb'
  clear ht hv
  cases hB : linB c t
  · rw [hB] at HC
    rw [show linVal c t vs = (0, 5) by unfold linVal; rw [hB]; rfl]
    simp only
    clear hB
    go_enter Tryz.func7, Tryz.ntmps7
    go_wp2_with (go_at_call 19; refine (HC.out _ ((Chg.refl _ _).alloc _)).mono ?_; rintro e w1 ⟨rfl, h1⟩)
    go_ret2
    exact ⟨rfl, ((Chg.refl _ _).alloc _).thenNo h1⟩
  · rw [hB] at HC
    have V := Lib.hid (valWay (vs := vs) hB)
    generalize linVal c t vs = r at *
    clear hB
    have hcw : Hid (Chg No w (w.alloc (.cells #[.int .i64 c, .slice A t.length cap] 32))) := (Chg.refl _ _).alloc _
    have hbx : Hid ((w.alloc (.cells #[.int .i64 c, .slice A t.length cap] 32)).cell? ⟨w.heap.size, 1, none⟩ = some (.slice A t.length cap)) := by unfold Hid; simp
    have hbc : Hid ((w.alloc (.cells #[.int .i64 c, .slice A t.length cap] 32)).cell? ⟨w.heap.size, 0, none⟩ = some (.int .i64 c)) := by unfold Hid; simp
    go_enter Tryz.func7, Tryz.ntmps7
    go_wp2_with (go_at_call 19; refine (HC.out _ hcw.out).mono ?_; rintro e w1 ⟨rfl, h1⟩; have hbx1 := h1.cell hbx.out id; have hbc1 := h1.cell hbc.out id; have hc1 := Lib.hid (hcw.out.thenNo h1); clear h1 hcw hbx hbc)
    have hbx := Lib.hid hbx1
    clear hbx1 hbc1
    obtain ⟨w0, rfl⟩ : ∃ w0 : World, w0 = w1 := ⟨_, rfl⟩
    go_loopw [7, 8] (fun g s wr => ∃ (k : Nat) (u : Int), k ≤ t.length ∧ g = .int .i64 u ∧ s = .int .i64 k ∧ Hid (u = c + val (valOf vs) (t.take k)) ∧ Hid (Chg No w0 wr) ∧ Hid (∀ i (hi : i < t.length), i < k → farB (valOf vs t[i].1) = false)) (fun _ s _ => t.length - (intOf s).toNat)
    case atStart => exact ⟨0, c, Nat.zero_le _, rfl, rfl, by unfold Hid; simp [val_nil], Chg.refl _ _, fun i _ h => absurd h (Nat.not_lt_zero i)⟩
    case round =>
      obtain ⟨k, u, hkl, rfl, rfl, hu, hch, hgd⟩ := hrel
      have hbx1 := hch.out.cell hbx.out id
      by_cases hlt : k < t.length
      · obtain ⟨b, o, rfl, hx0, hx1⟩ := (HT.out wr (hc1.out.thenNo hch.out)).mono_at k hlt
        have i0 : (0 : Int) ≤ (k : Int) := by omega
        have i1 : (k : Int) < (t.length : Int) := by omega
        obtain ⟨n, hn, hnb⟩ := V.out.var k hlt
        obtain ⟨hk1, hk2⟩ := V.out.k1 k hlt
        have hpb := part_bound V.out hkl hgd.out
        rw [← hu.out] at hpb
        obtain ⟨hu1, hu2⟩ := hpb
        have Hbad := Lib.hid (V.out.bad k hlt)
        have Hst := Lib.hid (val_take (f := valOf vs) hlt)
        have Hnew : Hid (farB (valOf vs t[k].1) = false → ∀ i (hi : i < t.length), i < k + 1 → farB (valOf vs t[i].1) = false) := fun e i h1 h3 => by
          rcases Nat.lt_succ_iff_lt_or_eq.1 h3 with h | rfl
          · exact hgd.out i h1 h
          · exact e
        rw [hn] at Hbad Hst Hnew hx0
        generalize t[k].2 = kk at *
        clear hn
        have HV := Lib.hid (HO.out wr (hc1.out.thenNo hch.out) n (by omega))
        obtain ⟨x, hx⟩ : ∃ x, x = valOf vs (n : Int) := ⟨_, rfl⟩
        rw [← hx] at Hbad Hst Hnew HV
        have HMB := Lib.hid (fun h3 h4 => mul_bound (b := x) hk1 hk2 h3 h4)
        clear hgd hx
        rcases farB_cases x with ⟨hf, hd2⟩ | ⟨hf, hd2, hd3⟩ | ⟨hf, hd2, hd3, hx4, hx5⟩
        · obtain rfl : r = (0, 1) := Hbad.out hf
          clear hf
          go_wp2_with (go_at_call 20; refine HV.out.mono ?_; rintro e w2 ⟨rfl, rfl⟩)
          go_ret2
          exact ⟨rfl, hc1.out.thenNo hch.out⟩
        · obtain rfl : r = (0, 1) := Hbad.out hf
          clear hf
          go_wp2_with (go_at_call 20; refine HV.out.mono ?_; rintro e w2 ⟨rfl, rfl⟩)
          go_ret2
          exact ⟨rfl, hc1.out.thenNo hch.out⟩
        · obtain ⟨hp1, hp2⟩ := HMB.out hx4 hx5
          rw [Int.mul_comm] at hp1 hp2 Hst
          have Hn := Lib.hid (Hnew.out hf)
          clear hf hx4 hx5
          go_wp2_with (go_at_call 20; refine HV.out.mono ?_; rintro e w2 ⟨rfl, rfl⟩)
          go_roundw
          case rel => exact ⟨k + 1, _, hlt, rfl, by go_num, by unfold Hid; rw [Hst.out, hu.out]; omega, hch, Hn.out⟩
          case measure => simp [intOf]; omega
      · obtain rfl : k = t.length := by omega
        obtain rfl := V.out.good (fun i hi => hgd.out i hi hi)
        have hu' := hu.out
        clear hu
        subst hu'
        go_wp2
        go_ret2
        exact ⟨rfl, hc1.out.thenNo hch.out⟩
end Go.Proofs.YtpmndblakmobdaaGreatDoor
