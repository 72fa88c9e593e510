/-
  lin.Value and the reference's.
-/
import Derived.Test.YtpmndblakmobdaaDoorLin4
import Derived.Test.YtpmndblakmobdaaDoorLinLaw
import Derived.Test.YtpmndblakmobdaaDoorFind
namespace Go.Proofs.YtpmndblakmobdaaDoor
open Go Go.RowKit

/-- A variable's value by a list. -/
def valOf (vs : List Int) (v : Int) : Int := if v < (vs.length : Int) then vs.getD v.toNat 0 else 0
/-- Is a value too great? -/
def farB (x : Int) : Bool := decide (x < -16777216) || decide (16777216 < x)
def farAny (vs : List Int) (t : List Mono) : Bool := t.any fun m => farB (valOf vs m.1)
/-- What the value is, and what is amiss. -/
def linVal (c : Int) (t : List Mono) (vs : List Int) : Int × Int := if linB c t = true then (if farAny vs t = true then (0, 1) else (c + val (valOf vs) t, 0)) else (0, 5)

theorem mul_bound {a b : Int} (h1 : -1073741824 ≤ a) (h2 : a ≤ 1073741824) (h3 : -16777216 ≤ b) (h4 : b ≤ 16777216) : -18014398509481984 ≤ a * b ∧ a * b ≤ 18014398509481984 := by
  have h : (a * b).natAbs ≤ 1073741824 * 16777216 := by
    rw [Int.natAbs_mul]
    exact Nat.mul_le_mul (by omega) (by omega)
  omega
theorem farB_no {x : Int} (h : farB x = false) : -16777216 ≤ x ∧ x ≤ 16777216 := by
  unfold farB at h
  rw [Bool.or_eq_false_iff, decide_eq_false_iff_not, decide_eq_false_iff_not] at h
  omega
theorem val_bound {f : Int → Int} : ∀ {t : List Mono}, (∀ m ∈ t, (-1073741824 ≤ m.2 ∧ m.2 ≤ 1073741824) ∧ farB (f m.1) = false) → -(18014398509481984 * (t.length : Int)) ≤ val f t ∧ val f t ≤ 18014398509481984 * (t.length : Int)
  | [], _ => by simp [val_nil]
  | m :: t, h => by
    have h1 := val_bound (t := t) (fun x hx => h x (List.mem_cons_of_mem _ hx))
    obtain ⟨⟨h2, h3⟩, h4⟩ := h m List.mem_cons_self
    have h5 := farB_no h4
    have h6 := mul_bound h2 h3 h5.1 h5.2
    rw [val_cons, List.length_cons]
    omega
theorem val_take {f : Int → Int} {t : List Mono} {k : Nat} (h : k < t.length) : val f (t.take (k + 1)) = val f (t.take k) + t[k].2 * f t[k].1 := by
  rw [List.take_succ_eq_append_getElem h, val_append, val_cons, val_nil]
  omega
theorem valOf_in {vs : List Int} {n : Nat} (h : n < vs.length) : valOf vs (n : Int) = vs[n] := by
  unfold valOf
  rw [if_pos (by omega)]
  simp [List.getD, h]
theorem valOf_out {vs : List Int} {n : Nat} (h : ¬ n < vs.length) : valOf vs (n : Int) = 0 := by
  unfold valOf
  rw [if_neg (by omega)]
theorem farAny_bad {vs : List Int} {t : List Mono} (k : Nat) (hk : k < t.length) (h : farB (valOf vs t[k].1) = true) : farAny vs t = true := by
  unfold farAny
  rw [List.any_eq_true]
  exact ⟨_, List.getElem_mem hk, h⟩
theorem farAny_good {vs : List Int} {t : List Mono} (h : ∀ i (hi : i < t.length), farB (valOf vs t[i].1) = false) : farAny vs t = false := by
  unfold farAny
  rw [List.any_eq_false]
  intro m hm
  obtain ⟨i, hi, rfl⟩ := List.getElem_of_mem hm
  rw [h i hi]
  decide

/-- The value when all is sound, by the way that the loops take. -/
structure ValWay (c : Int) (t : List Mono) (vs : List Int) (r : Int × Int) : Prop where
  len : t.length ≤ 64
  c1 : -1073741824 ≤ c
  c2 : c ≤ 1073741824
  var : ∀ i (hi : i < t.length), ∃ n : Nat, t[i].1 = (n : Int) ∧ n < 1048576
  k1 : ∀ i (hi : i < t.length), -1073741824 ≤ t[i].2 ∧ t[i].2 ≤ 1073741824
  bad : ∀ i (hi : i < t.length), farB (valOf vs t[i].1) = true → r = (0, 1)
  good : (∀ i (hi : i < t.length), farB (valOf vs t[i].1) = false) → r = (c + val (valOf vs) (t.take t.length), 0)
theorem valWay {c : Int} {t : List Mono} {vs : List Int} (h : linB c t = true) : ValWay c t vs (linVal c t vs) := by
  have hs := linB_sound h
  refine ⟨hs.2.1, (coefB_le hs.1).1, (coefB_le hs.1).2, fun i hi => ?_, fun i hi => coefB_le (hs.2.2 i hi).2.1, fun i hi hf => ?_, fun hf => ?_⟩
  · have := varB_le (hs.2.2 i hi).1
    exact ⟨t[i].1.toNat, by omega, by omega⟩
  · unfold linVal; rw [if_pos h, if_pos (farAny_bad i hi hf)]
  · unfold linVal; rw [if_pos h, if_neg (by rw [farAny_good hf]; decide), List.take_of_length_le (Nat.le_refl _)]

theorem farB_cases (x : Int) : (farB x = true ∧ decide (x < -16777216) = true) ∨ (farB x = true ∧ decide (x < -16777216) = false ∧ decide (16777216 < x) = true) ∨ (farB x = false ∧ decide (x < -16777216) = false ∧ decide (16777216 < x) = false ∧ -16777216 ≤ x ∧ x ≤ 16777216) := by
  unfold farB
  by_cases h1 : x < -16777216 <;> by_cases h2 : 16777216 < x <;> simp [h1, h2] <;> omega

/-- A partial sum. -/
theorem part_bound {c : Int} {t : List Mono} {vs : List Int} {r : Int × Int} (V : ValWay c t vs r) {k : Nat} (hk : k ≤ t.length) (hg : ∀ i (hi : i < t.length), i < k → farB (valOf vs t[i].1) = false) :
    -1170000000000000000 ≤ c + val (valOf vs) (t.take k) ∧ c + val (valOf vs) (t.take k) ≤ 1170000000000000000 := by
  have h := val_bound (f := valOf vs) (t := t.take k) (fun m hm => by
    obtain ⟨i, hi, rfl⟩ := List.getElem_of_mem hm
    rw [List.length_take] at hi
    rw [List.getElem_take]
    exact ⟨V.k1 i (by omega), hg i (by omega) (by omega)⟩)
  have hl : (t.take k).length ≤ 64 := by rw [List.length_take]; have := V.len; omega
  have := V.c1
  have := V.c2
  omega

end Go.Proofs.YtpmndblakmobdaaDoor
