/-
  Chapter 7, plain law: clauses that are true by some values aren't refuted; what is amiss is one; all values of a few variables. law07.light.
-/
import Derived.Test.YtbbcodpoiikkdaaDoorSatC
namespace Go.Proofs.YtbbcodpoiikkdaaDoor
open Go Go.RowKit

open Classical in
noncomputable def tellG (cl : List (List Int)) (lits : List Int) (i : Nat) : Int := if i = 0 then 0 else if Drv cl lits (i : Int) then 1 else if Drv cl lits (-(i : Int)) then -1 else 0
theorem fol_ex {n : Nat} {cl : List (List Int)} {lits : List Int} (h : ¬ Confl cl lits) : ∃ a, Fol n cl lits a := by
  classical
  obtain ⟨g, hg⟩ : ∃ g, g = tellG cl lits := ⟨_, rfl⟩
  have hat : ∀ i, i ≤ n → ((List.range (n + 1)).map g).getD i 0 = g i := fun i hi => by
    rw [List.getD_eq_getElem?_getD, List.getElem?_map, List.getElem?_range (by omega)]; rfl
  refine ⟨(List.range (n + 1)).map g, by simp, ?_, ?_, ?_, h⟩
  · rw [hat 0 (Nat.zero_le _), hg]; unfold tellG; simp
  · intro x hx
    obtain ⟨i, _, rfl⟩ := List.mem_map.1 hx
    rw [hg]
    unfold tellG
    by_cases h0 : i = 0
    · simp [h0]
    · by_cases h1 : Drv cl lits (i : Int)
      · simp [h0, h1]
      · by_cases h2 : Drv cl lits (-(i : Int)) <;> simp [h0, h1, h2]
  · intro l h0 hl
    unfold val
    rw [hat _ hl, hg]
    unfold tellG
    by_cases hn : l < 0
    · have e : (l.natAbs : Int) = -l := by omega
      have hz : l.natAbs ≠ 0 := by omega
      simp only [if_pos hn, if_neg hz, e, Int.neg_neg]
      by_cases h1 : Drv cl lits (-l)
      · rw [if_pos h1]
        exact ⟨fun h => by omega, fun h2 => absurd (.inl ⟨l, h0, h2, h1⟩) h⟩
      · rw [if_neg h1]
        by_cases h2 : Drv cl lits l
        · rw [if_pos h2]; exact ⟨fun _ => h2, fun _ => rfl⟩
        · rw [if_neg h2]; exact ⟨fun h => by omega, fun h => absurd h h2⟩
    · have e : (l.natAbs : Int) = l := by omega
      have hz : l.natAbs ≠ 0 := by omega
      simp only [if_neg hn, if_neg hz, e]
      by_cases h1 : Drv cl lits l
      · rw [if_pos h1]; exact ⟨fun _ => h1, fun _ => rfl⟩
      · rw [if_neg h1]
        exact ⟨fun h => by split at h <;> omega, fun h => absurd h h1⟩
theorem valB_other {vs : List Bool} {l : Int} (h0 : l ≠ 0) (hl : l.natAbs ≤ vs.length) (h : valB vs l = false) : valB vs (-l) = true := by
  unfold valB at *
  rw [Int.natAbs_neg]
  have h1 : decide (1 ≤ l.natAbs) = true := decide_eq_true (by omega)
  have h2 : decide (l.natAbs ≤ vs.length) = true := decide_eq_true hl
  rw [h1, h2] at h ⊢
  have e : decide (0 < -l) = !decide (0 < l) := by
    by_cases hp : 0 < l
    · rw [decide_eq_true hp, decide_eq_false (by omega)]; rfl
    · rw [decide_eq_false hp, decide_eq_true (by omega)]; rfl
  rw [e]
  clear h1 h2 e
  generalize decide (0 < l) = p at *
  generalize vs.getD (l.natAbs - 1) false = q at *
  cases p <;> cases q <;> first | rfl | (simp at h)
/-- Clauses that are true by some values aren't refuted. -/
theorem never {n : Int} {cl st : List (List Int)} {vs : List Bool} (hv : allB cl vs = true) (hn : n ≤ vs.length) : ¬ RupIs n cl st 0 (-1) := by
  rintro (⟨h1, h2, _⟩ | ⟨_, h1, h2, _⟩ | ⟨_, _, i, _, h2, _⟩ | ⟨_, hk, hch, _, hc⟩)
  · exact h1 h2.symm
  · exact h1 h2.symm
  · omega
  · obtain ⟨N, rfl, _, _, hcs⟩ := chk_zero hk
    have hall : ∀ i, i ≤ st.length → ∀ c ∈ cl ++ st.take i, c.any (valB vs) = true := by
      intro i
      induction i with
      | zero => intro _ c hc; rw [List.take_zero, List.append_nil] at hc; exact List.all_eq_true.1 hv c hc
      | succ i ih =>
        intro hi c hc
        rw [List.take_succ_eq_append_getElem (show i < st.length by omega), ← List.append_assoc] at hc
        rcases List.mem_append.1 hc with g | g
        · exact ih (by omega) c g
        · simp at g
          subst g
          cases hb : (st[i]'(by omega)).any (valB vs)
          · exfalso
            refine hch i (by omega) ?_
            have hgd : st.getD i [] = st[i]'(by omega) := by rw [List.getD_eq_getElem?_getD, List.getElem?_eq_getElem (by omega)]; rfl
            rw [hgd, Int.toNat_natCast]
            have hlit := (hcs (st[i]'(by omega)) (List.mem_append_right _ (List.getElem_mem _))).2
            refine fol_ex (right_fol (n := N) (values := vs) (fun c hc => ?_) (fun l hl => ?_) (ih (by omega)))
            · refine (hcs c ?_).2
              rcases List.mem_append.1 hc with g | g
              · exact List.mem_append_left _ g
              · exact List.mem_append_right _ (List.mem_of_mem_take g)
            · unfold negL at hl
              obtain ⟨m, hm, rfl⟩ := List.mem_map.1 hl
              have := hlit m hm
              have hf := List.any_eq_false.1 hb m hm
              exact valB_other this.1 (by omega) (by simpa using hf)
          · rfl
    by_cases he : (cl ++ st).any (fun r => decide (r.length = 0)) = true
    · obtain ⟨r, hr, h0⟩ := List.any_eq_true.1 he
      have := hall st.length (Nat.le_refl _) r (by rwa [List.take_length])
      have hz : r = [] := List.eq_nil_of_length_eq_zero (of_decide_eq_true h0)
      subst hz
      cases this
    · rw [if_neg he] at hc; omega

def bitB (k j : Nat) : Bool := decide (k / 2 ^ j % 2 = 1)
def bitsB (N k : Nat) : List Bool := (List.range N).map (bitB k)
def bitsAt (N k j : Nat) : List Bool := (List.range N).map fun i => decide (i < j) && bitB k i
theorem bitsB_len (N k : Nat) : (bitsB N k).length = N := by simp [bitsB]
theorem bitsAt_len (N k j : Nat) : (bitsAt N k j).length = N := by simp [bitsAt]
theorem bitsAt_all (N k : Nat) : bitsAt N k N = bitsB N k := by
  unfold bitsAt bitsB
  refine List.map_congr_left fun i hi => ?_
  rw [decide_eq_true (List.mem_range.1 hi), Bool.true_and]
theorem bitsAt_zero (N k : Nat) : bitsAt N k 0 = List.replicate N false := by
  refine List.ext_getElem (by simp [bitsAt]) fun i h1 h2 => ?_
  simp [bitsAt]
theorem bitsAt_next {N k j : Nat} : bitsAt N k (j + 1) = (bitsAt N k j).set j (bitB k j) := by
  unfold bitsAt
  refine List.ext_getElem (by simp) fun i h1 h2 => ?_
  rw [List.getElem_set]
  simp only [List.getElem_map, List.getElem_range]
  by_cases h : j = i
  · subst h; simp
  · rw [if_neg h]
    have : decide (i < j + 1) = decide (i < j) := by
      by_cases g : i < j
      · rw [decide_eq_true g, decide_eq_true (by omega)]
      · rw [decide_eq_false g, decide_eq_false (by omega)]
    rw [this]
theorem bits_every : ∀ vs : List Bool, ∃ k, k < 2 ^ vs.length ∧ bitsB vs.length k = vs
  | [] => ⟨0, by simp, rfl⟩
  | b :: vs => by
    obtain ⟨k, hk, he⟩ := bits_every vs
    have hd : (2 * k + (if b then 1 else 0)) / 2 = k := by cases b <;> simp <;> omega
    refine ⟨2 * k + (if b then 1 else 0), ?_, ?_⟩
    · rw [List.length_cons, Nat.pow_succ]; split <;> omega
    · show (List.range (vs.length + 1)).map _ = _
      rw [List.range_succ_eq_map, List.map_cons, List.map_map]
      congr 1
      · unfold bitB
        rw [Nat.pow_zero, Nat.div_one]
        cases b
        · exact decide_eq_false (by simp)
        · exact decide_eq_true (by simp <;> omega)
      · rw [← he, bitsB_len]
        unfold bitsB
        refine List.map_congr_left fun i _ => ?_
        unfold bitB
        have : (2 * k + (if b then 1 else 0)) / 2 ^ (i + 1) = k / 2 ^ i := by
          rw [Nat.pow_succ, Nat.mul_comm (2 ^ i) 2, ← Nat.div_div_eq_div_mul, hd]
        show decide ((2 * k + (if b then 1 else 0)) / 2 ^ (i + 1) % 2 = 1) = _
        rw [this]
theorem bit_eq (k j : Nat) : (((k : Int) / 2 ^ j).tmod 2 == 1) = bitB k j := by
  have e : (k : Int) / 2 ^ j = ((k / 2 ^ j : Nat) : Int) := by simp
  rw [e, Int.tmod_eq_emod_of_nonneg (Int.natCast_nonneg _)]
  unfold bitB
  generalize k / 2 ^ j = m
  by_cases h : m % 2 = 1
  · rw [decide_eq_true h]
    exact beq_iff_eq.2 (by omega)
  · rw [decide_eq_false h]
    exact beq_eq_false_iff_ne.2 (by omega)

/-- What is amiss with a proof, and where, is one. -/
theorem rupIs_unique {n : Int} {cl st : List (List Int)} {c p c' p' : Int} (h : RupIs n cl st c p) (g : RupIs n cl st c' p') : c = c' ∧ p = p' := by
  rcases h with ⟨h1, h2, h3⟩ | ⟨h0, h1, h2, h3⟩ | ⟨h0, h1, i, hi, h2, h3, h4, h5⟩ | ⟨h0, h1, h2, h3, h4⟩
  · rcases g with ⟨g1, g2, g3⟩ | ⟨g0, _⟩ | ⟨g0, _⟩ | ⟨g0, _⟩
    · exact ⟨by omega, by omega⟩
    all_goals exact absurd g0 h1
  · rcases g with ⟨g1, g2, g3⟩ | ⟨g0, g1, g2, g3⟩ | ⟨g0, g1, _⟩ | ⟨g0, g1, _⟩
    · exact absurd h0 g1
    · exact ⟨by omega, by omega⟩
    all_goals exact absurd g1 h1
  · rcases g with ⟨g1, g2, g3⟩ | ⟨g0, g1, g2, g3⟩ | ⟨g0, g1, j, hj, g2, g3, g4, g5⟩ | ⟨g0, g1, g2, _⟩
    · exact absurd h0 g1
    · exact absurd h1 g1
    · have : i = j := by
        rcases Nat.lt_trichotomy i j with h | h | h
        · exact absurd (g5 i h) h4
        · exact h
        · exact absurd (h5 j h) g4
      exact ⟨by omega, by omega⟩
    · exact absurd (g2 i hi) h4
  · rcases g with ⟨g1, g2, g3⟩ | ⟨g0, g1, g2, g3⟩ | ⟨g0, g1, j, hj, g2, g3, g4, g5⟩ | ⟨g0, g1, g2, g3, g4⟩
    · exact absurd h0 g1
    · exact absurd h1 g1
    · exact absurd (h2 j hj) g4
    · exact ⟨by rw [h4, g4], by omega⟩

/-- law07.light: some bool; where true, the steps are few. -/
def LightRet7 (cl st : List (List Int)) (w : World) (e : Ending) (w' : World) : Prop := ∃ b, e = .returned (.bool b) ∧ (b = true → cl.length ≤ 200 ∧ st.length ≤ 100) ∧ w = w'
theorem light7 (n : Int) {R R' : Nat → Prop} (w : World) {A B : Option Addr} {cl st : List (List Int)} {ca cb : Nat} (hcl : Rows2 R w A cl ca) (hst : Rows2 R' w B st cb) :
    Calls Tryd.prog 8 #[.int .i64 n, .slice A cl.length ca, .slice B st.length cb] w (LightRet7 cl st w) := by
  have hb := hcl.big
  have hb' := hst.big
  unfold big at hb hb'
  have HL1 := Lib.hid (light_any n R w A cl ca hcl)
  have HL2 := Lib.hid (light_any n R' w B st cb hst)
  have HNO : Hid (false = true → cl.length ≤ 200 ∧ st.length ≤ 100) := fun h => by cases h
  have HOK : Hid (cl.length ≤ 200 → st.length ≤ 100 → ∀ b, b = true → cl.length ≤ 200 ∧ st.length ≤ 100) := fun h1 h2 _ _ => ⟨h1, h2⟩
  clear hcl hst
  go_enter Tryd.func8, Tryd.ntmps8
  go_wp2_with (first
    | (go_at_call_of 15 (Value.slice A cl.length ca); refine HL1.out.mono ?_; rintro e w1 ⟨b, rfl, rfl⟩)
    | (go_at_call 15; refine HL2.out.mono ?_; rintro e w1 ⟨b2, rfl, rfl⟩))
  all_goals first
    | (go_ret; exact ⟨_, rfl, HNO.out, rfl⟩)
    | (go_ret; exact ⟨_, rfl, HOK.out (by omega) (by omega) _, rfl⟩)
end Go.Proofs.YtbbcodpoiikkdaaDoor
