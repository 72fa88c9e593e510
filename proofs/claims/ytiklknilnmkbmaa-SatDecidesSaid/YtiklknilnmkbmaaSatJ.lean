/-
  What Solve found is so (plain law); law08.light, law08.bounded, the document's examples.
-/
import Derived.Test.YtiklknilnmkbmaaSatC
import Derived.Test.YtiklknilnmkbmaaSatI
namespace Go.Proofs.Ytiklknilnmkbmaa
open Go Go.RowKit

open Classical in
noncomputable def tellG (cl : List (List Int)) (lits : List Int) (i : Nat) : Int := if i = 0 then 0 else if Drv cl lits (i : Int) then 1 else if Drv cl lits (-(i : Int)) then -1 else 0
theorem fol_ex {n : Nat} {cl : List (List Int)} {lits : List Int} (h : ¬ Confl cl lits) : ∃ a, Fol n cl lits a := by
  classical
  obtain ⟨g, hg⟩ : ∃ g, g = tellG cl lits := ⟨_, rfl⟩
  have hat : ∀ i, i ≤ n → ((List.range (n + 1)).map g).getD i 0 = g i := fun i hi => by
    rw [List.getD_eq_getElem?_getD, List.getElem?_map, List.getElem?_range (by omega)]; rfl
  refine ⟨(List.range (n + 1)).map g, by simp, ?_, ?_, ?_, h⟩
  · rw [hat 0 (Nat.zero_le _), hg]; unfold tellG; simp
  · intro x hx
    obtain ⟨i, _, rfl⟩ := List.mem_map.1 hx
    rw [hg]
    unfold tellG
    by_cases h0 : i = 0
    · simp [h0]
    · by_cases h1 : Drv cl lits (i : Int)
      · simp [h0, h1]
      · by_cases h2 : Drv cl lits (-(i : Int)) <;> simp [h0, h1, h2]
  · intro l h0 hl
    unfold val
    rw [hat _ hl, hg]
    unfold tellG
    by_cases hn : l < 0
    · have e : (l.natAbs : Int) = -l := by omega
      have hz : l.natAbs ≠ 0 := by omega
      simp only [if_pos hn, if_neg hz, e, Int.neg_neg]
      by_cases h1 : Drv cl lits (-l)
      · rw [if_pos h1]
        exact ⟨fun h => by omega, fun h2 => absurd (.inl ⟨l, h0, h2, h1⟩) h⟩
      · rw [if_neg h1]
        by_cases h2 : Drv cl lits l
        · rw [if_pos h2]; exact ⟨fun _ => h2, fun _ => rfl⟩
        · rw [if_neg h2]; exact ⟨fun h => by omega, fun h => absurd h h2⟩
    · have e : (l.natAbs : Int) = l := by omega
      have hz : l.natAbs ≠ 0 := by omega
      simp only [if_neg hn, if_neg hz, e]
      by_cases h1 : Drv cl lits l
      · rw [if_pos h1]; exact ⟨fun _ => h1, fun _ => rfl⟩
      · rw [if_neg h1]
        exact ⟨fun h => by split at h <;> omega, fun h => absurd h h1⟩
theorem valB_other {vs : List Bool} {l : Int} (h0 : l ≠ 0) (hl : l.natAbs ≤ vs.length) (h : valB vs l = false) : valB vs (-l) = true := by
  unfold valB at *
  rw [Int.natAbs_neg]
  have h1 : decide (1 ≤ l.natAbs) = true := decide_eq_true (by omega)
  have h2 : decide (l.natAbs ≤ vs.length) = true := decide_eq_true hl
  rw [h1, h2] at h ⊢
  have e : decide (0 < -l) = !decide (0 < l) := by
    by_cases hp : 0 < l
    · rw [decide_eq_true hp, decide_eq_false (by omega)]; rfl
    · rw [decide_eq_false hp, decide_eq_true (by omega)]; rfl
  rw [e]
  clear h1 h2 e
  generalize decide (0 < l) = p at *
  generalize vs.getD (l.natAbs - 1) false = q at *
  cases p <;> cases q <;> first | rfl | (simp at h)
/-- Clauses that are true by some values aren't refuted. -/
theorem never {n : Int} {cl st : List (List Int)} {vs : List Bool} (hv : allB cl vs = true) (hn : n ≤ vs.length) : ¬ RupIs n cl st 0 (-1) := by
  rintro (⟨h1, h2, _⟩ | ⟨_, h1, h2, _⟩ | ⟨_, _, i, _, h2, _⟩ | ⟨_, hk, hch, _, hc⟩)
  · exact h1 h2.symm
  · exact h1 h2.symm
  · omega
  · obtain ⟨N, rfl, _, _, hcs⟩ := chk_zero hk
    have hall : ∀ i, i ≤ st.length → ∀ c ∈ cl ++ st.take i, c.any (valB vs) = true := by
      intro i
      induction i with
      | zero => intro _ c hc; rw [List.take_zero, List.append_nil] at hc; exact List.all_eq_true.1 hv c hc
      | succ i ih =>
        intro hi c hc
        rw [List.take_succ_eq_append_getElem (show i < st.length by omega), ← List.append_assoc] at hc
        rcases List.mem_append.1 hc with g | g
        · exact ih (by omega) c g
        · simp at g
          subst g
          cases hb : (st[i]'(by omega)).any (valB vs)
          · exfalso
            refine hch i (by omega) ?_
            have hgd : st.getD i [] = st[i]'(by omega) := by rw [List.getD_eq_getElem?_getD, List.getElem?_eq_getElem (by omega)]; rfl
            rw [hgd, Int.toNat_natCast]
            have hlit := (hcs (st[i]'(by omega)) (List.mem_append_right _ (List.getElem_mem _))).2
            refine fol_ex (right_fol (n := N) (values := vs) (fun c hc => ?_) (fun l hl => ?_) (ih (by omega)))
            · refine (hcs c ?_).2
              rcases List.mem_append.1 hc with g | g
              · exact List.mem_append_left _ g
              · exact List.mem_append_right _ (List.mem_of_mem_take g)
            · unfold negL at hl
              obtain ⟨m, hm, rfl⟩ := List.mem_map.1 hl
              have := hlit m hm
              have hf := List.any_eq_false.1 hb m hm
              exact valB_other this.1 (by omega) (by simpa using hf)
          · rfl
    by_cases he : (cl ++ st).any (fun r => decide (r.length = 0)) = true
    · obtain ⟨r, hr, h0⟩ := List.any_eq_true.1 he
      have := hall st.length (Nat.le_refl _) r (by rwa [List.take_length])
      have hz : r = [] := List.eq_nil_of_length_eq_zero (of_decide_eq_true h0)
      subst hz
      cases this
    · rw [if_neg he] at hc; omega

theorem many_small : ∀ (cl : List (List Int)) (m : Int), (∀ c ∈ cl, c.length ≤ 100) → m + 100 * cl.length ≤ 131072 → manyB cl m = false
  | [], _, _, _ => rfl
  | c :: cs, m, h, hm => by
    have h1 := h c (by simp)
    have e : ((c :: cs).length : Int) = cs.length + 1 := by simp
    rw [e] at hm
    unfold manyB
    rw [if_neg (by omega)]
    exact many_small cs _ (fun c hc => h c (List.mem_cons_of_mem _ hc)) (by omega)
theorem chk_small {n : Int} {cl : List (List Int)} (h0 : 0 ≤ n) (h1 : n ≤ 8192) (hl : cl.length ≤ 1000) (hc : ∀ c ∈ cl, c.length ≤ 100 ∧ ∀ l ∈ c, litB n l = true) : chk n cl = 0 := by
  refine chk_fine h0 h1 (by omega) (many_small cl 0 (fun c h => (hc c h).1) (by omega)) (fun k hk => ?_)
  rw [List.any_eq_false]
  intro l hl2
  rw [(hc _ (List.getElem_mem hk)).2 l hl2]; simp
theorem litB_of {n : Int} {l : Int} (h0 : l ≠ 0) (h : l.natAbs ≤ n.toNat) : litB n l = true := by
  unfold litB
  simp only [Bool.and_eq_true, bne_iff_ne, decide_eq_true_eq]
  exact ⟨⟨h0, by omega⟩, by omega⟩
theorem enough_small {n : Int} {cl : List (List Int)} {f : Int} (hk : chk n cl = 0) (h8 : n ≤ 8) (hl : cl.length ≤ 100) (hc : ∀ c ∈ cl, c.length ≤ 100) (hf : 1000 ≤ f) : 1 ≤ f ∧ Enough n cl [] f [] := by
  obtain ⟨N, rfl, _, _, hcs⟩ := chk_zero hk
  have hN : N ≤ 8 := by omega
  have hp : 2 ^ (N + 1) ≤ 512 := by
    have := Nat.pow_le_pow_right (show 0 < 2 by decide) (show N + 1 ≤ 9 by omega)
    exact Nat.le_trans this (by decide)
  have hpi : (2 : Int) ^ (N + 1) ≤ 512 := by have := pow_cast (N + 1); omega
  have ee : ((N : Int).toNat - ([] : List Int).length + 1) = N + 1 := by simp
  refine ⟨by omega, ⟨by simp, by simp⟩, by rw [ee]; omega, fun M hM hc2 => ?_⟩
  rw [ee] at hM
  rw [List.nil_append]
  have hlen : (cl ++ M).length ≤ 1000 := by rw [List.length_append]; omega
  refine ⟨chk_small (by omega) (by omega) hlen (fun c hcm => ?_), by omega⟩
  rcases List.mem_append.1 hcm with g | g
  · exact ⟨hc c g, fun l hl => by have := (hcs c g).2 l hl; exact litB_of this.1 (by simpa using this.2)⟩
  · have := hc2 c g
    rw [Int.toNat_natCast] at this
    exact ⟨by omega, fun l hl => by have := this.2 l hl; exact litB_of this.1 (by simpa using this.2)⟩

/-- What light asks. -/
def LightIs (cl : List (List Int)) (b : Bool) : Prop := b = true → cl.length ≤ 200 → ∀ c ∈ cl, c.length ≤ 100
def LightRet (cl : List (List Int)) (w : World) (e : Ending) (w' : World) : Prop := ∃ b, e = .returned (.bool b) ∧ LightIs cl b ∧ w = w'
set_option maxHeartbeats 1000000 in
theorem light_is (n : Int) (R : Nat → Prop) (w : World) (A : Option Addr) (cl : List (List Int)) (cap : Nat) (hcl : Rows2 R w A cl cap) :
    Calls Try.prog 14 #[.int .i64 n, .slice A cl.length cap] w (LightRet cl w) := by
  have hb := hcl.big
  unfold big at hb
  have HCL := Lib.hid hcl
  clear hcl
  have HNO : Hid (LightIs cl false) := fun h => by cases h
  go_enter Try.func14, Try.ntmps14
  go_wp2
  all_goals first
    | (go_ret; exact ⟨_, rfl, HNO.out, rfl⟩)
    | (go_loop [5] (fun i => ∃ k : Nat, k ≤ cl.length ∧ i = .int .i64 k ∧ Hid (∀ j (h : j < cl.length), j < k → cl[j].length ≤ 100)) (fun i => cl.length - (intOf i).toNat)
       case atStart => exact ⟨0, Nat.zero_le _, rfl, fun j _ h => absurd h (by omega)⟩
       case round =>
         obtain ⟨k, hk, rfl, HK⟩ := hrel
         by_cases hlt : k < cl.length
         · obtain ⟨b, o, A', c', rfl, hx, hx'⟩ := HCL.out.row_at k hlt
           clear hx'
           by_cases h2 : (k : Int) < 200
           · by_cases h1 : (100 : Int) < (cl[k].length : Int)
             · go_wp2
               go_ret
               exact ⟨_, rfl, HNO.out, rfl⟩
             · have HK2 : Hid (∀ j (h : j < cl.length), j < k + 1 → cl[j].length ≤ 100) := fun j h hj => by
                 rcases Nat.lt_or_ge j k with g | g
                 · exact HK.out j h g
                 · obtain rfl : j = k := by omega
                   omega
               go_wp2
               go_round
               case rel => exact ⟨k + 1, hlt, by go_num, HK2⟩
               case measure => simp [intOf]; omega
           · have HL : Hid (LightIs cl true) := fun _ hl => by omega
             go_wp2
             go_ret
             exact ⟨_, rfl, HL.out, rfl⟩
         · have HL : Hid (LightIs cl true) := fun _ hl c hc => by
             obtain ⟨i, hi, rfl⟩ := List.mem_iff_getElem.1 hc
             exact HK.out i hi (by omega)
           go_wp2
           go_ret
           exact ⟨_, rfl, HL.out, rfl⟩)
/-- law08.light. -/
def Light8 (cl : List (List Int)) (b : Bool) : Prop := b = true → cl.length ≤ 100 ∧ ∀ c ∈ cl, c.length ≤ 100
def Light8Ret (cl : List (List Int)) (w : World) (e : Ending) (w' : World) : Prop := ∃ b, e = .returned (.bool b) ∧ Light8 cl b ∧ w = w'
theorem light8 (n : Int) (R : Nat → Prop) (w : World) (A : Option Addr) (cl : List (List Int)) (cap : Nat) (hcl : Rows2 R w A cl cap) :
    Calls Try.prog 7 #[.int .i64 n, .slice A cl.length cap] w (Light8Ret cl w) := by
  have hb := hcl.big
  unfold big at hb
  have HL := Lib.hid (light_is n R w A cl cap hcl)
  have HNO : Hid (Light8 cl false) := fun h => by cases h
  have HOK : Hid (cl.length ≤ 100 → ∀ b b', LightIs cl b → (b' = true → b = true) → Light8 cl b') := fun h b b' hb hbb hc => ⟨h, hb (hbb hc) (by omega)⟩
  clear hcl
  go_enter Try.func7, Try.ntmps7
  go_wp2_with (go_at_call 14; refine HL.out.mono ?_; rintro e w1 ⟨b, rfl, HB, rfl⟩)
  all_goals first
    | (go_ret; exact ⟨_, rfl, HNO.out, rfl⟩)
    | (go_ret; exact ⟨_, rfl, HOK.out (by omega) _ _ HB (fun h => by first | exact h | (simp at h; exact h.2)), rfl⟩)
theorem bounded8 (f : Int) (w : World) : Calls Try.prog 9 #[.int .i64 f] w fun e w' => e = .returned (.int .i64 (if 3000 < f then 3000 else f)) ∧ w = w' := by
  by_cases h : 3000 < f
  · rw [if_pos h]
    go_enter Try.func9, Try.ntmps9
    go_wp2
    go_ret
    exact ⟨rfl, rfl⟩
  · rw [if_neg h]
    go_enter Try.func9, Try.ntmps9
    go_wp2
    go_ret
    exact ⟨rfl, rfl⟩
end Go.Proofs.Ytiklknilnmkbmaa
