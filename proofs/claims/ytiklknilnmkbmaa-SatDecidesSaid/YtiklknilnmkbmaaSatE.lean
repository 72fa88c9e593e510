/-
  open: a variable of a clause that is not true yet.
-/
import Derived.Test.YtiklknilnmkbmaaSatD
namespace Go.Proofs.Ytiklknilnmkbmaa
open Go Go.RowKit

/-- What open answers. -/
def OpenIs (cl : List (List Int)) (a : List Int) (v : Int) : Prop :=
  (v = 0 ∧ ((∀ c ∈ cl, ∃ l ∈ c, val a l = 1) ∨ ∃ c ∈ cl, ∀ l ∈ c, val a l = -1)) ∨ (v ≠ 0 ∧ ∃ c ∈ cl, v ∈ c ∧ val a v = 0)
/-- A clause's literals so far. -/
def InR (a c : List Int) (k : Nat) (one : Int) (is : Bool) : Prop :=
  is = (c.take k).any (fun l => val a l == 1) ∧ ((one = 0 ∧ ∀ l ∈ c.take k, val a l ≠ 0) ∨ (one ≠ 0 ∧ one ∈ c ∧ val a one = 0))
theorem InR.next {a c : List Int} {k : Nat} {one : Int} {is : Bool} (h : InR a c k one is) (hk : k < c.length) (h0 : c[k] ≠ 0) : InR a c (k + 1) (if val a c[k] = 0 ∧ one = 0 then c[k] else one) (is || (val a c[k] == 1)) := by
  obtain ⟨h1, h2⟩ := h
  refine ⟨by rw [List.take_succ_eq_append_getElem hk, List.any_append, h1]; simp, ?_⟩
  by_cases hv : val a c[k] = 0 ∧ one = 0
  · rw [if_pos hv]
    exact .inr ⟨h0, List.getElem_mem hk, hv.1⟩
  · rw [if_neg hv]
    rcases h2 with ⟨e, hall⟩ | h2
    · refine .inl ⟨e, fun l hl => ?_⟩
      rcases take_succ_mem hk hl with g | g
      · exact hall l g
      · rw [g]; exact fun e2 => hv ⟨e2, e⟩
    · exact .inr h2

set_option maxRecDepth 100000 in
set_option maxHeartbeats 4000000 in
theorem open_any {Rc Ra : Nat → Prop} {w : World} {p : Nat} {Ac : Option Addr} {cl : List (List Int)} {cc : Nat} (hp : w.cell? ⟨p, 1, none⟩ = some (.slice Ac cl.length cc)) (hcl : Rows2 Rc w Ac cl cc) {S : Option Addr} {a : List Int} {ca : Nat} (ha : Ints Ra w S a ca)
    (hvals : ∀ x ∈ a, x = 0 ∨ x = 1 ∨ x = -1) (hlit : ∀ c ∈ cl, ∀ l ∈ c, l ≠ 0 ∧ l.natAbs < a.length) (hal : a.length ≤ 10000) :
    Calls Try.prog 27 #[.pointer (some ⟨p, 0, none⟩), .slice S a.length ca] w fun e w' => ∃ v, e = .returned (.int .i64 v) ∧ OpenIs cl a v ∧ w = w' := by
  have HCL := Lib.hid hcl
  have HA := Lib.hid ha
  have HV := Lib.hid hvals
  have HLT := Lib.hid hlit
  have hb := hcl.big
  unfold big at hb
  clear hcl ha hvals hlit
  go_enter Try.func27, Try.ntmps27
  go_wp2_with fail
  go_loopw [17] (fun s17 wr => wr = w ∧ ∃ i : Nat, s17 = .int .i64 i ∧ i ≤ cl.length ∧ Hid (∀ j (h : j < cl.length), j < i → ∃ l ∈ cl[j], val a l = 1)) (fun s17 _ => cl.length - (intOf s17).toNat)
  case atStart => exact ⟨rfl, 0, rfl, Nat.zero_le _, fun j _ h => absurd h (Nat.not_lt_zero j)⟩
  case round =>
    obtain ⟨rfl, i, rfl, gi, hall⟩ := hrel
    by_cases hlt : i < cl.length
    · obtain ⟨bc, oc, Ar, cr, rfl, hx, hr⟩ := HCL.out.row_at i hlt
      have i0 : (0 : Int) ≤ (i : Int) := by omega
      have i1 : (i : Int) < (cl.length : Int) := by omega
      have HR0 := Lib.hid hr
      have HL := Lib.hid (HLT.out cl[i] (List.getElem_mem hlt))
      have hbr := hr.big
      unfold big at hbr
      have HMEM := Lib.hid (List.getElem_mem hlt)
      have HNX : Hid ((∃ l ∈ cl[i], val a l = 1) → ∀ j (h : j < cl.length), j < i + 1 → ∃ l ∈ cl[j], val a l = 1) := fun hp j h hj => by
        rcases Nat.lt_or_ge j i with g | g
        · exact hall.out j h g
        · obtain rfl : j = i := by omega
          exact hp
      clear hr
      generalize cl[i] = c at *
      obtain ⟨wo, rfl⟩ : ∃ wo, wo = wr := ⟨_, rfl⟩
      go_wp2_with fail
      go_loopw [7, 8, 23] (fun s7 s8 s23 wr => wr = wo ∧ ∃ (one : Int) (is : Bool) (k : Nat), s7 = .int .i64 one ∧ s8 = .bool is ∧ s23 = .int .i64 k ∧ k ≤ c.length ∧ Hid (InR a c k one is)) (fun _ _ s23 _ => c.length - (intOf s23).toNat)
      case atStart => exact ⟨rfl, 0, false, 0, rfl, rfl, rfl, Nat.zero_le _, rfl, .inl ⟨rfl, fun l h => by cases h⟩⟩
      case round =>
        obtain ⟨rfl, one, is, k, rfl, rfl, rfl, gk, hin⟩ := hrel
        by_cases hkl : k < c.length
        · obtain ⟨b', o', rfl, hx'⟩ := HR0.out.int_at k hkl
          have k0 : (0 : Int) ≤ (k : Int) := by omega
          have k1 : (k : Int) < (c.length : Int) := by omega
          obtain ⟨l0, l1⟩ := HL.out c[k] (List.getElem_mem hkl)
          have HIN := Lib.hid (hin.out.next hkl l0)
          generalize c[k] = l at *
          have HL0 := Lib.hid l0
          obtain ⟨ba, oa, rfl, hxa⟩ := HA.out.int_at l.natAbs l1
          have hxv := HV.out a[l.natAbs] (List.getElem_mem l1)
          have hva : val a l = if l < 0 then -a[l.natAbs] else a[l.natAbs] := by unfold val; simp [List.getD_eq_getElem?_getD, List.getElem?_eq_getElem l1]
          generalize a[l.natAbs] = x at *
          have HVA := Lib.hid hva
          rw [hva] at HIN
          clear hva
          obtain ⟨z, hz⟩ : ∃ z : Bool, z = decide (one = 0) := ⟨_, rfl⟩
          by_cases hneg : l < 0
          · obtain ⟨m, rfl⟩ : ∃ m : Nat, l = -(m : Int) := ⟨l.natAbs, by omega⟩
            have e1 : (-(m : Int)).natAbs = m := by omega
            rw [e1] at l1 hxa
            have hm0 : 0 < m := by omega
            have hm1 : (0 : Int) ≤ (m : Int) := by omega
            have hm2 : (m : Int) < (a.length : Int) := by omega
            have hm3 : max (-(m : Int)) (m : Int) = m := by omega
            have hm4 : ¬ (0 : Int) < -(m : Int) := by omega
            have hm5 : ¬ (m : Int) < 0 := by omega
            rw [if_pos hneg] at HIN
            clear e1 l0
            rcases hxv with rfl | rfl | rfl
            all_goals cases is
            all_goals
              by_cases h1 : one = 0
              all_goals
                go_wp2_with fail
                go_roundw
                case rel => exact ⟨trivial, _, _, k + 1, rfl, rfl, by go_num, hkl, by unfold Hid; have := HIN.out; simpa [h1, hm5] using this⟩
                case measure => simp [intOf]; omega
          · obtain ⟨m, rfl⟩ : ∃ m : Nat, l = (m : Int) := ⟨l.natAbs, by omega⟩
            have e1 : ((m : Int)).natAbs = m := by omega
            rw [e1] at l1 hxa
            have hm0 : 0 < m := by omega
            have hm1 : (0 : Int) < (m : Int) := by omega
            have hm2 : (m : Int) < (a.length : Int) := by omega
            have hm3 : max (m : Int) (-(m : Int)) = m := by omega
            have hm5 : ¬ (m : Int) < 0 := by omega
            rw [if_neg hneg] at HIN
            clear e1 l0
            rcases hxv with rfl | rfl | rfl
            all_goals cases is
            all_goals
              by_cases h1 : one = 0
              all_goals
                go_wp2_with fail
                go_roundw
                case rel => exact ⟨trivial, _, _, k + 1, rfl, rfl, by go_num, hkl, by unfold Hid; have := HIN.out; simpa [h1, hm5, hm1] using this⟩
                case measure => simp [intOf]; omega
        · obtain rfl : k = c.length := by omega
          obtain ⟨g1, g2⟩ := hin.out
          rw [List.take_of_length_le (Nat.le_refl _)] at g1 g2
          have HG1 := Lib.hid g1
          have HG2 := Lib.hid g2
          clear g1 g2
          cases is
          · go_wp2_with fail
            go_ret
            refine ⟨one, rfl, ?_, rfl⟩
            rcases HG2.out with ⟨e, hz⟩ | ⟨e, hm, hv⟩
            · refine .inl ⟨e, .inr ⟨c, HMEM.out, fun l hl => ?_⟩⟩
              have h1 : (c.any fun l => val a l == 1) = false := HG1.out.symm
              rw [List.any_eq_false] at h1
              have h2 := h1 l hl
              have h3 := val_vals HV.out l
              have h4 := hz l hl
              have h5 : val a l ≠ 1 := by simpa using h2
              omega
            · exact .inr ⟨e, c, HMEM.out, hm, hv⟩
          · have HT : Hid (∃ l ∈ c, val a l = 1) := by
              have h1 : (c.any fun l => val a l == 1) = true := HG1.out.symm
              rw [List.any_eq_true] at h1
              obtain ⟨l, hl, h2⟩ := h1
              exact ⟨l, hl, by simpa using h2⟩
            go_wp2_with fail
            go_roundw
            case rel => exact ⟨trivial, i + 1, by go_num, hlt, HNX.out HT.out⟩
            case measure => simp [intOf]; omega
    · go_wp2_with fail
      go_ret
      exact ⟨0, rfl, .inl ⟨rfl, .inl (fun c hc => by
        obtain ⟨j, hj, rfl⟩ := List.getElem_of_mem hc
        exact hall.out j hj (by omega))⟩, rfl⟩
end Go.Proofs.Ytiklknilnmkbmaa
