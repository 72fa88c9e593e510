/-
  rup.Check: what it answers.
-/
import Derived.Test.YtbbcodpoiikkdaaDoorSatA
import Derived.Test.YtbbcodpoiikkdaaDoorPropFol
namespace Go.Proofs.YtbbcodpoiikkdaaDoor
open Go Go.RowKit

/-- The opposites of literals. -/
def negL (l : List Int) : List Int := l.map (fun x => -x)
theorem negL_len (l : List Int) : (negL l).length = l.length := by simp [negL]
theorem negL_take {l : List Int} {i : Nat} (hi : i < l.length) : negL (l.take (i + 1)) = negL (l.take i) ++ [-l[i]] := by
  unfold negL
  rw [List.take_succ_eq_append_getElem hi, List.map_append]; rfl
/-- A step follows. -/
def RefI (n : Int) (cl st : List (List Int)) (i : Nat) : Prop := ¬ ∃ a, Fol n.toNat (cl ++ st.take i) (negL (st.getD i [])) a
/-- What is amiss with a proof, and where. -/
def RupIs (n : Int) (cl st : List (List Int)) (c p : Int) : Prop :=
  (chk n cl ≠ 0 ∧ c = chk n cl ∧ p = -1) ∨ (chk n cl = 0 ∧ chk n (cl ++ st) ≠ 0 ∧ c = chk n (cl ++ st) ∧ p = -1) ∨
  (chk n cl = 0 ∧ chk n (cl ++ st) = 0 ∧ ∃ i, i < st.length ∧ c = 9 ∧ p = i ∧ ¬ RefI n cl st i ∧ ∀ j, j < i → RefI n cl st j) ∨
  (chk n cl = 0 ∧ chk n (cl ++ st) = 0 ∧ (∀ i, i < st.length → RefI n cl st i) ∧ p = -1 ∧ c = if (cl ++ st).any (fun r => decide (r.length = 0)) = true then 0 else 8)
theorem least {P : Nat → Prop} : ∀ n : Nat, (∀ i, i < n → P i) ∨ ∃ i, i < n ∧ ¬ P i ∧ ∀ j, j < i → P j
  | 0 => .inl fun i h => absurd h (Nat.not_lt_zero i)
  | n + 1 => by
    rcases least (P := P) n with h | ⟨i, h1, h2, h3⟩
    · by_cases hp : P n
      · exact .inl fun i hi => by
          rcases Nat.lt_or_ge i n with g | g
          · exact h i g
          · obtain rfl : i = n := by omega
            exact hp
      · exact .inr ⟨n, by omega, hp, h⟩
    · exact .inr ⟨i, by omega, h2, h3⟩
theorem rupIs_ex (n : Int) (cl st : List (List Int)) : ∃ c p, RupIs n cl st c p := by
  by_cases h1 : chk n cl = 0
  · by_cases h2 : chk n (cl ++ st) = 0
    · rcases least (P := RefI n cl st) st.length with h | ⟨i, h3, h4, h5⟩
      · exact ⟨_, _, .inr (.inr (.inr ⟨h1, h2, h, rfl, rfl⟩))⟩
      · exact ⟨_, _, .inr (.inr (.inl ⟨h1, h2, i, h3, rfl, rfl, h4, h5⟩))⟩
    · exact ⟨_, _, .inr (.inl ⟨h1, h2, rfl, rfl⟩)⟩
  · exact ⟨_, _, .inl ⟨h1, rfl, rfl⟩⟩

theorem many_app : ∀ (a b : List (List Int)) (m : Int), manyB (a ++ b) m = false → manyB a m = false
  | [], _, _, _ => rfl
  | c :: a, b, m, h => by
    simp only [List.cons_append, manyB] at h ⊢
    split at h
    · cases h
    · rename_i hc
      rw [if_neg hc]
      exact many_app a b _ h
theorem chk_app {n : Int} {a b : List (List Int)} (h : chk n (a ++ b) = 0) : chk n a = 0 := by
  unfold chk at h ⊢
  split at h
  · omega
  rename_i h1
  rw [if_neg h1]
  split at h
  · omega
  rename_i h2
  rw [if_neg (by rw [List.length_append] at h2; omega)]
  split at h
  · omega
  rename_i h3
  have h3' : manyB (a ++ b) 0 = false := by simpa using h3
  rw [many_app a b 0 h3', if_neg (by decide)]
  split at h
  · omega
  rename_i h4
  rw [if_neg (fun g => h4 (by rw [List.any_append, g]; rfl))]
theorem chk_take {n : Int} {a : List (List Int)} (h : chk n a = 0) (k : Nat) : chk n (a.take k) = 0 := by
  refine chk_app (b := a.drop k) ?_
  rw [List.take_append_drop]; exact h
theorem take_app {cl st : List (List Int)} {i : Nat} : (cl ++ st).take (cl.length + i) = cl ++ st.take i := by
  rw [List.take_append]; simp [List.take_of_length_le]
theorem neg_lits {n : Int} {cl : List (List Int)} (h : chk n cl = 0) {c : List Int} (hc : c ∈ cl) : (negL c).all (litB n) = true ∧ ∀ l ∈ c, -8192 ≤ l ∧ l ≤ 8192 := by
  obtain ⟨N, rfl, hN, _, hall⟩ := chk_zero h
  refine ⟨?_, fun l hl => ?_⟩
  · rw [List.all_eq_true]
    intro x hx
    obtain ⟨l, hl, rfl⟩ := List.mem_map.1 hx
    have := (hall c hc).2 l hl
    rw [litB_iff]
    omega
  · have := (hall c hc).2 l hl
    omega
theorem Sl.takeN {α : Type} {E : Elem α} {sz cap : Nat} {R : Nat → Prop} {w : World} {A : Option Addr} {l : List α} (h : Sl E sz R w A l cap) (k : Nat) : Sl E sz R w A (l.take k) cap :=
  ⟨Nat.le_trans (by rw [List.length_take]; omega) h.le, h.max, Nat.le_trans (Nat.mul_le_mul_right _ (by rw [List.length_take]; omega)) h.room, h.nil, fun i hi => by
    have hi' : i < l.length := by rw [List.length_take] at hi; omega
    obtain ⟨b, o, e, x⟩ := h.at_ i hi'
    exact ⟨b, o, e, by rw [List.getElem_take]; exact x⟩⟩

set_option maxHeartbeats 400000 in
theorem indexFunc_rows0 (R : Nat → Prop) (w : World) (A : Option Addr) (l : List (List Int)) (cap : Nat) (hl : Rows2 R w A l cap) (fv : FuncId) (hf : Entered fv) (p : List Int → Bool)
    (hp : ∀ w', Chg No w w' → ∀ i (h : i < l.length), ∀ A' cap', Ints R w' A' l[i] cap' → Calls Tryd.prog fv #[.slice A' l[i].length cap'] w' fun e w'' => e = .returned (.bool (p l[i])) ∧ Chg No w' w'') :
    Calls Tryd.prog 35 #[.slice A l.length cap, .func (.func fv) #[] #[]] w fun e w' => e = .returned (.int .i64 (findI p l)) ∧ Chg No w w' := by
  go_enter Tryd.func35, Tryd.ntmps35
  have hb := hl.big
  unfold big at hb
  have Hp := Lib.hid hp
  clear hp
  unfold Entered at hf
  go_wp2
  go_loopw [8] (fun i wr => ∃ k : Nat, k ≤ l.length ∧ i = .int .i64 k ∧ Chg No w wr ∧ Hid (∀ j (h : j < l.length), j < k → p l[j] = false)) (fun i _ => l.length - (intOf i).toNat)
  case atStart => exact ⟨0, Nat.zero_le _, rfl, Chg.refl _ _, fun j h hk => absurd hk (by omega)⟩
  case round =>
    obtain ⟨k, hk, rfl, hch, hall⟩ := hrel
    by_cases hlt : k < l.length
    · obtain ⟨b, o, A', c', rfl, hx, hx'⟩ := (hl.no rowE_good hch).row_at k hlt
      have HP := Lib.hid (Hp.out wr hch k hlt A' c' hx')
      clear hx'
      go_wp2_with (refine HP.out.mono ?_; rintro e w1 ⟨rfl, h1⟩)
      · have hpk : p l[k] = true := by assumption
        go_ret
        exact ⟨ret_int (findI_hit hlt hpk hall.out).symm, hch.thenNo h1⟩
      · have hpk : p l[k] = false := by assumption
        go_roundw
        case rel => exact ⟨k + 1, hlt, by go_num, hch.thenNo h1, fun j h hj => by
          rcases Nat.lt_or_ge j k with g | g
          · exact hall.out j h g
          · obtain rfl : j = k := by omega
            exact hpk⟩
        case measure => simp [intOf]; omega
    · go_wp2
      go_ret
      exact ⟨ret_int (findI_miss (fun j h => hall.out j h (by omega))).symm, hch⟩
theorem entered_rup1 : Entered 20 := fun _ _ => rfl
set_option maxHeartbeats 400000 in
theorem anyEmpty_any {R : Nat → Prop} {w : World} {A : Option Addr} {l : List (List Int)} {cap : Nat} (hl : Rows2 R w A l cap) :
    Calls Tryd.prog 19 #[.slice A l.length cap, .func (.func 20) #[] #[]] w fun e w' => e = .returned (.bool (l.any (fun r => decide (r.length = 0)))) ∧ Chg No w w' := by
  obtain ⟨p, hp⟩ : ∃ p : List Int → Bool, p = fun r => decide (r.length = 0) := ⟨_, rfl⟩
  rw [← hp]
  have HP := Lib.hid hp
  have H := Lib.hid (indexFunc_rows0 R w A l cap hl 20 entered_rup1 p (fun w' hw' i hi A' c' hr => by
    have HE : Hid (((l[i].length : Int) == 0) = p l[i]) := by unfold Hid; rw [HP.out, Bool.eq_iff_iff]; simp
    generalize p l[i] = q at *
    generalize l[i].length = k at *
    clear hr hl hp HP
    go_enter Tryd.func20, Tryd.ntmps20
    go_wp2
    go_ret
    exact ⟨ret_bool (by rw [← HE.out]), Chg.refl _ _⟩))
  clear hl hp HP
  go_enter Tryd.func19, Tryd.ntmps19
  go_wp2_with (refine H.out.mono ?_; rintro e w1 ⟨rfl, h1⟩)
  go_ret
  exact ⟨ret_bool (findI_ge _ l), h1⟩

/-- What rup.Check answers: a code, or a Spot. -/
def RupRet (n : Int) (cl st : List (List Int)) (w : World) (e : Ending) (w' : World) : Prop :=
  Chg No w w' ∧ ∃ c p, RupIs n cl st c p ∧ ((p = -1 ∧ 0 ≤ c ∧ c ≤ 16 ∧ e = .returned (errV 36 c)) ∨ (0 ≤ p ∧ c = 9 ∧ ∃ q, w.heap.size ≤ q ∧ e = .returned (.iface 42 (.pointer (some ⟨q, 0, none⟩))) ∧ w'.heap[q]? = some (.cells #[.int .i64 p, .iface 36 (.int .i64 9)] 44 (0, 0))))

set_option maxRecDepth 100000 in
set_option maxHeartbeats 4000000 in
theorem rupCheck_any {R R' : Nat → Prop} {w : World} (n : Int) {A B : Option Addr} {cl st : List (List Int)} {ca cb : Nat} (hcl : Rows2 R w A cl ca) (hst : Rows2 R' w B st cb) (hlen : st.length ≤ 1000000) :
    Calls Tryd.prog 9 #[.int .i64 n, .slice A cl.length ca, .slice B st.length cb] w (RupRet n cl st w) := by
  have HCL := Lib.hid (fun W (h : Chg No w W) => hcl.no rowE_good h)
  have HST := Lib.hid (fun W (h : Chg No w W) => hst.no rowE_good h)
  have HC1 := Lib.hid (fun W (h : Chg No w W) => check_any n R W A cl ca (hcl.no rowE_good h))
  have hv1 := chk_vals n cl
  have hv2 := chk_vals n (cl ++ st)
  have HR1 : Hid (chk n cl ≠ 0 → ∀ W, Chg No w W → RupRet n cl st w (.returned (errV 36 (chk n cl))) W) := fun h W hW => ⟨hW, _, _, .inl ⟨h, rfl, rfl⟩, .inl ⟨rfl, by omega, by omega, rfl⟩⟩
  have HR2 : Hid (chk n cl = 0 → chk n (cl ++ st) ≠ 0 → ∀ W, Chg No w W → RupRet n cl st w (.returned (errV 36 (chk n (cl ++ st)))) W) := fun h1 h W hW => ⟨hW, _, _, .inr (.inl ⟨h1, h, rfl, rfl⟩), .inl ⟨rfl, by omega, by omega, rfl⟩⟩
  clear hcl hst hv1 hv2
  by_cases hk : chk n cl = 0
  rotate_left
  · have HR := Lib.hid (HR1.out hk)
    generalize hckk : chk n cl = ck at *
    clear hckk
    rw [errV_of _ hk] at HC1 HR
    clear HR1 HR2
    go_enter Tryd.func9, Tryd.ntmps9
    go_wp2_with (go_at_call 16; (with_reducible refine (HC1.out _ (Chg.refl _ _)).mono ?_); rintro e w1 ⟨rfl, h1⟩)
    go_ret
    exact HR.out _ h1
  rw [hk, errV_zero] at HC1
  have hcl16 : cl.length ≤ 16384 := by obtain ⟨_, _, _, h, _⟩ := chk_zero hk; exact h
  have HR3 := Lib.hid (HR2.out hk)
  clear HR1 HR2
  go_enter Tryd.func9, Tryd.ntmps9
  go_upto_region 4 with (go_at_call 16; (with_reducible refine (HC1.out _ (Chg.refl _ _)).mono ?_); rintro e w1 ⟨rfl, h1⟩)
  have H1 := Lib.hid h1
  clear h1
  have HB : Hid (Chg No w1 (w1.alloc (.cells #[.slice A cl.length ca, .slice B st.length cb] 22)) ∧ (w1.alloc (.cells #[.slice A cl.length ca, .slice B st.length cb] 22)).heap[w1.heap.size]? = some (.cells #[.slice A cl.length ca, .slice B st.length cb] 22 (0, 0))) := ⟨(Chg.refl _ _).alloc _, heap_alloc_new _ _⟩
  have HCC := Lib.hid (concatRows_any (R := fun k => R k ∨ R' k) ((HCL.out _ (H1.out.thenNo HB.out.1)).mono rowE_good (fun k _ h => .inl h)) ((HST.out _ (H1.out.thenNo HB.out.1)).mono rowE_good (fun k _ h => .inr h)) HB.out.2 (by omega))
  go_upto_region 5 with (go_at_call 17; (with_reducible refine HCC.out.mono ?_); rintro e w2 ⟨A2, cap2, rfl, g2, h2⟩; have G2 := Lib.hid g2; have H2 := Lib.hid ((H1.out.thenNo HB.out.1).thenNo h2); clear g2 h2)
  have hall : (cl ++ st).length = cl.length + st.length := List.length_append
  have hG2 := G2.out
  rw [← hall] at hG2
  have HAL0 := (hG2.sl_of rowV_good (by rw [hall]; show (cl.length + st.length) * 24 ≤ big; unfold big; omega)).2
  have HAL := Lib.hid (fun W (h : Chg No w2 W) => (rows_mem HAL0).no rowE_good h)
  have hcap2 := HAL0.le
  have hmax2 := HAL0.max
  rw [hall] at hcap2
  have hm64 : maxLen ≤ 9223372036854775807 := by decide
  clear HAL0 hG2
  have HC2 := Lib.hid (fun W (h : Chg No w2 W) => check_any n _ W A2 (cl ++ st) cap2 (HAL.out W h))
  rw [hall] at HC2
  by_cases hk2 : chk n (cl ++ st) = 0
  rotate_left
  · have HR := Lib.hid (HR3.out hk2)
    clear HAL
    generalize hckk : chk n (cl ++ st) = ck at *
    clear hckk
    rw [errV_of _ hk2] at HC2 HR
    go_wp2_with (go_at_call 16; (with_reducible refine (HC2.out _ (Chg.refl _ _)).mono ?_); rintro e w3 ⟨rfl, h3⟩)
    go_ret
    exact HR.out _ (H2.out.thenNo h3)
  rw [hk2, errV_zero] at HC2
  go_upto_region 8 with (go_at_call 16; (with_reducible refine (HC2.out _ (Chg.refl _ _)).mono ?_); rintro e w3 ⟨rfl, h3⟩; have H3 := Lib.hid h3; clear h3)
  have HN : Hid (∀ i (hi : i < st.length), (negL st[i]).all (litB n) = true ∧ ∀ l ∈ st[i], -8192 ≤ l ∧ l ≤ 8192) := fun i hi => neg_lits hk2 (List.mem_append_right _ (List.getElem_mem hi))
  have HTK : Hid (∀ i, chk n (cl ++ st.take i) = 0) := fun i => by rw [← take_app]; exact chk_take hk2 _
  have HSL : Hid (∀ i (hi : i < st.length), st[i].length ≤ 131072) := fun i hi => by
    obtain ⟨_, _, _, _, h⟩ := chk_zero hk2
    exact (h _ (List.mem_append_right _ (List.getElem_mem hi))).1
  have HHK := Lib.hid (And.intro hk hk2)
  clear hk hk2 HR3 HC1 HCC HC2
  go_wp2_with fail
  go_loopw [36] (fun s36 wr => ∃ i : Nat, s36 = .int .i64 i ∧ i ≤ st.length ∧ Hid (∀ j, j < i → RefI n cl st j) ∧ Hid (Chg No w2 wr)) (fun s36 _ => st.length - (intOf s36).toNat)
  case atStart => exact ⟨0, rfl, Nat.zero_le _, fun j h => absurd h (Nat.not_lt_zero j), H3.out⟩
  case round =>
    obtain ⟨i, rfl, gi, hrf, hch⟩ := hrel
    by_cases hlt : i < st.length
    · obtain ⟨b, o, Ar, cr, rfl, hx, hr⟩ := (HST.out wr (H2.out.thenNo hch.out)).row_at i hlt
      have i0 : (0 : Int) ≤ (i : Int) := by omega
      have i1 : (i : Int) < (st.length : Int) := by omega
      have HR0 := Lib.hid (fun W (h : Chg No wr W) => hr.no intE_good h)
      have hsl := HSL.out i hlt
      have HNi := Lib.hid (HN.out i hlt)
      have HGD : Hid (st.getD i [] = st[i]) := by unfold Hid; rw [List.getD_eq_getElem?_getD, List.getElem?_eq_getElem hlt]; rfl
      have hA2 : A2 ≠ none := fun e => by
        have := (HAL.out w2 (Chg.refl _ _)).nil e
        omega
      obtain ⟨⟨bA, oA, sA⟩, rfl⟩ : ∃ a, A2 = some a := by cases A2 with | none => exact absurd rfl hA2 | some a => exact ⟨a, rfl⟩
      clear hA2 hr
      generalize hsti : st[i] = r at *
      have HSTI := Lib.hid hsti
      clear hsti
      obtain ⟨wo, rfl⟩ : ∃ wo, wo = wr := ⟨_, rfl⟩
      go_wp2_with fail
      go_loopw [12, 43] (fun s12 s43 wr => ∃ k : Nat, s43 = .int .i64 k ∧ k ≤ r.length ∧ Hid (OInts 3 (fun q => wo.heap.size ≤ q) wr s12 (negL (r.take k)) ∧ Chg No wo wr)) (fun _ s43 _ => r.length - (intOf s43).toNat)
      case atStart => exact ⟨0, rfl, Nat.zero_le _, OInts.nil _ _ _, Chg.refl _ _⟩
      case round =>
        obtain ⟨k, rfl, gk, hin⟩ := hrel
        by_cases hkl : k < r.length
        · obtain ⟨b', o', rfl, hx'⟩ := (HR0.out wr hin.out.2).int_at k hkl
          have k0 : (0 : Int) ≤ (k : Int) := by omega
          have k1 : (k : Int) < (r.length : Int) := by omega
          obtain ⟨l0, l1⟩ := HNi.out.2 r[k] (List.getElem_mem hkl)
          have HT := Lib.hid (negL_take hkl)
          have hnl : (negL (r.take k)).length ≤ 131072 := by rw [negL_len, List.length_take]; omega
          generalize r[k] = x at *
          generalize hT' : negL (r.take (k + 1)) = T' at *
          have HT' := Lib.hid hT'
          clear hT'
          generalize negL (r.take k) = T at *
          have HM : Hid (∀ q, wr.heap.size ≤ q → wo.heap.size ≤ q) := fun q hq => Nat.le_trans hin.out.2.size hq
          have HPO : Hid (∀ w', Chg (fun q => u12.ownBlock = some q) wr w' → Chg No wo w') := fun w' h => hin.out.2.trans h (fun q hq hlt => by have := (hin.out.1.mine q hq).1; omega)
          go_wp2_with (at_builtin; refine wpList_push_int' intsTyC rfl (.tmp 47) (.tmp 50) rfl HM.out hin.out.1 rfl rfl rfl (I64.of (show -9000000000000000000 ≤ -x by omega) (show -x ≤ 9000000000000000000 by omega)) (show (T.length + 1) * 8 ≤ 140737488355328 by omega) ?_; intro A7 cap7 w7 g1 g2; have G7 := Lib.hid (And.intro g1 (HPO.out w7 g2)); clear g1 g2)
          go_roundw
          case rel => exact ⟨k + 1, by go_num, hkl, by rw [HT'.out, HT.out]; exact G7⟩
          case measure => simp [intOf]; omega
        · obtain rfl : k = r.length := by omega
          rw [List.take_of_length_le (Nat.le_refl _)] at hin
          obtain ⟨An, cn, e12, hI⟩ := hin.out.1.ints (by rw [negL_len]; unfold big; omega)
          subst e12
          have HAi := Lib.hid ((HAL.out wr (hch.out.thenNo hin.out.2)).takeN (cl.length + i))
          rw [take_app] at HAi
          have hlT : (cl ++ st.take i).length = cl.length + i := by rw [List.length_append, List.length_take]; omega
          have HCW := Lib.hid (hch.out.thenNo hin.out.2)
          have hb1 : ¬ ((cl.length : Int) + (i : Int) < 0) := by omega
          have hb2 : (cl.length : Int) + (i : Int) ≤ (cap2 : Int) := by omega
          by_cases hri : RefI n cl st i
          · have HFo := Lib.hid (follow_confl n HAi.out hI (HTK.out i) HNi.out.1 (by rw [← HGD.out]; exact hri))
            rw [hlT] at HFo
            have HRI := Lib.hid hri
            clear hin hI hri
            go_wp2_with (go_at_call 18; (with_reducible refine HFo.out.mono ?_); rintro e w4 ⟨rfl, h4⟩; have H4 := Lib.hid h4; clear h4)
            go_roundw
            case rel => exact ⟨i + 1, by go_num, hlt, fun j hj => by
              rcases Nat.lt_or_ge j i with g | g
              · exact hrf.out j g
              · obtain rfl : j = i := by omega
                exact HRI.out, HCW.out.thenNo H4.out⟩
            case measure => simp [intOf]; omega
          · obtain ⟨a, ha⟩ : ∃ a, Fol n.toNat (cl ++ st.take i) (negL (st.getD i [])) a := by
              by_cases h : ∃ a, Fol n.toNat (cl ++ st.take i) (negL (st.getD i [])) a
              · exact h
              · exact absurd h hri
            rw [HGD.out] at ha
            have HFo := Lib.hid (follow_fine n HAi.out hI (HTK.out i) HNi.out.1 ha)
            rw [hlT] at HFo
            have HEND : Hid (∀ W q, Chg No w2 W → w.heap.size ≤ q → W.heap[q]? = some (.cells #[.int .i64 i, .iface 36 (.int .i64 9)] 44 (0, 0)) → RupRet n cl st w (.returned (.iface 42 (.pointer (some ⟨q, 0, none⟩)))) W) := fun W q hW hq hb =>
              ⟨H2.out.thenNo hW, 9, i, .inr (.inr (.inl ⟨HHK.out.1, HHK.out.2, i, hlt, rfl, rfl, hri, hrf.out⟩)), .inr ⟨i0, rfl, q, hq, rfl, hb⟩⟩
            have HSZ := Lib.hid (Nat.le_trans H2.out.size HCW.out.size)
            clear hin hI hri ha HAi HAL HST HCL HNi HN HTK hrf HHK
            go_wp2_with (go_at_call 18; (with_reducible refine HFo.out.mono ?_); rintro e w4 ⟨ba, rfl, _, _, h4⟩; have H4 := Lib.hid h4; clear h4)
            go_ret
            exact HEND.out _ _ ((HCW.out.thenNo H4.out).alloc _) (Nat.le_trans HSZ.out H4.out.size) (heap_alloc_new _ _)
    · obtain rfl : i = st.length := by omega
      have HAE := Lib.hid (anyEmpty_any (HAL.out wr hch.out))
      rw [hall] at HAE
      obtain ⟨bb, hbb⟩ : ∃ bb, bb = (cl ++ st).any (fun r => decide (r.length = 0)) := ⟨_, rfl⟩
      rw [← hbb] at HAE
      have HEND : Hid (∀ W c, Chg No w2 W → c = (if bb = true then 0 else 8) → RupRet n cl st w (.returned (errV 36 c)) W) := fun W c hW hc =>
        ⟨H2.out.thenNo hW, c, -1, .inr (.inr (.inr ⟨HHK.out.1, HHK.out.2, hrf.out, rfl, by rw [hc, hbb]⟩)), .inl ⟨rfl, by rw [hc]; split <;> omega, by rw [hc]; split <;> omega, rfl⟩⟩
      clear hbb HAL HST HCL HN HTK hrf HHK HSL
      cases bb
      · have HE := Lib.hid (fun W hW => HEND.out W 8 hW rfl)
        rw [errV_of _ (by decide)] at HE
        clear HEND
        go_wp2_with (go_at_call 19; (with_reducible refine HAE.out.mono ?_); rintro e w4 ⟨rfl, h4⟩; have H4 := Lib.hid h4; clear h4)
        go_ret
        exact HE.out _ (hch.out.thenNo H4.out)
      · have HE := Lib.hid (fun W hW => HEND.out W 0 hW rfl)
        rw [errV_zero] at HE
        clear HEND
        go_wp2_with (go_at_call 19; (with_reducible refine HAE.out.mono ?_); rintro e w4 ⟨rfl, h4⟩; have H4 := Lib.hid h4; clear h4)
        go_ret
        exact HE.out _ (hch.out.thenNo H4.out)
end Go.Proofs.YtbbcodpoiikkdaaDoor
