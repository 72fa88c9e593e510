/-
  The reference's Check of a proof.
-/
import Derived.Test.YtbbcodpoiikkdaaDoorSatB
namespace Go.Proofs.YtbbcodpoiikkdaaDoor
open Go Go.RowKit

set_option maxRecDepth 100000 in
set_option maxHeartbeats 4000000 in
theorem refRup_any {R R' : Nat → Prop} {w : World} (n : Int) {A B : Option Addr} {cl st : List (List Int)} {ca cb : Nat} (hcl : Rows2 R w A cl ca) (hst : Rows2 R' w B st cb) (hlen : st.length ≤ 1000000) :
    Calls Tryd.prog 10 #[.int .i64 n, .slice A cl.length ca, .slice B st.length cb] w fun e w' => ∃ c p, RupIs n cl st c p ∧ e = .returned (.tuple #[.int .i64 c, .int .i64 p]) ∧ Chg No w w' := by
  have hcl0 := hcl.mono rowE_good (R' := fun k => (R k ∨ R' k) ∧ k < w.heap.size) (fun k hk h => ⟨.inl h, hk⟩)
  have hst0 := hst.mono rowE_good (R' := fun k => (R k ∨ R' k) ∧ k < w.heap.size) (fun k hk h => ⟨.inr h, hk⟩)
  have HCL := Lib.hid (fun W (h : Chg No w W) => hcl0.no rowE_good h)
  have HST := Lib.hid (fun W (h : Chg No w W) => hst0.no rowE_good h)
  have HC1 := Lib.hid (fun W (h : Chg No w W) => refCheck_any n _ W A cl ca (hcl0.no rowE_good h))
  have HR1 : Hid (chk n cl ≠ 0 → RupIs n cl st (chk n cl) (-1)) := fun h => .inl ⟨h, rfl, rfl⟩
  have HR2 : Hid (chk n cl = 0 → chk n (cl ++ st) ≠ 0 → RupIs n cl st (chk n (cl ++ st)) (-1)) := fun h1 h => .inr (.inl ⟨h1, h, rfl, rfl⟩)
  clear hcl hst hcl0 hst0
  by_cases hk : chk n cl = 0
  rotate_left
  · have HR := Lib.hid (HR1.out hk)
    have hne : (chk n cl != 0) = true := by simpa using hk
    generalize hckk : chk n cl = ck at *
    clear hckk hk HR1 HR2
    go_enter Tryd.func10, Tryd.ntmps10
    go_wp2_with (go_at_call 21; (with_reducible refine (HC1.out _ (Chg.refl _ _)).mono ?_); rintro e w1 ⟨rfl, rfl⟩)
    go_ret2
    exact ⟨_, _, HR.out, rfl, Chg.refl _ _⟩
  rw [hk] at HC1
  have hcl16 : cl.length ≤ 16384 := by obtain ⟨_, _, _, h, _⟩ := chk_zero hk; exact h
  have HR3 := Lib.hid (HR2.out hk)
  clear HR1 HR2
  have HL1 := Lib.hid (mem_rows (HCL.out _ (Chg.refl No w)))
  go_enter Tryd.func10, Tryd.ntmps10
  go_upto_region 5 with (first
    | (go_at_call 21; (with_reducible refine (HC1.out _ (Chg.refl _ _)).mono ?_); rintro e w1 ⟨rfl, rfl⟩)
    | (at_builtin; refine wpList_copyL rowV_good row_one rowsTyC rfl (.tmp 22) (.tmp 23) rfl rfl rfl HL1.out rfl ?_; intro A1 cap1 w2 g2 h2 _; have G2 := Lib.hid g2; have H2 := Lib.hid h2; clear g2 h2))
  have HL2 := Lib.hid (mem_rows (HST.out _ H2.out))
  have HM : Hid (∀ k, w2.heap.size ≤ k → w.heap.size ≤ k) := fun k hk => Nat.le_trans H2.out.size hk
  have HSUB : Hid (∀ k, k < w2.heap.size → ((R k ∨ R' k) ∧ k < w.heap.size) → ((R k ∨ R' k) ∧ k < w.heap.size) ∧ (Value.slice A1 cl.length cap1).ownBlock ≠ some k) := fun k _ hk => ⟨hk, fun e => by have := (G2.out.mine k e).1; omega⟩
  have HPO : Hid (∀ w', Chg (fun k => (Value.slice A1 cl.length cap1).ownBlock = some k) w2 w' → Chg No w w') := fun w' h => H2.out.trans h (fun k hk hlt => by have := (G2.out.mine k hk).1; omega)
  have hbt : (cl.length + st.length) * 24 ≤ 140737488355328 := by omega
  go_upto_region 6 with (at_builtin; refine wpList_extendL rowV_good row_one rowsTyC rfl (.tmp 25) (.tmp 26) rfl (M := fun k => w.heap.size ≤ k) HM.out G2.out rfl rfl HL2.out rfl HSUB.out hbt ?_; intro A2 cap2 w3 g3 h3; have G3 := Lib.hid g3; have H3 := Lib.hid (HPO.out w3 h3); clear g3 h3)
  have hall : (cl ++ st).length = cl.length + st.length := List.length_append
  have hG2 := G3.out
  rw [← hall] at hG2
  have HAL0 := (hG2.sl_of rowV_good (by rw [hall]; show (cl.length + st.length) * 24 ≤ big; unfold big; omega)).2
  have HAL := Lib.hid (fun W (h : Chg No w3 W) => (rows_mem HAL0).no rowE_good h)
  have hcap2 := HAL0.le
  have hmax2 := HAL0.max
  rw [hall] at hcap2
  have hm64 : maxLen ≤ 9223372036854775807 := by decide
  clear HAL0 hG2
  have HC2 := Lib.hid (fun W (h : Chg No w3 W) => refCheck_any n _ W A2 (cl ++ st) cap2 (HAL.out W h))
  rw [hall] at HC2
  by_cases hk2 : chk n (cl ++ st) = 0
  rotate_left
  · have HR := Lib.hid (HR3.out hk2)
    have hne : (chk n (cl ++ st) != 0) = true := by simpa using hk2
    clear HAL
    generalize hckk : chk n (cl ++ st) = ck at *
    clear hckk hk2
    go_wp2_with (go_at_call 21; (with_reducible refine (HC2.out _ (Chg.refl _ _)).mono ?_); rintro e w4 ⟨rfl, rfl⟩)
    go_ret2
    exact ⟨_, _, HR.out, rfl, H3.out⟩
  rw [hk2] at HC2
  go_upto_region 9 with (go_at_call 21; (with_reducible refine (HC2.out _ (Chg.refl _ _)).mono ?_); rintro e w4 ⟨rfl, rfl⟩)
  have HN : Hid (∀ i (hi : i < (cl ++ st).length), (negL (cl ++ st)[i]).all (litB n) = true ∧ ∀ l ∈ (cl ++ st)[i], -8192 ≤ l ∧ l ≤ 8192) := fun i hi => neg_lits hk2 (List.getElem_mem hi)
  have HTK : Hid (∀ i, chk n (cl ++ st.take i) = 0) := fun i => by rw [← take_app]; exact chk_take hk2 _
  have HSL : Hid (∀ i (hi : i < (cl ++ st).length), (cl ++ st)[i].length ≤ 131072) := fun i hi => by
    obtain ⟨_, _, _, _, h⟩ := chk_zero hk2
    exact (h _ (List.getElem_mem hi)).1
  have HHK := Lib.hid (And.intro hk hk2)
  have HGT : Hid (∀ i (hi : i < (cl ++ st).length), cl.length ≤ i → st.getD (i - cl.length) [] = (cl ++ st)[i]) := fun i hi h => by
    rw [List.getElem_append_right h, List.getD_eq_getElem?_getD, List.getElem?_eq_getElem (by omega)]; rfl
  obtain ⟨ne, hne⟩ : ∃ ne : List Int → Bool, ne = fun r => decide (r.length = 0) := ⟨_, rfl⟩
  have HNE := Lib.hid hne
  clear hk hk2 HR3 HC1 HC2 HST HCL HL1 HL2 HM HSUB HPO G2 G3 hne
  have RETN : Hid (∀ (b : Bool), b = (cl ++ st).any ne → (∀ j, cl.length + j < (cl ++ st).length → RefI n cl st j) → RupIs n cl st (if b = true then 0 else 8) (-1)) := fun b hb hr =>
    .inr (.inr (.inr ⟨HHK.out.1, HHK.out.2, fun i hi => hr i (by omega), rfl, by rw [hb, HNE.out]⟩))
  have RETS : Hid (∀ (i : Nat), cl.length ≤ i → i < (cl ++ st).length → ¬ RefI n cl st (i - cl.length) → (∀ j, cl.length + j < i → RefI n cl st j) → RupIs n cl st 9 ((i : Int) - (cl.length : Int))) := fun i h1 h2 h3 h4 =>
    .inr (.inr (.inl ⟨HHK.out.1, HHK.out.2, i - cl.length, by omega, rfl, by omega, h3, fun j hj => h4 j (by omega)⟩))
  have HALT : Hid (∀ i, cl.length ≤ i → (cl ++ st).take i = cl ++ st.take (i - cl.length)) := fun i h => by
    rw [← take_app]; congr 1; omega
  generalize hal : cl ++ st = al at *
  have HAl := Lib.hid hal
  clear hal
  rw [← hall] at hcap2
  have hall2 : (al.length : Int) = (cl.length : Int) + (st.length : Int) := by omega
  go_wp2_with fail
  go_loopw [10, 11] (fun s10 s11 wr => ∃ (b : Bool) (i : Nat), s10 = .bool b ∧ s11 = .int .i64 i ∧ i ≤ al.length ∧ Hid (b = (al.take i).any ne) ∧ Hid (∀ j, cl.length + j < i → RefI n cl st j) ∧ Hid (Chg No w3 wr)) (fun _ s11 _ => al.length - (intOf s11).toNat)
  case atStart => exact ⟨false, 0, rfl, rfl, Nat.zero_le _, rfl, fun j h => absurd h (Nat.not_lt_zero _), Chg.refl _ _⟩
  case round =>
    obtain ⟨b, i, rfl, rfl, gi, hbe, hrf, hch⟩ := hrel
    by_cases hlt : i < al.length
    · obtain ⟨bA, oA, Ar, cr, rfl, hx, hr⟩ := (HAL.out wr hch.out).row_at i hlt
      have i0 : (0 : Int) ≤ (i : Int) := by omega
      have i1 : (i : Int) < (cl.length : Int) + (st.length : Int) := by omega
      have HR0 := Lib.hid (fun W (h : Chg No wr W) => And.intro (h.cell hx id) (hr.no intE_good h))
      have hsl := HSL.out i hlt
      have HNi := Lib.hid (HN.out i hlt)
      have HGi := Lib.hid (HGT.out i hlt)
      have HBN : Hid ((b || ne al[i]) = (al.take (i + 1)).any ne) := by
        unfold Hid
        rw [List.take_succ_eq_append_getElem hlt, List.any_append, hbe.out]
        simp
      have HNB : Hid (ne al[i] = decide (al[i].length = 0)) := by unfold Hid; rw [HNE.out]
      clear hr
      generalize al[i] = r at *
      generalize hrl : r.length = rl at *
      have HRL := Lib.hid hrl
      clear hrl
      obtain ⟨b2, hb2⟩ : ∃ b2, b2 = (b || ne r) := ⟨_, rfl⟩
      have HB2 := Lib.hid hb2
      rw [← hb2] at HBN
      rw [HNB.out] at hb2
      have HB3 := Lib.hid hb2
      clear hb2 HNB HB2
      have hcase : (rl = 0 ∧ b2 = true) ∨ (rl ≠ 0 ∧ b2 = b) := by
        by_cases h : rl = 0
        · exact .inl ⟨h, by rw [HB3.out]; simp [h]⟩
        · exact .inr ⟨h, by rw [HB3.out]; simp [h]⟩
      have hcase2 : (((rl : Int) == 0) = true ∧ b2 = true) ∨ (((rl : Int) == 0) = false ∧ b2 = b) := by
        rcases hcase with ⟨h1, h2⟩ | ⟨h1, h2⟩
        · exact .inl ⟨by simp [h1], h2⟩
        · exact .inr ⟨by simpa using h1, h2⟩
      clear hcase HB3
      by_cases hic : i < cl.length
      · have hic1 : (i : Int) < (cl.length : Int) := by omega
        have HRF2 : Hid (∀ j, cl.length + j < i + 1 → RefI n cl st j) := fun j hj => absurd hj (by omega)
        rcases hcase2 with ⟨he, hb2⟩ | ⟨he, hb2⟩
        all_goals
          subst hb2
          clear HGi HNi HR0
          go_wp2_with fail
          go_roundw
          case rel => exact ⟨_, i + 1, rfl, by go_num, hlt, HBN.out, HRF2.out, hch.out⟩
          case measure => simp [intOf]; omega
      · have hic1 : ¬ (i : Int) < (cl.length : Int) := by omega
        have HGD := Lib.hid (HGi.out (by omega))
        have HTKi : Hid (chk n (al.take i) = 0) := by unfold Hid; rw [HALT.out i (by omega)]; exact HTK.out _
        have HTKe := Lib.hid (HALT.out i (by omega))
        obtain ⟨wo, rfl⟩ : ∃ wo, wo = wr := ⟨_, rfl⟩
        rcases hcase2 with ⟨he, hb2⟩ | ⟨he, hb2⟩
        all_goals
          subst hb2
          go_wp2_with fail
          clear he
          go_loopw [12, 13] (fun s12 s13 wr => ∃ k : Nat, s13 = .int .i64 k ∧ k ≤ rl ∧ Hid (OInts 3 (fun q => wo.heap.size ≤ q) wr s12 (negL (r.take k)) ∧ Chg No wo wr)) (fun _ s13 _ => rl - (intOf s13).toNat)
          case atStart => exact ⟨0, rfl, Nat.zero_le _, OInts.nil _ _ _, Chg.refl _ _⟩
          case round =>
            obtain ⟨k, rfl, gk, hin⟩ := hrel
            obtain ⟨hx1, hr1⟩ := HR0.out wr hin.out.2
            by_cases hkl : k < rl
            · have hkl2 : k < r.length := by rw [HRL.out]; exact hkl
              obtain ⟨b', o', rfl, hx'⟩ := hr1.int_at k hkl2
              have k0 : (0 : Int) ≤ (k : Int) := by omega
              have k1 : (k : Int) < (rl : Int) := by omega
              obtain ⟨l0, l1⟩ := HNi.out.2 r[k] (List.getElem_mem hkl2)
              have HT := Lib.hid (negL_take hkl2)
              have hnl : (negL (r.take k)).length ≤ 131072 := by rw [negL_len, List.length_take]; omega
              generalize r[k] = x at *
              clear hr1
              generalize hT' : negL (r.take (k + 1)) = T' at *
              have HT' := Lib.hid hT'
              clear hT'
              generalize negL (r.take k) = T at *
              have HM : Hid (∀ q, wr.heap.size ≤ q → wo.heap.size ≤ q) := fun q hq => Nat.le_trans hin.out.2.size hq
              have HPO : Hid (∀ w', Chg (fun q => u12.ownBlock = some q) wr w' → Chg No wo w') := fun w' h => hin.out.2.trans h (fun q hq hlt => by have := (hin.out.1.mine q hq).1; omega)
              go_wp2_with (at_builtin; refine wpList_push_int' intsTyC rfl (.tmp 59) (.tmp 68) rfl HM.out hin.out.1 rfl rfl rfl (I64.of (show -9000000000000000000 ≤ -x by omega) (show -x ≤ 9000000000000000000 by omega)) (show (T.length + 1) * 8 ≤ 140737488355328 by omega) ?_; intro A7 cap7 w7 g1 g2; have G7 := Lib.hid (And.intro g1 (HPO.out w7 g2)); clear g1 g2)
              go_roundw
              case rel => exact ⟨k + 1, by go_num, hkl, by rw [HT'.out, HT.out]; exact G7⟩
              case measure => simp [intOf]; omega
            · obtain rfl : k = rl := by omega
              rw [List.take_of_length_le (by rw [HRL.out]; exact Nat.le_refl _)] at hin
              obtain ⟨An, cn, e12, hI⟩ := hin.out.1.ints (by rw [negL_len, HRL.out]; unfold big; omega)
              rw [negL_len, HRL.out] at e12
              subst e12
              have HAi := Lib.hid ((HAL.out wr (hch.out.thenNo hin.out.2)).takeN i)
              have hlT : (al.take i).length = i := by rw [List.length_take]; omega
              have HCW := Lib.hid (hch.out.thenNo hin.out.2)
              have hb2 : (i : Int) ≤ (cap2 : Int) := by omega
              have HNeg := Lib.hid hI
              by_cases hri : RefI n cl st (i - cl.length)
              · have hconf : ¬ ∃ a, Fol n.toNat (al.take i) (negL r) a := by
                  have := hri
                  unfold RefI at this
                  rw [HGD.out, ← HTKe.out] at this
                  exact this
                have HFo := Lib.hid (refFollow_confl n HAi.out hI HTKi.out HNi.out.1 hconf)
                rw [hlT, negL_len, HRL.out] at HFo
                have HRI : Hid (∀ j, cl.length + j < i + 1 → RefI n cl st j) := fun j hj => by
                  rcases Nat.lt_or_ge (cl.length + j) i with g | g
                  · exact hrf.out j g
                  · obtain rfl : j = i - cl.length := by omega
                    exact hri
                clear hin hI hri hconf HNeg hr1
                go_wp2_with (go_at_call 22; (with_reducible refine HFo.out.mono ?_); rintro e w4 ⟨rfl, h4⟩; have H4 := Lib.hid h4; clear h4)
                go_roundw
                case rel => exact ⟨_, i + 1, rfl, by go_num, hlt, HBN.out, HRI.out, HCW.out.thenNo H4.out⟩
                case measure => simp [intOf]; omega
              · obtain ⟨a, ha⟩ : ∃ a, Fol n.toNat (cl ++ st.take (i - cl.length)) (negL (st.getD (i - cl.length) [])) a := by
                  by_cases h : ∃ a, Fol n.toNat (cl ++ st.take (i - cl.length)) (negL (st.getD (i - cl.length) [])) a
                  · exact h
                  · exact absurd h hri
                rw [HGD.out, ← HTKe.out] at ha
                have HFo := Lib.hid (refFollow_fine n HAi.out hI HTKi.out HNi.out.1 ha)
                rw [hlT, negL_len, HRL.out] at HFo
                have HEND := Lib.hid (RETS.out i (by omega) hlt hri hrf.out)
                clear hin hI hri ha HAi HAL HNi HN HTK hrf HHK HNeg hr1
                go_wp2_with (go_at_call 22; (with_reducible refine HFo.out.mono ?_); rintro e w4 ⟨ba, rfl, _, _, h4⟩; have H4 := Lib.hid h4; clear h4)
                go_ret2
                exact ⟨_, _, HEND.out, rfl, H3.out.thenNo (HCW.out.thenNo H4.out)⟩
    · obtain rfl : i = al.length := by omega
      rw [List.take_of_length_le (Nat.le_refl _)] at hbe
      have HEND := Lib.hid (RETN.out b hbe.out hrf.out)
      clear hbe HAL HN HTK hrf HHK HSL RETN RETS HALT HGT
      cases b
      · go_wp2_with fail
        go_ret2
        exact ⟨_, _, HEND.out, rfl, H3.out.thenNo hch.out⟩
      · go_wp2_with fail
        go_ret2
        exact ⟨_, _, HEND.out, rfl, H3.out.thenNo hch.out⟩
end Go.Proofs.YtbbcodpoiikkdaaDoor
