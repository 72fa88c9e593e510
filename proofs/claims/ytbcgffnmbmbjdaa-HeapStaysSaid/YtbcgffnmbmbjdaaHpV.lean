/-
  Chapter 17: the statement HeapKeeps walked.
-/
import Derived.Test.YtbcgffnmbmbjdaaHpU
namespace Go.Proofs.Ytbcgffnmbmbjdaa
open Go Go.RowKit

theorem setP_strict {l : List Tri} (h : Strict l) (k : Tri) : Strict (setP l k) := by
  rw [← addR_drop h]
  exact addR_strict (strict_drop h k)
theorem setP_mem (k : Tri) : ∀ l : List Tri, k ∈ setP l k
  | [] => by simp [setP]
  | x :: t => by
    unfold setP
    split
    · simp
    · split
      · simp
      · exact List.mem_cons_of_mem _ (setP_mem k t)
theorem find_strict {k m : Tri} : ∀ {r : List Tri}, Strict r → m ∈ r → eqT m k = true → r.find? (fun x => eqT x k) = some m
  | [], _, h, _ => by simp at h
  | x :: t, hs, h, he => by
    obtain ⟨h1, h2⟩ := List.pairwise_cons.1 hs
    rcases List.mem_cons.1 h with rfl | h
    · rw [List.find?_cons_of_pos (p := fun x => eqT x k) he]
    · rw [List.find?_cons_of_neg (p := fun x => eqT x k) (fun hx => by
        have := ltT_ne (h1 m h)
        rw [eqT_trans hx (eqT_symm he)] at this; cases this)]
      exact find_strict h2 h he
theorem hasL_find (l : List Tri) (k : Tri) : hasL l k = (l.find? (fun x => eqT x k)).isSome := by
  unfold hasL
  rw [Bool.eq_iff_iff, List.any_eq_true, List.find?_isSome]
theorem get_set {l : List Tri} (h : Strict l) (a : Int) (f : ByteArray) (z : Int) : getP (setP l (a, f, z)) (a, f, 0) = z ∧ hasL (setP l (a, f, z)) (a, f, 0) = true := by
  have e := find_strict (k := (a, f, 0)) (setP_strict h (a, f, z)) (setP_mem (a, f, z) l) (eqT_iff.2 ⟨rfl, rfl⟩)
  refine ⟨by unfold getP; rw [e], by rw [hasL_find, e]; rfl⟩
theorem find_setP {k k2 : Tri} (hk : eqT k k2 = false) : ∀ l : List Tri, (setP l k).find? (fun x => eqT x k2) = l.find? (fun x => eqT x k2)
  | [] => by simp [setP, hk]
  | x :: t => by
    have hn : ¬ (fun x => eqT x k2) k = true := by simp [hk]
    unfold setP
    by_cases he : eqT x k = true
    · rw [if_pos he, List.find?_cons_of_neg (p := fun x => eqT x k2) hn, List.find?_cons_of_neg (p := fun x => eqT x k2) (fun hx => by
        have := eqT_trans (eqT_symm he) hx
        rw [hk] at this; cases this)]
    · rw [if_neg he]
      by_cases hl : ltT k x = true
      · rw [if_pos hl, List.find?_cons_of_neg (p := fun x => eqT x k2) hn]
      · rw [if_neg hl]
        by_cases hx : eqT x k2 = true
        · rw [List.find?_cons_of_pos (p := fun x => eqT x k2) hx, List.find?_cons_of_pos (p := fun x => eqT x k2) hx]
        · rw [List.find?_cons_of_neg (p := fun x => eqT x k2) hx, List.find?_cons_of_neg (p := fun x => eqT x k2) hx, find_setP hk t]
theorem get_else {k k2 : Tri} (hk : eqT k k2 = false) (l : List Tri) : getP (setP l k) k2 = getP l k2 ∧ hasL (setP l k) k2 = hasL l k2 := by
  refine ⟨by unfold getP; rw [find_setP hk l], by rw [hasL_find, hasL_find, find_setP hk l]⟩
theorem drop_set (k : Tri) : ∀ {l : List Tri}, dropP (setP l k) k = dropP l k
  | [] => by
    have e : eqT k k = true := eqT_iff.2 ⟨rfl, rfl⟩
    simp [setP, dropP, e]
  | x :: t => by
    have e : eqT k k = true := eqT_iff.2 ⟨rfl, rfl⟩
    have ih := drop_set k (l := t)
    unfold setP
    by_cases he : eqT x k = true
    · rw [if_pos he]
      simp [dropP, e, he]
    · rw [if_neg he]
      by_cases hl : ltT k x = true
      · rw [if_pos hl]
        simp [dropP, e]
      · rw [if_neg hl]
        unfold dropP at *
        rw [List.filter_cons_of_pos (by simpa using he), List.filter_cons_of_pos (by simpa using he), ih]
theorem set_drop {l : List Tri} (h : Strict l) (k : Tri) : setP (dropP l k) k = setP l k := by
  rw [← addR_drop (strict_drop h k), dropP_self (fun x hx => dropP_none hx), addR_drop h]
theorem hasL_fresh {l : List Tri} (hs : Strict l) (h : l.all okT = true) (g : ByteArray) : hasL l (freshP l, g, 0) = false := by
  unfold hasL
  rw [List.any_eq_false]
  intro x hx he
  obtain ⟨e1, _⟩ := eqT_iff.1 he
  have hpos : 0 < l.length := List.length_pos_of_mem hx
  obtain ⟨k, hk⟩ : ∃ k, l.length = k + 1 := ⟨l.length - 1, by omega⟩
  have e : l.getLast? = some l[k] := by
    rw [List.getLast?_eq_getElem?, show l.length - 1 = k by omega]
    exact List.getElem?_eq_getElem (by omega)
  have hm := List.all_eq_true.1 h l[k] (List.getElem_mem _)
  have hF : freshP l = l[k].1 + 1 := by
    unfold freshP
    rw [e]
    unfold okT at hm
    simp only [Bool.and_eq_true, decide_eq_true_eq] at hm
    show wrap64 (l[k].1 + 1) = l[k].1 + 1
    unfold wrap64
    omega
  simp only at e1
  rw [hF] at e1
  obtain ⟨j, hj, rfl⟩ := List.getElem_of_mem hx
  rcases Nat.lt_or_ge j k with g1 | g1
  · have h1 := (List.pairwise_iff_getElem.1 hs) j k hj (by omega) g1
    unfold ltT ltK at h1
    simp only [Bool.or_eq_true, decide_eq_true_eq, Bool.and_eq_true] at h1
    rcases h1 with h1 | ⟨h1, _⟩ <;> omega
  · obtain rfl : j = k := by omega
    omega

set_option maxRecDepth 100000 in
set_option maxHeartbeats 8000000 in
theorem heapKeeps_walk {R : Nat → Prop} {w : World} {A : Option Addr} {l : List Tri} {cap : Nat} (hl : Tris R w A l cap) (a : Int) (ha : I64 a) (f : ByteArray) (hf : f.size ≤ maxLen) (z : Int) (hz : I64 z) (a2 : Int) (_ : I64 a2) (f2 : ByteArray) (_ : f2.size ≤ maxLen) :
    Calls Try.prog 7 #[.slice A l.length cap, .int .i64 a, .string f, .int .i64 z, .int .i64 a2, .string f2] w fun e w' => e = .returned (.bool true) ∧ Chg No w w' := by
  have HU := Lib.hid (up_any w)
  have HC := Lib.hid (fun W (h : Chg No w W) => check_any (hl.no triE_good h))
  have hb := hl.big
  unfold big at hb
  cases hh : heapB l
  · rw [hh, show heapV false = .iface 33 (.int .i64 5) from rfl] at HC
    clear hl hh
    go_enter Try.func7, Try.ntmps7
    go_wp2_with (first
      | (go_at_call 8; refine HU.out.mono ?_; rintro e w1 ⟨rfl, h2⟩; have H1 := Lib.hid h2; clear h2)
      | (go_at_call 12; refine (HC.out _ H1.out).mono ?_; rintro e w2 ⟨rfl, h2⟩; have H2 := Lib.hid (H1.out.thenNo h2); clear h2))
    go_ret
    exact ⟨rfl, H2.out⟩
  rw [hh, show heapV true = .nilIface from rfl] at HC
  by_cases h1 : 500 < l.length
  · have d1 : decide ((500 : Int) < (l.length : Int)) = true := decide_eq_true (by omega)
    clear hl hh
    go_enter Try.func7, Try.ntmps7
    go_wp2_with (first
      | (go_at_call 8; refine HU.out.mono ?_; rintro e w1 ⟨rfl, h2⟩; have H1 := Lib.hid h2; clear h2)
      | (go_at_call 12; refine (HC.out _ H1.out).mono ?_; rintro e w2 ⟨rfl, h2⟩; have H2 := Lib.hid (H1.out.thenNo h2); clear h2))
    go_ret
    exact ⟨rfl, H2.out⟩
  have d1 : decide ((500 : Int) < (l.length : Int)) = false := decide_eq_false (by omega)
  rw [heapB_eq, Bool.and_eq_true] at hh
  have hS : Strict l := of_decide_eq_true hh.1
  have hok := hh.2
  clear hh
  have hlen : l.length ≤ 500 := by omega
  have hk : TriOk (a, f, z) := ⟨ha, hf, hz⟩
  have hSS := setP_strict hS (a, f, z)
  have hSD := strict_drop hS (a, f, z)
  have hsl := setP_len (a, f, z) l
  have hdl := dropP_len l (a, f, z)
  have HB1 : Hid ((setP l (a, f, z)).length * 32 ≤ big) := by unfold Hid big; omega
  have HB2 : Hid ((dropP l (a, f, z)).length * 32 ≤ big) := by unfold Hid big; omega
  have HSET := Lib.hid (fun W (h : Chg No w W) => set_any (hl.no triE_good h) hS (by omega) a f z hk)
  have hgs := get_set hS a f z
  have HG1 : Hid (∀ W A1 c1 (R1 : Nat → Prop), OTris 39 R1 W (.slice A1 (setP l (a, f, z)).length c1) (setP l (a, f, z)) → Calls Try.prog 19 #[.slice A1 (setP l (a, f, z)).length c1, .int .i64 a, .string f] W fun e w' => e = .returned (.tuple #[.int .i64 z, .nilIface]) ∧ Chg No W w') := fun W A1 c1 R1 h => by
    have := get_any (h.tris HB1.out) hSS a f
    rwa [hgs.1, hgs.2] at this
  have HG2 := Lib.hid (fun W (h : Chg No w W) => get_any (hl.no triE_good h) hS a2 f2)
  have HG3 : Hid (∀ W A1 c1 (R1 : Nat → Prop), OTris 39 R1 W (.slice A1 (setP l (a, f, z)).length c1) (setP l (a, f, z)) → Calls Try.prog 19 #[.slice A1 (setP l (a, f, z)).length c1, .int .i64 a2, .string f2] W fun e w' => e = .returned (.tuple #[.int .i64 (getP (setP l (a, f, z)) (a2, f2, 0)), noneV (hasL (setP l (a, f, z)) (a2, f2, 0))]) ∧ Chg No W w') := fun W A1 c1 R1 h => get_any (h.tris HB1.out) hSS a2 f2
  have HD : Hid (∀ W A1 c1 (R1 : Nat → Prop), OTris 39 R1 W (.slice A1 (setP l (a, f, z)).length c1) (setP l (a, f, z)) → Calls Try.prog 16 #[.slice A1 (setP l (a, f, z)).length c1, .int .i64 a, .string f] W fun e w' => ∃ A' n' cap', e = .returned (.tuple #[.slice A' n' cap', .nilIface]) ∧ n' = (dropP l (a, f, z)).length ∧ OTris 39 (fun k => W.heap.size ≤ k) w' (.slice A' n' cap') (dropP l (a, f, z)) ∧ Chg No W w') := fun W A1 c1 R1 h => by
    have := drop_any (h.tris HB1.out) hSS (by omega) a f
    rw [hgs.2, if_pos rfl, show dropP (setP l (a, f, z)) (a, f, 0) = dropP (setP l (a, f, z)) (a, f, z) from rfl, drop_set] at this
    exact this
  have HG4 : Hid (∀ W A1 c1 (R1 : Nat → Prop), OTris 39 R1 W (.slice A1 (dropP l (a, f, z)).length c1) (dropP l (a, f, z)) → Calls Try.prog 19 #[.slice A1 (dropP l (a, f, z)).length c1, .int .i64 a, .string f] W fun e w' => e = .returned (.tuple #[.int .i64 0, .iface 33 (.int .i64 15)]) ∧ Chg No W w') := fun W A1 c1 R1 h => by
    have := get_any (h.tris HB2.out) hSD a f
    have hn : hasL (dropP l (a, f, z)) (a, f, 0) = false := hasL_drop l (a, f, z)
    rwa [getP_no hn, hn] at this
  have HF := Lib.hid (fun W (h : Chg No w W) => fresh_any (hl.no triE_good h))
  have HG5 : Hid (∀ W, Chg No w W → Calls Try.prog 19 #[.slice A l.length cap, .int .i64 (freshP l), .string f2] W fun e w' => e = .returned (.tuple #[.int .i64 0, .iface 33 (.int .i64 15)]) ∧ Chg No W w') := fun W h => by
    have := get_any (hl.no triE_good h) hS (freshP l) f2
    have hn := hasL_fresh hS hok f2
    rwa [getP_no hn, hn] at this
  have HSET2 : Hid (∀ W A1 c1 (R1 : Nat → Prop), OTris 39 R1 W (.slice A1 (dropP l (a, f, z)).length c1) (dropP l (a, f, z)) → Calls Try.prog 15 #[.slice A1 (dropP l (a, f, z)).length c1, .int .i64 a, .string f, .int .i64 z] W (SetRet W (setP l (a, f, z)))) := fun W A1 c1 R1 h => by
    have := set_any (h.tris HB2.out) hSD (by omega) a f z hk
    rwa [set_drop hS] at this
  have HGE : Hid (¬ (a2 = a ∧ (f2.toList == f.toList) = true) → getP (setP l (a, f, z)) (a2, f2, 0) = getP l (a2, f2, 0) ∧ hasL (setP l (a, f, z)) (a2, f2, 0) = hasL l (a2, f2, 0)) := fun h => get_else (by rw [eqT_comm]; exact eqT_not (u := z) (z := 0) h) l
  clear hgs hSS hSD hsl hdl hok hS hk ha hf hz hl
  generalize setP l (a, f, z) = LS at *
  generalize dropP l (a, f, z) = LD at *
  generalize freshP l = fv at *
  generalize getP l (a2, f2, 0) = g1 at *
  generalize getP LS (a2, f2, 0) = g2 at *
  generalize hasL l (a2, f2, 0) = b1 at *
  generalize hasL LS (a2, f2, 0) = b2 at *
  have HSM : Hid (∀ (L : List Tri) W R1 R2 A1 A2 c1 c2, Tris R1 W A1 L c1 → Tris R2 W A2 L c2 → Calls Try.prog 17 #[.slice A1 L.length c1, .slice A2 L.length c2] W fun e w' => e = .returned (.bool true) ∧ Chg No W w') := fun L W R1 R2 A1 A2 c1 c2 g1 g2 => by
    have := sameCell_any g1 g2
    rwa [show decide (L = L) = true by simp] at this
  have HSM2 : Hid (∀ W A1 A2 c1 c2 R1, OTris 39 R1 W (.slice A1 LS.length c1) LS → ∀ {R2 : Nat → Prop}, OTris 39 R2 W (.slice A2 LS.length c2) LS → Calls Try.prog 17 #[.slice A1 LS.length c1, .slice A2 LS.length c2] W fun e w' => e = .returned (.bool true) ∧ Chg No W w') := fun W A1 A2 c1 c2 R1 g1 R2 g2 =>
    HSM.out LS W R1 R2 A1 A2 c1 c2 (g1.tris HB1.out) (g2.tris HB1.out)
  clear HSM HB1 HB2
  have he := eqlCode
  have hq := neqCode
  have zz : (z != z) = false := by simp
  go_enter Try.func7, Try.ntmps7
  go_upto_region 12 with (first
    | (go_at_call 8; refine HU.out.mono ?_; rintro e w1 ⟨rfl, h2⟩; have H1 := Lib.hid h2; clear h2)
    | (go_at_call 12; refine (HC.out _ H1.out).mono ?_; rintro e w2 ⟨rfl, h2⟩; have H2 := Lib.hid (H1.out.thenNo h2); clear h2)
    | (go_at_call 15; (with_reducible refine (HSET.out _ H2.out).mono ?_); rintro e w3 ⟨A3, n3, c3, rfl, h1, h2, h3⟩; subst h1; have G3 := Lib.hid h2; have H3 := Lib.hid (H2.out.thenNo h3); clear h2 h3)
    | (go_at_call 19; (with_reducible refine (HG1.out _ _ _ _ G3.out).mono ?_); rintro e w4 ⟨rfl, h2⟩; have G4 := Lib.hid (G3.out.no triV_good h2); have H4 := Lib.hid (H3.out.thenNo h2); clear h2)
    | (go_at_call 19; (with_reducible refine (HG2.out _ H4.out).mono ?_); rintro e w5 ⟨rfl, h2⟩; have G5 := Lib.hid (G4.out.no triV_good h2); have H5 := Lib.hid (H4.out.thenNo h2); clear h2)
    | (go_at_call 19; (with_reducible refine (HG3.out _ _ _ _ G5.out).mono ?_); rintro e w6 ⟨rfl, h2⟩; have G6 := Lib.hid (G5.out.no triV_good h2); have H6 := Lib.hid (H5.out.thenNo h2); clear h2)
    | (go_at_call 16; (with_reducible refine (HD.out _ _ _ _ G6.out).mono ?_); rintro e w7 ⟨A7, n7, c7, rfl, h1, h2, h3⟩; subst h1; have G7 := Lib.hid (G6.out.no triV_good h3); have K7 := Lib.hid h2; have H7 := Lib.hid (H6.out.thenNo h3); clear h2 h3)
    | (go_at_call 19; (with_reducible refine (HG4.out _ _ _ _ K7.out).mono ?_); rintro e w8 ⟨rfl, h2⟩; have G8 := Lib.hid (G7.out.no triV_good h2); have K8 := Lib.hid (K7.out.no triV_good h2); have H8 := Lib.hid (H7.out.thenNo h2); clear h2)
    | (go_at_call 22; (with_reducible refine (HF.out _ H8.out).mono ?_); rintro e w9 ⟨rfl, h2⟩; have G9 := Lib.hid (G8.out.no triV_good h2); have K9 := Lib.hid (K8.out.no triV_good h2); have H9 := Lib.hid (H8.out.thenNo h2); clear h2)
    | (go_at_call 19; (with_reducible refine (HG5.out _ H9.out).mono ?_); rintro e wa ⟨rfl, h2⟩; have GA := Lib.hid (G9.out.no triV_good h2); have KA := Lib.hid (K9.out.no triV_good h2); have HA := Lib.hid (H9.out.thenNo h2); clear h2))
  by_cases hk : a2 = a ∧ (f2.toList == f.toList) = true
  · obtain ⟨hx, hy⟩ := hk
    have e1 : (a2 != a) = false := by simpa using hx
    have e2 : (f2.toList != f.toList) = false := by rw [bne, hy]; rfl
    have e3 : (!(f2.toList == f.toList)) = false := e2
    clear HGE hx
    go_upto_region 15 with fail
    go_quiet (fail)
    have GA' := Lib.hid (GA.out.no triV_good ((Chg.refl _ _).drewN nq))
    have KA' := Lib.hid (KA.out.no triV_good ((Chg.refl _ _).drewN nq))
    have HA' := Lib.hid (HA.out.drewN nq)
    clear GA KA HA
    have GA := GA'
    have KA := KA'
    have HA := HA'
    clear GA' KA' HA'
    go_wp2_with (first
      | (go_at_call 15; (with_reducible refine (HSET2.out _ _ _ _ KA.out).mono ?_); rintro e wb ⟨AB, nb, cb, rfl, h1, h2, h3⟩; subst h1; have GB := Lib.hid (GA.out.no triV_good h3); have KB := Lib.hid h2; have HB := Lib.hid (HA.out.thenNo h3); clear h2 h3)
      | (go_at_call 17; (with_reducible refine (HSM2.out _ _ _ _ _ _ KB.out GB.out).mono ?_); rintro e wd ⟨rfl, h2⟩; have HD2 := Lib.hid (HB.out.thenNo h2); clear h2))
    go_ret
    exact ⟨rfl, HD2.out⟩
  · obtain ⟨rfl, rfl⟩ := HGE.out hk
    have gg : (g2 != g2) = false := by simp
    clear HGE
    cases b2
    case' false => rw [show noneV false = .iface 33 (.int .i64 15) from rfl]
    case' true => rw [show noneV true = .nilIface from rfl]
    all_goals
      by_cases hx : a2 = a
      case' pos =>
        have e1 : (a2 != a) = false := by simpa using hx
        have e2 : (f2.toList == f.toList) = false := by
          cases h : (f2.toList == f.toList)
          · rfl
          · exact absurd ⟨hx, h⟩ hk
      case' neg => have e1 : (a2 != a) = true := by simpa using hx
      all_goals
        clear hx hk
        go_upto_region 15 with fail
        go_quiet (fail)
        have GA' := Lib.hid (GA.out.no triV_good ((Chg.refl _ _).drewN nq))
        have KA' := Lib.hid (KA.out.no triV_good ((Chg.refl _ _).drewN nq))
        have HA' := Lib.hid (HA.out.drewN nq)
        clear GA KA HA
        have GA := GA'
        have KA := KA'
        have HA := HA'
        clear GA' KA' HA'
        go_wp2_with (first
          | (go_at_call 15; (with_reducible refine (HSET2.out _ _ _ _ KA.out).mono ?_); rintro e wb ⟨AB, nb, cb, rfl, h1, h2, h3⟩; subst h1; have GB := Lib.hid (GA.out.no triV_good h3); have KB := Lib.hid h2; have HB := Lib.hid (HA.out.thenNo h3); clear h2 h3)
          | (go_at_call 17; (with_reducible refine (HSM2.out _ _ _ _ _ _ KB.out GB.out).mono ?_); rintro e wd ⟨rfl, h2⟩; have HD2 := Lib.hid (HB.out.thenNo h2); clear h2))
        go_ret
        exact ⟨rfl, HD2.out⟩
end Go.Proofs.Ytbcgffnmbmbjdaa
