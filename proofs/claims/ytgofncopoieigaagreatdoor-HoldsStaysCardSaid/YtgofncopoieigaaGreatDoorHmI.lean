/-
  What an assertion takes, by the reference.
-/
import Derived.Test.YtgofncopoieigaaGreatDoorHmH
import Derived.Test.YtgofncopoieigaaGreatDoorHlE
import Derived.Test.YtgofncopoieigaaGreatDoorMP
namespace Go.Proofs.YtgofncopoieigaaGreatDoor
open Go Go.RowKit

/-- A call takes: shares, whether it holds, whether nothing was far. -/
def TkRet (w : World) (b : Nat) (r : (List Tri × Bool) × Bool) (e : Ending) (w' : World) : Prop :=
  ∃ (As : Option Addr) (cs : Nat) (s : List Tri) (is : Bool), e = .returned (.tuple #[.slice As s.length cs, .bool is, .bool (!r.2)]) ∧ s.length ≤ b ∧ (r.2 = false → s = r.1.1 ∧ is = r.1.2) ∧ OTris 50 (fun q => w.heap.size ≤ q) w' (.slice As s.length cs) s ∧ Chg No w w'
theorem empty_ok {m : Nat} {x : ET m} {R : Nat → Prop} {w : World} {cs : List Value} (hx : (exprV m) R w cs x) (h : hasE m x = false) : okE m x = true ∧ ∀ l, exH l m x = (0, false) := by
  cases m with
  | zero => exact hx.elim
  | succ m =>
    have h' : (!(decide (ENode.kind x = 0) && decide (ENode.num x = 0) && (ENode.name x).toList.isEmpty && decide ((ENode.kids x).length = 0))) = false := h
    simp only [Bool.not_eq_false', Bool.and_eq_true, decide_eq_true_eq] at h'
    obtain ⟨⟨⟨h1, h2⟩, h3⟩, h4⟩ := h'
    have h5 : ENode.kids x = [] := List.eq_nil_of_length_eq_zero h4
    refine ⟨?_, fun l => ?_⟩
    · show (eShape (ENode.kind x) (ENode.num x) (ENode.name x) (ENode.kids x).length && (ENode.kids x).all (okE m)) = true
      rw [h5, h1, h2]
      simp [eShape, h3, coefS]
    · rw [exH_0 h1, h2]; rfl
theorem aShape_v {kd num : Int} {field : ByteArray} {kl : Nat} {c hc e he v hv : Bool} (h : aShape kd num field kl c hc e he v hv = true) (hk : kd = 2) : hv = false := by
  subst hk
  simp [aShape] at h
  exact h.1.2
def Tk18Ok (m n k : Nat) : Prop := ∀ (x : AT m n k) (R Rs Rh : Nat → Prop) (w : World) (cs : List Value) (A : Option Addr) (l : List Vr) (cap : Nat) (Ah : Option Addr) (h : List Tri) (hcap : Nat), okA m n k x = true → lvA m n k x ≤ 100000 → (assnV m n k) R w cs x → Vars Rs w A l cap → Tris Rh w Ah h hcap →
    Calls Tryz.prog 27 #[.agg cs.toArray, .slice A l.length cap, .slice Ah h.length hcap] w (TkRet w (lvA m n k x) (wkH l h m n k x))

set_option maxRecDepth 100000 in
set_option maxHeartbeats 8000000 in
theorem tk18_walk (m n k : Nat) (IH : Hid (Tk18Ok m n k)) : Tk18Ok m n (k + 1) := by
  rintro f R Rs Rh w cs A l cap Ah h hcap hok hlv hx hl hh
  obtain ⟨ck, cA, cel, cca, cB, ckl, cck, ek, en, es, eB, ekl, eck, vk, vn, vs, vB, vkl, vck, B, capk, rfl, i1, hc, he, hv, hfl, i2, hk⟩ := anode_cells hx
  obtain ⟨hs, hkok⟩ := okA_parts hok
  have HKS := Lib.hid (fun W (hW : Chg No w W) => hk.no (assnE_good m n k) hW)
  have HEX : Hid (okE m (ANode.e f) = true → ∀ W, Chg No w W → Calls Tryz.prog 32 #[.agg #[.int .i64 ek, .int .i64 en, .string es, .slice eB ekl eck], .slice A l.length cap] W (VlRet W (exH l m (ANode.e f)))) := fun h1 W hW => val18_any m _ R Rs W [.int .i64 ek, .int .i64 en, .string es, .slice eB ekl eck] A l cap h1 ((exprV_good m).no he hW) (hl.no varE_good hW)
  have HEV : Hid (okE m (ANode.v f) = true → ∀ W, Chg No w W → Calls Tryz.prog 32 #[.agg #[.int .i64 vk, .int .i64 vn, .string vs, .slice vB vkl vck], .slice A l.length cap] W (VlRet W (exH l m (ANode.v f)))) := fun h1 W hW => val18_any m _ R Rs W [.int .i64 vk, .int .i64 vn, .string vs, .slice vB vkl vck] A l cap h1 ((exprV_good m).no hv hW) (hl.no varE_good hW)
  have HVE := Lib.hid (fun (h : hasE m (ANode.v f) = false) => empty_ok hv h)
  have HCO : Hid (okC m n (ANode.c f) = true → ∀ W, Chg No w W → Calls Tryz.prog 33 #[.agg #[.int .i64 ck, .slice cA cel cca, .slice cB ckl cck], .slice A l.length cap] W (TrRet W (coH l m n (ANode.c f)))) := fun h1 W hW => tru18_any m n _ R Rs W [.int .i64 ck, .slice cA cel cca, .slice cB ckl cck] A l cap h1 ((condV_good m n).no hc hW) (hl.no varE_good hW)
  have HGT : Hid (∀ W z s, Chg No w W → Calls Tryz.prog 42 #[.slice Ah h.length hcap, .int .i64 z, .string s] W fun e w' => e = .returned (.tuple #[.int .i64 (getP h (z, s, 0)), .bool (hasL h (z, s, 0))]) ∧ Chg No W w') := fun W z s hW => refGet_any (hh.no triE_good hW) z s
  have HWK : Hid (∀ x : AT m n k, okA m n k x = true → lvA m n k x ≤ 100000 → ∀ W cs', Chg No w W → (assnV m n k) R W cs' x → Calls Tryz.prog 27 #[.agg cs'.toArray, .slice A l.length cap, .slice Ah h.length hcap] W (TkRet W (lvA m n k x) (wkH l h m n k x))) := fun x h1 h2 W cs' hW hcs => IH.out x R Rs Rh W cs' A l cap Ah h hcap h1 h2 hcs (hl.no varE_good hW) (hh.no triE_good hW)
  have HJN : Hid (∀ W R1 R2 A1 A2 (a b : List Tri) ca cb, Tris R1 W A1 a ca → Tris R2 W A2 b cb → a.length + b.length ≤ 100000 → Calls Tryz.prog 43 #[.slice A1 a.length ca, .slice A2 b.length cb] W fun e w' => ∃ A' cap', e = .returned (.slice A' (addsS (a ++ b)).length cap') ∧ OTris 50 (fun k => W.heap.size ≤ k) w' (.slice A' (addsS (a ++ b)).length cap') (addsS (a ++ b)) ∧ Chg No W w') := fun W R1 R2 A1 A2 a b ca cb h1 h2 h3 => refJoin_any (h1.mono triE_good (R' := fun q => R1 q ∨ R2 q) (fun _ _ h => .inl h)) (h2.mono triE_good (R' := fun q => R1 q ∨ R2 q) (fun _ _ h => .inr h)) h3
  have H0 := @wkH_0 l h m n k f
  have H1 := @wkH_1 l h m n k f
  have H2 := @wkH_2 l h m n k f
  have H3 := @wkH_3 l h m n k f
  have H4 := @wkH_4 l h m n k f
  have H5 := @wkH_5 l h m n k f
  have HLV := @lvA_two m n k f
  have hlp := lvA_pos m n (k + 1) f
  have HKO := Lib.hid hkok
  have hsv := @aShape_v _ _ _ _ _ _ _ _ _ _ hs
  have hbh := hh.big
  unfold big at hbh
  obtain ⟨ans, hans⟩ : ∃ ans, ans = wkH l h m n (k + 1) f := ⟨_, rfl⟩
  rw [← hans] at H0 H1 H2 H3 H4 H5 ⊢
  obtain ⟨lv, hlv2⟩ : ∃ lv, lv = lvA m n (k + 1) f := ⟨_, rfl⟩
  rw [← hlv2] at hlv HLV hlp ⊢
  clear hans hlv2 hx hk hc he hv IH hok hl hkok hh
  have HFD : Hid (∀ z : Int, I64 z → TriOk (z, ANode.field f, ANode.num f)) := fun z hz => ⟨hz, hfl, i2⟩
  clear hfl
  generalize ANode.kind f = kd at *
  generalize ANode.field f = fd at *
  generalize ANode.num f = num at *
  generalize ANode.kids f = ks at *
  generalize exH l m (ANode.e f) = eE at *
  generalize coH l m n (ANode.c f) = eC at *
  generalize okE m (ANode.e f) = bE at *
  generalize okC m n (ANode.c f) = bC at *
  generalize hasE m (ANode.e f) = bHE at *
  generalize hasC m n (ANode.c f) = bHC at *
  obtain ⟨vE, fE⟩ := eE
  obtain ⟨vC, fC⟩ := eC
  obtain ⟨w3, hw3⟩ : ∃ w3, w3 = w.alloc (.cells #[.int .i64 kd, .int .i64 ck, .slice cA cel cca, .slice cB ckl cck, .int .i64 ek, .int .i64 en, .string es, .slice eB ekl eck, .int .i64 vk, .int .i64 vn, .string vs, .slice vB vkl vck, .string fd, .int .i64 num, .slice B ks.length capk] 30) := ⟨_, rfl⟩
  have h3 : Hid (Chg No w w3 ∧ w3.heap[w.heap.size]? = some (.cells #[.int .i64 kd, .int .i64 ck, .slice cA cel cca, .slice cB ckl cck, .int .i64 ek, .int .i64 en, .string es, .slice eB ekl eck, .int .i64 vk, .int .i64 vn, .string vs, .slice vB vkl vck, .string fd, .int .i64 num, .slice B ks.length capk] 30 (0, 0))) := by
    rw [hw3]
    exact ⟨(Chg.refl _ _).alloc _, heap_alloc_new _ _⟩
  have HO := Lib.hid (fun W (hW : Chg No w3 W) => obj_15 (hW.obj h3.out.2 id))
  have HT : Hid (∀ W, Chg No w3 W → Chg No w W) := fun W hW => h3.out.1.thenNo hW
  obtain ⟨p0, p1, p2, p3, p4, p5, p6, p7, p8, p9, p10, p11, p12, p13, p14⟩ := HO.out w3 (Chg.refl _ _)
  rcases aShape_cases hs with rfl | ⟨rfl, rfl⟩ | ⟨rfl, rfl⟩ | ⟨rfl, rfl, hbv⟩ | ⟨rfl, hkl⟩ | ⟨rfl, rfl, hkl⟩
  · have HA := Lib.hid (H0 rfl)
    clear H0 H1 H2 H3 H4 H5 HEX HEV HCO HGT HWK HJN HKS hs HLV HVE hsv
    go_enter Tryz.func27, Tryz.ntmps27
    go_upto_region 1 with fail
    rw [← hw3]
    clear hw3
    go_wp2_with fail
    go_ret3
    rw [HA.out]
    exact ⟨none, 0, [], true, rfl, Nat.zero_le _, fun _ => ⟨rfl, rfl⟩, OwnL.nil _ _ _ _ _, h3.out.1⟩
  · have HA := Lib.hid (H1 rfl)
    have HC := Lib.hid (HCO.out rfl w3 h3.out.1)
    unfold TrRet at HC
    simp only at HC HA
    clear H0 H1 H2 H3 H4 H5 HEX HEV HCO HGT HWK HJN HKS hs HLV HVE hsv
    go_enter Tryz.func27, Tryz.ntmps27
    go_upto_region 1 with fail
    rw [← hw3]
    clear hw3
    go_wp2_with (go_at_call 33; (with_reducible refine HC.out.mono ?_); rintro e w4 ⟨t4, rfl, ht4, h4⟩)
    go_ret3
    rw [HA.out]
    exact ⟨none, 0, [], t4, rfl, Nat.zero_le _, fun hf => ⟨rfl, ht4 hf⟩, OwnL.nil _ _ _ _ _, HT.out _ h4⟩
  · have HC := Lib.hid (HEX.out rfl w3 h3.out.1)
    have hv0 := hsv rfl
    obtain ⟨hvo, hve⟩ := HVE.out hv0
    have HV := Lib.hid (HEV.out hvo)
    rw [hve l] at HV
    have HA := Lib.hid (H2 rfl)
    clear H0 H1 H2 H3 H4 H5 HEX HEV HCO HWK HJN HKS hs HLV HVE hsv
    obtain ⟨vV, hvV⟩ : ∃ vV : Int, vV = 0 := ⟨_, rfl⟩
    obtain ⟨fV, hfV⟩ : ∃ fV : Bool, fV = false := ⟨_, rfl⟩
    rw [show ((0, false) : Int × Bool) = (vV, fV) by rw [hvV, hfV]] at HV
    have HFV := Lib.hid hfV
    clear hvV hfV
    unfold VlRet at HC HV
    simp only at HC HV HA
    go_enter Tryz.func27, Tryz.ntmps27
    go_upto_region 1 with fail
    rw [← hw3]
    clear hw3
    go_upto_region 10 with (go_at_call 32; (with_reducible refine HC.out.mono ?_); rintro e w4 ⟨v4, rfl, hI4, hv4, h4⟩; have H4 := Lib.hid h4; have HI4 := Lib.hid hI4; have HV4 := Lib.hid hv4; clear h4 hI4 hv4)
    clear p0 p1 p2 p3 p4 p5 p6 p7 p8 p9 p10 p11 p12 p13 p14
    obtain ⟨p0, p1, p2, p3, p4, p5, p6, p7, p8, p9, p10, p11, p12, p13, p14⟩ := HO.out w4 H4.out
    have HV1 := Lib.hid (HV.out w4 (HT.out w4 H4.out))
    go_upto_region 11 with (go_at_call 32; (with_reducible refine HV1.out.mono ?_); rintro e w5 ⟨v5, rfl, _, hv5, h5⟩; have H5 := Lib.hid (H4.out.thenNo h5); have HV5 := Lib.hid hv5; clear h5 hv5)
    clear p0 p1 p2 p3 p4 p5 p6 p7 p8 p9 p10 p11 p12 p13 p14
    obtain ⟨p0, p1, p2, p3, p4, p5, p6, p7, p8, p9, p10, p11, p12, p13, p14⟩ := HO.out w5 H5.out
    have HG := Lib.hid (HGT.out w5 v4 fd (HT.out w5 H5.out))
    go_upto_region 12 with (go_at_call 42; (with_reducible refine HG.out.mono ?_); rintro e w6 ⟨rfl, h6⟩; have H6 := Lib.hid (H5.out.thenNo h6); clear h6)
    clear p0 p1 p2 p3 p4 p5 p6 p7 p8 p9 p10 p11 p12 p13 p14
    obtain ⟨p0, p1, p2, p3, p4, p5, p6, p7, p8, p9, p10, p11, p12, p13, p14⟩ := HO.out w6 H6.out
    have HR : Hid (∀ (u : Bool) (y : Bool), u = hasL h (v4, fd, 0) → y = (!fE && !fV) → TkRet w lv ans (.returned (.tuple #[.slice (some ⟨w6.heap.size, 0, none⟩) 1 1, .bool u, .bool y])) (w6.alloc (.cells #[.int .i64 v4, .string fd, .int .i64 num] 50))) := fun u y hu hy => by
      rw [HA.out]
      refine ⟨_, 1, [(v4, fd, num)], u, ?_, hlp, fun hf => ?_, ownL_oneH (cs := [.int .i64 v4, .string fd, .int .i64 num]) (heap_alloc_new _ _) (HT.out _ H6.out).size rfl (tri_of (m := (v4, fd, num)) (HFD.out v4 HI4.out).1 (HFD.out v4 HI4.out).2.1 (HFD.out v4 HI4.out).2.2) triV_good, (HT.out _ H6.out).alloc _⟩
      · rw [hy]
        rw [show (!fE && !fV) = !fE by rw [HFV.out]; simp]; rfl
      · have e1 := HV4.out hf
        subst e1
        exact ⟨rfl, hu⟩
    generalize getP h (v4, fd, 0) = gv at *
    generalize hasL h (v4, fd, 0) = hb at *
    have y0 := ((Chg.refl No w6).alloc (.cells #[.int .i64 v4, .string fd, .int .i64 num] 50)).cell p0 id
    clear HC HV HV1 HG HGT HV4 HV5
    cases hb <;> cases fE <;> cases fV <;>
      (try simp only [Bool.not_false, Bool.not_true]
       go_wp2_with fail
       go_ret3
       exact HR.out _ _ (by first | rfl | simp [beqDec] | trace_state) (by first | rfl | trace_state))
  · have HC := Lib.hid (HEX.out rfl w3 h3.out.1)
    have HV := Lib.hid (HEV.out hbv)
    have HA := Lib.hid (H3 rfl)
    clear H0 H1 H2 H3 H4 H5 HEX HEV HCO HWK HJN HKS hs HLV HVE hsv
    generalize exH l m (ANode.v f) = eV at *
    obtain ⟨vV, fV⟩ := eV
    unfold VlRet at HC HV
    simp only at HC HV HA
    go_enter Tryz.func27, Tryz.ntmps27
    go_upto_region 1 with fail
    rw [← hw3]
    clear hw3
    go_upto_region 10 with (go_at_call 32; (with_reducible refine HC.out.mono ?_); rintro e w4 ⟨v4, rfl, hI4, hv4, h4⟩; have H4 := Lib.hid h4; have HI4 := Lib.hid hI4; have HV4 := Lib.hid hv4; clear h4 hI4 hv4)
    clear p0 p1 p2 p3 p4 p5 p6 p7 p8 p9 p10 p11 p12 p13 p14
    obtain ⟨p0, p1, p2, p3, p4, p5, p6, p7, p8, p9, p10, p11, p12, p13, p14⟩ := HO.out w4 H4.out
    have HV1 := Lib.hid (HV.out w4 (HT.out w4 H4.out))
    go_upto_region 11 with (go_at_call 32; (with_reducible refine HV1.out.mono ?_); rintro e w5 ⟨v5, rfl, _, hv5, h5⟩; have H5 := Lib.hid (H4.out.thenNo h5); have HV5 := Lib.hid hv5; clear h5 hv5)
    clear p0 p1 p2 p3 p4 p5 p6 p7 p8 p9 p10 p11 p12 p13 p14
    obtain ⟨p0, p1, p2, p3, p4, p5, p6, p7, p8, p9, p10, p11, p12, p13, p14⟩ := HO.out w5 H5.out
    have HG := Lib.hid (HGT.out w5 v4 fd (HT.out w5 H5.out))
    go_upto_region 12 with (go_at_call 42; (with_reducible refine HG.out.mono ?_); rintro e w6 ⟨rfl, h6⟩; have H6 := Lib.hid (H5.out.thenNo h6); clear h6)
    clear p0 p1 p2 p3 p4 p5 p6 p7 p8 p9 p10 p11 p12 p13 p14
    obtain ⟨p0, p1, p2, p3, p4, p5, p6, p7, p8, p9, p10, p11, p12, p13, p14⟩ := HO.out w6 H6.out
    have HR : Hid (∀ (u : Bool) (y : Bool), u = (hasL h (v4, fd, 0) && decide (getP h (v4, fd, 0) = v5)) → y = (!fE && !fV) → TkRet w lv ans (.returned (.tuple #[.slice (some ⟨w6.heap.size, 0, none⟩) 1 1, .bool u, .bool y])) (w6.alloc (.cells #[.int .i64 v4, .string fd, .int .i64 num] 50))) := fun u y hu hy => by
      rw [HA.out]
      refine ⟨_, 1, [(v4, fd, num)], u, ?_, hlp, fun hf => ?_, ownL_oneH (cs := [.int .i64 v4, .string fd, .int .i64 num]) (heap_alloc_new _ _) (HT.out _ H6.out).size rfl (tri_of (m := (v4, fd, num)) (HFD.out v4 HI4.out).1 (HFD.out v4 HI4.out).2.1 (HFD.out v4 HI4.out).2.2) triV_good, (HT.out _ H6.out).alloc _⟩
      · rw [hy]
        rw [show (!fE && !fV) = !(fE || fV) by simp]; rfl
      · rw [Bool.or_eq_false_iff] at hf
        have e1 := HV4.out hf.1
        have e2 := HV5.out hf.2
        subst e1; subst e2
        exact ⟨rfl, hu⟩
    generalize getP h (v4, fd, 0) = gv at *
    generalize hasL h (v4, fd, 0) = hb at *
    have y0 := ((Chg.refl No w6).alloc (.cells #[.int .i64 v4, .string fd, .int .i64 num] 50)).cell p0 id
    clear HC HV HV1 HG HGT HV4 HV5
    cases hb <;> cases fE <;> cases fV <;>
      (try simp only [Bool.not_false, Bool.not_true]
       go_wp2_with fail
       go_ret3
       exact HR.out _ _ (by first | rfl | simp [beqDec] | trace_state) (by first | rfl | trace_state))
  · obtain ⟨a, b2, rfl⟩ : ∃ a b2, ks = [a, b2] := by
      match ks, hkl with
      | [a, b2], _ => exact ⟨a, b2, rfl⟩
    have HA := Lib.hid (H4 rfl rfl)
    have hlv2 := HLV rfl
    rw [show ([a, b2] : List (AT m n k)).length = 2 from rfl] at hw3 h3 HO p14
    have HW1 := Lib.hid (HWK.out a (HKO.out a (by simp)) (by omega))
    have HW2 := Lib.hid (HWK.out b2 (HKO.out b2 (by simp)) (by omega))
    obtain ⟨b, o, kd1, ck1, cA1, cel1, cca1, cB1, ckl1, cck1, ek1, en1, es1, eB1, ekl1, eck1, vk1, vn1, vs1, vB1, vkl1, vck1, fd1, nm1, B1, kl1, capk1, rfl, hv1, x0, x1, x2, x3, x4, x5, x6, x7, x8, x9, x10, x11, x12, x13, x14⟩ := assns_someH (HKS.out w3 h3.out.1) 0 (by simp)
    have HK2 := Lib.hid (fun W (hW : Chg No w W) => assns_knownH (HKS.out W hW) 1 (by simp))
    have HI := Lib.hid (HW1.out w3 _ h3.out.1 hv1)
    simp only [Nat.zero_mul, Nat.add_zero] at x0 x1 x2 x3 x4 x5 x6 x7 x8 x9 x10 x11 x12 x13 x14
    clear hv1 H0 H1 H2 H3 H4 H5 HEX HEV HCO HGT HWK HKS hs HLV HKO HW1 HVE hsv
    generalize wkH l h m n k a = ra at *
    generalize wkH l h m n k b2 = rb at *
    generalize lvA m n k a = la at *
    generalize lvA m n k b2 = lb at *
    obtain ⟨⟨sa, oa⟩, fa⟩ := ra
    obtain ⟨⟨sb, ob⟩, fb⟩ := rb
    unfold TkRet at HI HW2
    simp only at HA HI HW2
    have HLVE := Lib.hid hlv2
    clear hlv2
    go_enter Tryz.func27, Tryz.ntmps27
    go_upto_region 1 with fail
    rw [← hw3]
    clear hw3
    go_upto_region 15 with (go_at_call 27; (with_reducible refine HI.out.mono ?_); rintro e w4 ⟨A4, c4, s4, o4, rfl, hl4, hv4, t4, h4⟩; have H4 := Lib.hid h4; have T4 := Lib.hid t4; have HL4 := Lib.hid hl4; have HV4 := Lib.hid hv4; clear h4 t4 hl4 hv4)
    clear p0 p1 p2 p3 p4 p5 p6 p7 p8 p9 p10 p11 p12 p13 p14 x0 x1 x2 x3 x4 x5 x6 x7 x8 x9 x10 x11 x12 x13 x14
    obtain ⟨p0, p1, p2, p3, p4, p5, p6, p7, p8, p9, p10, p11, p12, p13, p14⟩ := HO.out w4 H4.out
    obtain ⟨kd1, ck1, cA1, cel1, cca1, cB1, ckl1, cck1, ek1, en1, es1, eB1, ekl1, eck1, vk1, vn1, vs1, vB1, vkl1, vck1, fd1, nm1, B1, kl1, capk1, hv1, x0, x1, x2, x3, x4, x5, x6, x7, x8, x9, x10, x11, x12, x13, x14⟩ := HK2.out w4 (HT.out w4 H4.out)
    have HJ := Lib.hid (HW2.out w4 _ (HT.out w4 H4.out) hv1)
    simp only [Nat.one_mul] at x0 x1 x2 x3 x4 x5 x6 x7 x8 x9 x10 x11 x12 x13 x14
    clear hv1
    go_upto_region 16 with (go_at_call 27; (with_reducible refine HJ.out.mono ?_); rintro e w5 ⟨A5, c5, s5, o5, rfl, hl5, hv5, t5, h5⟩; have H5 := Lib.hid (H4.out.thenNo h5); have T5 := Lib.hid t5; have T4' : Hid (OTris 50 (fun q => w3.heap.size ≤ q) w5 (.slice A4 s4.length c4) s4) := T4.out.no triV_good h5; have HL5 := Lib.hid hl5; have HV5 := Lib.hid hv5; clear h5 t5 hl5 hv5)
    have hsz : s4.length + s5.length ≤ 100000 := by have := HL4.out; have := HL5.out; have := HLVE.out; omega
    have HJO := Lib.hid (HJN.out w5 _ _ _ _ s4 s5 _ _ (T4'.out.tris (by unfold big; omega)) (T5.out.tris (by unfold big; omega)) hsz)
    clear p0 p1 p2 p3 p4 p5 p6 p7 p8 p9 p10 p11 p12 p13 p14 x0 x1 x2 x3 x4 x5 x6 x7 x8 x9 x10 x11 x12 x13 x14
    have HWS : Hid (w.heap.size ≤ w5.heap.size) := (HT.out _ H5.out).size
    have HR : Hid (∀ (w6 : World) A6 c6 (u y : Bool), OTris 50 (fun k => w5.heap.size ≤ k) w6 (.slice A6 (addsS (s4 ++ s5)).length c6) (addsS (s4 ++ s5)) → Chg No w5 w6 → u = (o4 && o5) → y = (!fa && !fb) → TkRet w lv ans (.returned (.tuple #[.slice A6 (addsS (s4 ++ s5)).length c6, .bool u, .bool y])) w6) := fun w6 A6 c6 u y h6 hc6 hu hy => by
      rw [HA.out]
      refine ⟨A6, c6, addsS (s4 ++ s5), u, ?_, ?_, fun hf => ?_, h6.mono triV_good (fun q _ hq => Nat.le_trans HWS.out hq) (fun _ _ h => h), (HT.out _ H5.out).thenNo hc6⟩
      · rw [hy]
        rw [show (!fa && !fb) = !(fa || fb) by simp]
      · have h1 := addsS_len (s4 ++ s5)
        rw [List.length_append] at h1
        have := HL4.out; have := HL5.out; have := HLVE.out
        omega
      · rw [Bool.or_eq_false_iff] at hf
        obtain ⟨e1, e2⟩ := HV4.out hf.1
        obtain ⟨e3, e4⟩ := HV5.out hf.2
        exact ⟨by rw [e1, e3], by rw [hu, e2, e4]⟩
    clear HI HJ HW2 HV4 HV5
    cases o4 <;> cases fa <;>
      (go_wp2_with (go_at_call 43; (with_reducible refine HJO.out.mono ?_); rintro e w6 ⟨A6, c6, rfl, s6, h6⟩)
       go_ret3
       exact HR.out _ _ _ _ _ s6 h6 (by simp) (by simp))
  · obtain ⟨a, b2, rfl⟩ : ∃ a b2, ks = [a, b2] := by
      match ks, hkl with
      | [a, b2], _ => exact ⟨a, b2, rfl⟩
    have HA := Lib.hid (H5 rfl rfl)
    have hlv2 := HLV rfl
    rw [show ([a, b2] : List (AT m n k)).length = 2 from rfl] at hw3 h3 HO p14
    have HW1 := Lib.hid (HWK.out a (HKO.out a (by simp)) (by omega))
    have HW2 := Lib.hid (HWK.out b2 (HKO.out b2 (by simp)) (by omega))
    have HC := Lib.hid (HCO.out rfl w3 h3.out.1)
    obtain ⟨b, o, hB⟩ : ∃ b o, B = some ⟨b, o, none⟩ := by
      obtain ⟨b, o, _, _, _, _, _, _, _, _, _, _, _, _, _, _, _, _, _, _, _, _, _, _, _, _, _, hB, _⟩ := assns_someH (HKS.out w3 h3.out.1) 0 (by simp)
      exact ⟨b, o, hB⟩
    subst hB
    have HK1 := Lib.hid (fun W (hW : Chg No w W) => assns_knownH (HKS.out W hW) 0 (by simp))
    have HK2 := Lib.hid (fun W (hW : Chg No w W) => assns_knownH (HKS.out W hW) 1 (by simp))
    clear H0 H1 H2 H3 H4 H5 HEX HEV HCO HGT HWK HKS hs HLV HKO HVE hsv HJN
    generalize wkH l h m n k a = ra at *
    generalize wkH l h m n k b2 = rb at *
    generalize lvA m n k a = la at *
    generalize lvA m n k b2 = lb at *
    obtain ⟨⟨sa, oa⟩, fa⟩ := ra
    obtain ⟨⟨sb, ob⟩, fb⟩ := rb
    unfold TkRet at HW1 HW2
    unfold TrRet at HC
    simp only at HA HW1 HW2 HC
    have HLVE := Lib.hid hlv2
    clear hlv2
    cases fC
    rotate_left
    · go_enter Tryz.func27, Tryz.ntmps27
      go_upto_region 1 with fail
      rw [← hw3]
      clear hw3
      go_upto_region 18 with (go_at_call 33; (with_reducible refine HC.out.mono ?_); rintro e w4 ⟨t4, rfl, _, h4⟩; have H4 := Lib.hid h4; clear h4)
      have HFAR : Hid (ans.2 = true) := by unfold Hid; rw [HA.out]; split <;> rfl
      cases t4 <;>
        (go_wp2_with fail
         go_ret3
         exact ⟨none, 0, [], false, by rw [HFAR.out]; rfl, Nat.zero_le _, fun hf => by rw [HFAR.out] at hf; exact absurd hf (by simp), OwnL.nil _ _ _ _ _, HT.out _ H4.out⟩)
    go_enter Tryz.func27, Tryz.ntmps27
    go_upto_region 1 with fail
    rw [← hw3]
    clear hw3
    go_upto_region 18 with (go_at_call 33; (with_reducible refine HC.out.mono ?_); rintro e w4 ⟨t4, rfl, ht4, h4⟩; obtain rfl : t4 = vC := ht4 rfl; have H4 := Lib.hid h4; clear h4 ht4)
    clear p0 p1 p2 p3 p4 p5 p6 p7 p8 p9 p10 p11 p12 p13 p14
    obtain ⟨p0, p1, p2, p3, p4, p5, p6, p7, p8, p9, p10, p11, p12, p13, p14⟩ := HO.out w4 H4.out
    cases t4
    · rw [if_neg (by decide)] at HA
      obtain ⟨kd1, ck1, cA1, cel1, cca1, cB1, ckl1, cck1, ek1, en1, es1, eB1, ekl1, eck1, vk1, vn1, vs1, vB1, vkl1, vck1, fd1, nm1, B1, kl1, capk1, hv1, x0, x1, x2, x3, x4, x5, x6, x7, x8, x9, x10, x11, x12, x13, x14⟩ := HK2.out w4 (HT.out w4 H4.out)
      have HJ := Lib.hid (HW2.out w4 _ (HT.out w4 H4.out) hv1)
      simp only [Nat.one_mul] at x0 x1 x2 x3 x4 x5 x6 x7 x8 x9 x10 x11 x12 x13 x14
      clear hv1
      go_wp2_with (go_at_call 27; (with_reducible refine HJ.out.mono ?_); rintro e w5 ⟨A5, c5, s5, o5, rfl, hl5, hv5, t5, h5⟩)
      go_ret3
      rw [HA.out]
      exact ⟨A5, c5, s5, o5, rfl, by have := HLVE.out; omega, hv5, t5.mono triV_good (fun q _ hq => Nat.le_trans (HT.out _ H4.out).size hq) (fun _ _ h => h), (HT.out _ H4.out).thenNo h5⟩
    · rw [if_pos rfl] at HA
      obtain ⟨kd1, ck1, cA1, cel1, cca1, cB1, ckl1, cck1, ek1, en1, es1, eB1, ekl1, eck1, vk1, vn1, vs1, vB1, vkl1, vck1, fd1, nm1, B1, kl1, capk1, hv1, x0, x1, x2, x3, x4, x5, x6, x7, x8, x9, x10, x11, x12, x13, x14⟩ := HK1.out w4 (HT.out w4 H4.out)
      have HJ := Lib.hid (HW1.out w4 _ (HT.out w4 H4.out) hv1)
      simp only [Nat.zero_mul, Nat.add_zero] at x0 x1 x2 x3 x4 x5 x6 x7 x8 x9 x10 x11 x12 x13 x14
      clear hv1
      go_wp2_with (go_at_call 27; (with_reducible refine HJ.out.mono ?_); rintro e w5 ⟨A5, c5, s5, o5, rfl, hl5, hv5, t5, h5⟩)
      go_ret3
      rw [HA.out]
      exact ⟨A5, c5, s5, o5, rfl, by have := HLVE.out; omega, hv5, t5.mono triV_good (fun q _ hq => Nat.le_trans (HT.out _ H4.out).size hq) (fun _ _ h => h), (HT.out _ H4.out).thenNo h5⟩
theorem tk18_any (m n : Nat) : ∀ k, Tk18Ok m n k
  | 0 => fun _ _ _ _ _ _ _ _ _ _ _ _ _ _ h => h.elim
  | k + 1 => tk18_walk m n k (Lib.hid (tk18_any m n k))
end Go.Proofs.YtgofncopoieigaaGreatDoor
