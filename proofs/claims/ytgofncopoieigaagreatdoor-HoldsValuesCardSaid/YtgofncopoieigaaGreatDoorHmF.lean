/-
  The reference's assn.
-/
import Derived.Test.YtgofncopoieigaaGreatDoorHmE
import Derived.Test.YtgofncopoieigaaGreatDoorHlE
import Derived.Deep.CutBlock
namespace Go.Proofs.YtgofncopoieigaaGreatDoor
open Go Go.RowKit

/-- Has it no expression, field and number? Is it a place? -/
def nE15 (he : Bool) (fd : ByteArray) (num : Int) : Bool := !he && (fd.toList.isEmpty && decide (num = 0))
def pl15 (num : Int) (e : Bool) (fd : ByteArray) : Bool := decide (0 ≤ num) && (decide (num ≤ 1073741824) && (e && nameB fd))
theorem aShape_eq (kd num : Int) (fd : ByteArray) (kl : Nat) (c hc e he v hv : Bool) : aShape kd num fd kl c hc e he v hv =
    (if kd = 0 then !hc && (nE15 he fd num && (!hv && decide (kl = 0)))
    else if kd = 1 then nE15 he fd num && (!hv && (decide (kl = 0) && c))
    else if kd = 2 then !hc && (!hv && (decide (kl = 0) && pl15 num e fd))
    else if kd = 3 then !hc && (decide (kl = 0) && (pl15 num e fd && v))
    else if kd = 4 then !hc && (nE15 he fd num && (!hv && decide (kl = 2)))
    else if kd = 5 then nE15 he fd num && (!hv && (decide (kl = 2) && c))
    else false) := by
  unfold aShape nE15 pl15
  generalize decide (kl = 0) = b0
  generalize decide (kl = 2) = b2
  generalize decide (num = 0) = b3
  generalize decide (0 ≤ num) = b4
  generalize decide (num ≤ 1073741824) = b5
  generalize fd.toList.isEmpty = b6
  generalize nameB fd = b7
  split
  · revert hc he b6 b3 hv b0; decide
  split
  · revert c he b6 b3 hv b0; decide
  split
  · revert hc e b7 b4 b5 hv b0; decide
  split
  · revert hc e b7 b4 b5 v b0; decide
  split
  · revert hc he b6 b3 hv b2; decide
  split
  · revert c he b6 b3 hv b2; decide
  · rfl
def Assn15Ok (m n k : Nat) : Prop := ∀ (x : AT m n k) (R : Nat → Prop) (w : World) (cs : List Value), (assnV m n k) R w cs x →
    Calls Tryz.prog 66 #[.agg cs.toArray] w fun e w' => e = .returned (.bool (okA m n k x)) ∧ Chg No w w'
set_option maxRecDepth 100000 in
set_option maxHeartbeats 8000000 in
theorem assn15_k0 (m n k : Nat) (IH : Hid (Assn15Ok m n k)) (f : ANode (CT m n) (ET m) (AT m n k)) (hkd : ANode.kind f = 0) (R : Nat → Prop) (w : World) (cs : List Value) (h : (assnV m n (k + 1)) R w cs f) :
    Calls Tryz.prog 66 #[.agg cs.toArray] w fun e w' => e = .returned (.bool (okA m n (k + 1) f)) ∧ Chg No w w' := by
  obtain ⟨ck, cA, cel, cca, cB, ckl, cck, ek, en, es, eB, ekl, eck, vk, vn, vs, vB, vkl, vck, B, capk, rfl, i1, hc, he, hv, hfl, i2, hk⟩ := anode_cells h
  have HHC := Lib.hid (fun W (hW : Chg No w W) => hasC15_any ((condV_good m n).no hc hW))
  have HHE := Lib.hid (fun W (hW : Chg No w W) => hasE15_any ((exprV_good m).no he hW))
  have HHV := Lib.hid (fun W (hW : Chg No w W) => hasE15_any ((exprV_good m).no hv hW))
  have HCC := Lib.hid (fun W (hW : Chg No w W) => cond15_any m n _ _ W _ ((condV_good m n).no hc hW))
  have HEE := Lib.hid (fun W (hW : Chg No w W) => expr15_any m _ _ W _ ((exprV_good m).no he hW))
  have HVE := Lib.hid (fun W (hW : Chg No w W) => expr15_any m _ _ W _ ((exprV_good m).no hv hW))
  have HNM := Lib.hid (fun W => name13_any (w := W) (ANode.field f) hfl)
  have HKS := Lib.hid (fun W (hW : Chg No w W) => hk.no (assnE_good m n k) hW)
  have hb2 := hk.big
  unfold big at hb2
  obtain ⟨ans, hans⟩ : ∃ ans, ans = okA m n (k + 1) f := ⟨_, rfl⟩
  rw [← hans]
  rw [show okA m n (k + 1) f = (aShape (ANode.kind f) (ANode.num f) (ANode.field f) (ANode.kids f).length (okC m n (ANode.c f)) (hasC m n (ANode.c f)) (okE m (ANode.e f)) (hasE m (ANode.e f)) (okE m (ANode.v f)) (hasE m (ANode.v f)) && (ANode.kids f).all (okA m n k)) from rfl] at hans
  have HA := Lib.hid hans
  clear hans h hk hc he hv hfl
  generalize okC m n (ANode.c f) = bC at *
  generalize hasC m n (ANode.c f) = bHC at *
  generalize okE m (ANode.e f) = bE at *
  generalize hasE m (ANode.e f) = bHE at *
  generalize okE m (ANode.v f) = bV at *
  generalize hasE m (ANode.v f) = bHV at *
  generalize ANode.kind f = kd at *
  generalize ANode.field f = fd at *
  generalize ANode.num f = num at *
  generalize ANode.kids f = ks at *
  obtain ⟨sh, hsh⟩ : ∃ sh, sh = aShape kd num fd ks.length bC bHC bE bHE bV bHV := ⟨_, rfl⟩
  rw [← hsh] at HA
  rw [aShape_eq] at hsh
  obtain ⟨nE, hnE⟩ : ∃ nE, nE = nE15 bHE fd num := ⟨_, rfl⟩
  obtain ⟨pl, hpl⟩ : ∃ pl, pl = pl15 num bE fd := ⟨_, rfl⟩
  rw [← hnE, ← hpl] at hsh
  unfold nE15 at hnE
  unfold pl15 at hpl
  generalize nameB fd = nb at *
  have HSH := Lib.hid hsh
  have HNE := Lib.hid hnE
  have HPL := Lib.hid hpl
  clear hsh hnE hpl
  obtain ⟨w3, hw3⟩ : ∃ w3, w3 = w.alloc (.cells #[.int .i64 kd, .int .i64 ck, .slice cA cel cca, .slice cB ckl cck, .int .i64 ek, .int .i64 en, .string es, .slice eB ekl eck, .int .i64 vk, .int .i64 vn, .string vs, .slice vB vkl vck, .string fd, .int .i64 num, .slice B ks.length capk] 30) := ⟨_, rfl⟩
  have h3 : Hid (Chg No w w3 ∧ w3.heap[w.heap.size]? = some (.cells #[.int .i64 kd, .int .i64 ck, .slice cA cel cca, .slice cB ckl cck, .int .i64 ek, .int .i64 en, .string es, .slice eB ekl eck, .int .i64 vk, .int .i64 vn, .string vs, .slice vB vkl vck, .string fd, .int .i64 num, .slice B ks.length capk] 30 (0, 0))) := by
    rw [hw3]; exact ⟨(Chg.refl _ _).alloc _, heap_alloc_new _ _⟩
  have HO := Lib.hid (fun W (hW : Chg No w3 W) => obj_15 (hW.obj h3.out.2 id))
  obtain ⟨p0, p1, p2, p3, p4, p5, p6, p7, p8, p9, p10, p11, p12, p13, p14⟩ := HO.out w3 (Chg.refl _ _)
  subst hkd
  go_enter Tryz.func66, Tryz.ntmps66
  go_upto_region 1 with fail
  rw [← hw3]
  clear hw3
  go_upto_region 2 with (go_at_call 100; (with_reducible refine (HHC.out _ h3.out.1).mono ?_); rintro e w4 ⟨rfl, h4⟩; have H4 := Lib.hid h4; clear h4)
  clear p0 p1 p2 p3 p4 p5 p6 p7 p8 p9 p10 p11 p12 p13 p14 HHC
  obtain ⟨p0, p1, p2, p3, p4, p5, p6, p7, p8, p9, p10, p11, p12, p13, p14⟩ := HO.out w4 H4.out
  go_cut [4] (fun s4 wx => s4 = .bool nE ∧ Hid (Chg No w3 wx))
  case first =>
    clear HA HHV HCC HEE HVE HNM HKS IH HSH HPL
    have HC := Lib.hid (HHE.out w4 (h3.out.1.thenNo H4.out))
    have HX := Lib.hid (fun W (hW : Chg No w4 W) => HO.out W (H4.out.thenNo hW))
    cases bHE
    · by_cases ce : fd.toList.isEmpty = true
      · have f_ce := ce
        by_cases cn : num = 0
        · have f_cn := beqT cn
          obtain rfl : nE = true := by rw [HNE.out]; simp [*]
          clear HNE cn
          go_wp2_with (go_at_call 101; (with_reducible refine HC.out.mono ?_); rintro e w5 ⟨rfl, h5⟩; have H5 := Lib.hid (H4.out.thenNo h5); clear p0 p1 p2 p3 p4 p5 p6 p7 p8 p9 p10 p11 p12 p13 p14; obtain ⟨p0, p1, p2, p3, p4, p5, p6, p7, p8, p9, p10, p11, p12, p13, p14⟩ := HX.out w5 h5; clear h5)
          go_meet
          exact ⟨rfl, H5.out⟩
        · have f_cn := beqF cn
          obtain rfl : nE = false := by rw [HNE.out]; simp [*]
          clear HNE
          go_wp2_with (go_at_call 101; (with_reducible refine HC.out.mono ?_); rintro e w5 ⟨rfl, h5⟩; have H5 := Lib.hid (H4.out.thenNo h5); clear p0 p1 p2 p3 p4 p5 p6 p7 p8 p9 p10 p11 p12 p13 p14; obtain ⟨p0, p1, p2, p3, p4, p5, p6, p7, p8, p9, p10, p11, p12, p13, p14⟩ := HX.out w5 h5; clear h5)
          go_meet
          exact ⟨rfl, H5.out⟩
      · have f_ce := ce
        obtain rfl : nE = false := by rw [HNE.out]; simp [*]
        clear HNE
        go_wp2_with (go_at_call 101; (with_reducible refine HC.out.mono ?_); rintro e w5 ⟨rfl, h5⟩; have H5 := Lib.hid (H4.out.thenNo h5); clear p0 p1 p2 p3 p4 p5 p6 p7 p8 p9 p10 p11 p12 p13 p14; obtain ⟨p0, p1, p2, p3, p4, p5, p6, p7, p8, p9, p10, p11, p12, p13, p14⟩ := HX.out w5 h5; clear h5)
        go_meet
        exact ⟨rfl, H5.out⟩
    · obtain rfl : nE = false := by rw [HNE.out]; simp
      clear HNE
      go_wp2_with (go_at_call 101; (with_reducible refine HC.out.mono ?_); rintro e w5 ⟨rfl, h5⟩; have H5 := Lib.hid (H4.out.thenNo h5); clear p0 p1 p2 p3 p4 p5 p6 p7 p8 p9 p10 p11 p12 p13 p14; obtain ⟨p0, p1, p2, p3, p4, p5, p6, p7, p8, p9, p10, p11, p12, p13, p14⟩ := HX.out w5 h5; clear h5)
      go_meet
      exact ⟨rfl, H5.out⟩
  case rest =>
  obtain ⟨rfl, H5⟩ := hcut
  obtain ⟨w5, rfl⟩ : ∃ w5, w5 = wc := ⟨_, rfl⟩
  clear p0 p1 p2 p3 p4 p5 p6 p7 p8 p9 p10 p11 p12 p13 p14 HHE HNE
  obtain ⟨p0, p1, p2, p3, p4, p5, p6, p7, p8, p9, p10, p11, p12, p13, p14⟩ := HO.out w5 H5.out
  go_upto_region 4 with (go_at_call 101; (with_reducible refine (HHV.out _ (h3.out.1.thenNo H5.out)).mono ?_); rintro e w6 ⟨rfl, h6⟩; have H6 := Lib.hid (H5.out.thenNo h6); clear h6)
  clear p0 p1 p2 p3 p4 p5 p6 p7 p8 p9 p10 p11 p12 p13 p14 HHV
  obtain ⟨p0, p1, p2, p3, p4, p5, p6, p7, p8, p9, p10, p11, p12, p13, p14⟩ := HO.out w6 H6.out
  go_cut [6] (fun s6 wx => s6 = .bool pl ∧ Hid (Chg No w3 wx))
  case first =>
    clear HA HCC HVE HKS IH HSH
    have HC := Lib.hid (HEE.out w6 (h3.out.1.thenNo H6.out))
    have HX := Lib.hid (fun W (hW : Chg No w6 W) => HO.out W (H6.out.thenNo hW))
    cases d1 : decide (0 ≤ num)
    · obtain rfl : pl = false := by rw [HPL.out, d1]; rfl
      clear HPL
      go_wp2_with fail
      go_meet
      exact ⟨rfl, H6.out⟩
    cases d2 : decide (num ≤ 1073741824)
    · obtain rfl : pl = false := by rw [HPL.out, d1, d2]; rfl
      clear HPL
      go_wp2_with fail
      go_meet
      exact ⟨rfl, H6.out⟩
    cases bE
    · obtain rfl : pl = false := by rw [HPL.out, d1, d2]; rfl
      clear HPL
      go_wp2_with (go_at_call 102; (with_reducible refine HC.out.mono ?_); rintro e w7 ⟨rfl, h7⟩; have H7 := Lib.hid (H6.out.thenNo h7); clear p0 p1 p2 p3 p4 p5 p6 p7 p8 p9 p10 p11 p12 p13 p14; obtain ⟨p0, p1, p2, p3, p4, p5, p6, p7, p8, p9, p10, p11, p12, p13, p14⟩ := HX.out w7 h7; clear h7)
      go_meet
      exact ⟨rfl, H7.out⟩
    · obtain rfl : pl = nb := by rw [HPL.out, d1, d2]; rfl
      clear HPL
      go_wp2_with (first
        | (go_at_call 102; (with_reducible refine HC.out.mono ?_); rintro e w7 ⟨rfl, h7⟩; have H7 := Lib.hid (H6.out.thenNo h7); clear p0 p1 p2 p3 p4 p5 p6 p7 p8 p9 p10 p11 p12 p13 p14; obtain ⟨p0, p1, p2, p3, p4, p5, p6, p7, p8, p9, p10, p11, p12, p13, p14⟩ := HX.out w7 h7; clear h7)
        | (go_at_call 64; (with_reducible refine (HNM.out _).mono ?_); rintro e w8 ⟨rfl, h8⟩; have H8 := Lib.hid (H7.out.thenNo h8); clear h8))
      go_meet
      exact ⟨rfl, H8.out⟩
  case rest =>
  obtain ⟨rfl, H7⟩ := hcut
  obtain ⟨w7, rfl⟩ : ∃ w7, w7 = wc := ⟨_, rfl⟩
  clear p0 p1 p2 p3 p4 p5 p6 p7 p8 p9 p10 p11 p12 p13 p14 HEE HNM HPL
  obtain ⟨p0, p1, p2, p3, p4, p5, p6, p7, p8, p9, p10, p11, p12, p13, p14⟩ := HO.out w7 H7.out
  go_upto_block 0 with fail
  go_cut [8] (fun s8 wx => s8 = .bool sh ∧ Hid (Chg No w3 wx))
  case first =>
    clear HA HKS IH
    generalize ks.length = kl at *
    have HC := Lib.hid (HCC.out w7 (h3.out.1.thenNo H7.out))
    have HVV := Lib.hid (HVE.out w7 (h3.out.1.thenNo H7.out))
    cases bHC
    rotate_left
    · obtain rfl : sh = false := by rw [HSH.out]; simp [*]
      clear HSH
      go_wp2_with fail
      go_meet
      exact ⟨rfl, H7.out⟩
    cases nE
    · obtain rfl : sh = false := by rw [HSH.out]; simp [*]
      try clear ck
      clear HSH
      go_wp2_with fail
      go_meet
      exact ⟨rfl, H7.out⟩
    cases bHV
    rotate_left
    · obtain rfl : sh = false := by rw [HSH.out]; simp [*]
      clear HSH
      go_wp2_with fail
      go_meet
      exact ⟨rfl, H7.out⟩
    by_cases ck : kl = 0
    rotate_left
    · have fk : ((kl : Int) == 0) = false := beqF (by omega)
      obtain rfl : sh = false := by rw [HSH.out]; simp [*]
      clear HSH
      go_wp2_with fail
      go_meet
      exact ⟨rfl, H7.out⟩
    have fk : ((kl : Int) == 0) = true := beqT (by omega)
    obtain rfl : sh = true := by rw [HSH.out]; simp [*]
    try clear ck
    clear HSH
    go_wp2_with fail
    go_meet
    exact ⟨rfl, H7.out⟩
  case rest =>
  obtain ⟨rfl, hch0⟩ := hcut
  clear p0 p1 p2 p3 p4 p5 p6 p7 p8 p9 p10 p11 p12 p13 p14 HSH HCC HVE
  go_wp2_with fail
  go_loopw [8, 9] (fun s8 s9 wr => ∃ (i : Nat) (q : Bool), s8 = .bool q ∧ s9 = .int .i64 i ∧ i ≤ ks.length ∧ Hid (q = (sh && (ks.take i).all (okA m n k))) ∧ Hid (Chg No w3 wr)) (fun _ s9 _ => ks.length - (intOf s9).toNat)
  case atStart => exact ⟨0, sh, rfl, rfl, Nat.zero_le _, by simp [Hid], hch0.out⟩
  case round =>
    obtain ⟨i, q, rfl, rfl, gi, hq, hch⟩ := hrel
    obtain ⟨p0, p1, p2, p3, p4, p5, p6, p7, p8, p9, p10, p11, p12, p13, p14⟩ := HO.out wr hch.out
    by_cases hlt : i < ks.length
    · have i0 : (0 : Int) ≤ (i : Int) := by omega
      have i1 : (i : Int) < (ks.length : Int) := by omega
      cases q
      · obtain rfl : ans = false := by
          rw [HA.out]
          have h1 := hq.out
          cases hs : sh with
          | false => rfl
          | true =>
            rw [hs, Bool.true_and] at h1
            cases ha : ks.all (okA m n k) with
            | false => rfl
            | true =>
              have : (ks.take i).all (okA m n k) = true := List.all_eq_true.2 fun x hx => List.all_eq_true.1 ha x (List.mem_of_mem_take hx)
              rw [this] at h1; cases h1
        clear hq HA
        go_wp2_with fail
        go_ret
        exact ⟨rfl, h3.out.1.thenNo hch.out⟩
      · obtain ⟨b, o, kd1, ck1, cA1, cel1, cca1, cB1, ckl1, cck1, ek1, en1, es1, eB1, ekl1, eck1, vk1, vn1, vs1, vB1, vkl1, vck1, fd1, nm1, B1, kl1, capk1, rfl, hv1, x0, x1, x2, x3, x4, x5, x6, x7, x8, x9, x10, x11, x12, x13, x14⟩ := assns_someH (HKS.out wr (h3.out.1.thenNo hch.out)) i hlt
        have HC := Lib.hid (IH.out ks[i] _ wr _ hv1)
        have HN : Hid (okA m n k ks[i] = (sh && (ks.take (i + 1)).all (okA m n k))) := by
          unfold Hid
          rw [List.take_succ_eq_append_getElem hlt, List.all_append, ← Bool.and_assoc, ← hq.out]
          simp
        clear hv1 hq
        generalize okA m n k ks[i] = q' at *
        go_wp2_with (go_at_call 66; (with_reducible refine HC.out.mono ?_); rintro e w4 ⟨rfl, h4⟩; have H4 := Lib.hid (hch.out.thenNo h4); clear h4)
        go_roundw
        case rel => exact ⟨i + 1, q', rfl, by go_num, hlt, HN.out, H4.out⟩
        case measure => simp [intOf]; omega
    · obtain rfl : i = ks.length := by omega
      obtain rfl : q = ans := by have := hq.out; rw [List.take_length] at this; rw [this, HA.out]
      clear hq HA
      go_wp2_with fail
      go_ret
      exact ⟨rfl, h3.out.1.thenNo hch.out⟩
set_option maxRecDepth 100000 in
set_option maxHeartbeats 8000000 in
theorem assn15_k1 (m n k : Nat) (IH : Hid (Assn15Ok m n k)) (f : ANode (CT m n) (ET m) (AT m n k)) (hkd : ANode.kind f = 1) (R : Nat → Prop) (w : World) (cs : List Value) (h : (assnV m n (k + 1)) R w cs f) :
    Calls Tryz.prog 66 #[.agg cs.toArray] w fun e w' => e = .returned (.bool (okA m n (k + 1) f)) ∧ Chg No w w' := by
  obtain ⟨ck, cA, cel, cca, cB, ckl, cck, ek, en, es, eB, ekl, eck, vk, vn, vs, vB, vkl, vck, B, capk, rfl, i1, hc, he, hv, hfl, i2, hk⟩ := anode_cells h
  have HHC := Lib.hid (fun W (hW : Chg No w W) => hasC15_any ((condV_good m n).no hc hW))
  have HHE := Lib.hid (fun W (hW : Chg No w W) => hasE15_any ((exprV_good m).no he hW))
  have HHV := Lib.hid (fun W (hW : Chg No w W) => hasE15_any ((exprV_good m).no hv hW))
  have HCC := Lib.hid (fun W (hW : Chg No w W) => cond15_any m n _ _ W _ ((condV_good m n).no hc hW))
  have HEE := Lib.hid (fun W (hW : Chg No w W) => expr15_any m _ _ W _ ((exprV_good m).no he hW))
  have HVE := Lib.hid (fun W (hW : Chg No w W) => expr15_any m _ _ W _ ((exprV_good m).no hv hW))
  have HNM := Lib.hid (fun W => name13_any (w := W) (ANode.field f) hfl)
  have HKS := Lib.hid (fun W (hW : Chg No w W) => hk.no (assnE_good m n k) hW)
  have hb2 := hk.big
  unfold big at hb2
  obtain ⟨ans, hans⟩ : ∃ ans, ans = okA m n (k + 1) f := ⟨_, rfl⟩
  rw [← hans]
  rw [show okA m n (k + 1) f = (aShape (ANode.kind f) (ANode.num f) (ANode.field f) (ANode.kids f).length (okC m n (ANode.c f)) (hasC m n (ANode.c f)) (okE m (ANode.e f)) (hasE m (ANode.e f)) (okE m (ANode.v f)) (hasE m (ANode.v f)) && (ANode.kids f).all (okA m n k)) from rfl] at hans
  have HA := Lib.hid hans
  clear hans h hk hc he hv hfl
  generalize okC m n (ANode.c f) = bC at *
  generalize hasC m n (ANode.c f) = bHC at *
  generalize okE m (ANode.e f) = bE at *
  generalize hasE m (ANode.e f) = bHE at *
  generalize okE m (ANode.v f) = bV at *
  generalize hasE m (ANode.v f) = bHV at *
  generalize ANode.kind f = kd at *
  generalize ANode.field f = fd at *
  generalize ANode.num f = num at *
  generalize ANode.kids f = ks at *
  obtain ⟨sh, hsh⟩ : ∃ sh, sh = aShape kd num fd ks.length bC bHC bE bHE bV bHV := ⟨_, rfl⟩
  rw [← hsh] at HA
  rw [aShape_eq] at hsh
  obtain ⟨nE, hnE⟩ : ∃ nE, nE = nE15 bHE fd num := ⟨_, rfl⟩
  obtain ⟨pl, hpl⟩ : ∃ pl, pl = pl15 num bE fd := ⟨_, rfl⟩
  rw [← hnE, ← hpl] at hsh
  unfold nE15 at hnE
  unfold pl15 at hpl
  generalize nameB fd = nb at *
  have HSH := Lib.hid hsh
  have HNE := Lib.hid hnE
  have HPL := Lib.hid hpl
  clear hsh hnE hpl
  obtain ⟨w3, hw3⟩ : ∃ w3, w3 = w.alloc (.cells #[.int .i64 kd, .int .i64 ck, .slice cA cel cca, .slice cB ckl cck, .int .i64 ek, .int .i64 en, .string es, .slice eB ekl eck, .int .i64 vk, .int .i64 vn, .string vs, .slice vB vkl vck, .string fd, .int .i64 num, .slice B ks.length capk] 30) := ⟨_, rfl⟩
  have h3 : Hid (Chg No w w3 ∧ w3.heap[w.heap.size]? = some (.cells #[.int .i64 kd, .int .i64 ck, .slice cA cel cca, .slice cB ckl cck, .int .i64 ek, .int .i64 en, .string es, .slice eB ekl eck, .int .i64 vk, .int .i64 vn, .string vs, .slice vB vkl vck, .string fd, .int .i64 num, .slice B ks.length capk] 30 (0, 0))) := by
    rw [hw3]; exact ⟨(Chg.refl _ _).alloc _, heap_alloc_new _ _⟩
  have HO := Lib.hid (fun W (hW : Chg No w3 W) => obj_15 (hW.obj h3.out.2 id))
  obtain ⟨p0, p1, p2, p3, p4, p5, p6, p7, p8, p9, p10, p11, p12, p13, p14⟩ := HO.out w3 (Chg.refl _ _)
  subst hkd
  go_enter Tryz.func66, Tryz.ntmps66
  go_upto_region 1 with fail
  rw [← hw3]
  clear hw3
  go_upto_region 2 with (go_at_call 100; (with_reducible refine (HHC.out _ h3.out.1).mono ?_); rintro e w4 ⟨rfl, h4⟩; have H4 := Lib.hid h4; clear h4)
  clear p0 p1 p2 p3 p4 p5 p6 p7 p8 p9 p10 p11 p12 p13 p14 HHC
  obtain ⟨p0, p1, p2, p3, p4, p5, p6, p7, p8, p9, p10, p11, p12, p13, p14⟩ := HO.out w4 H4.out
  go_cut [4] (fun s4 wx => s4 = .bool nE ∧ Hid (Chg No w3 wx))
  case first =>
    clear HA HHV HCC HEE HVE HNM HKS IH HSH HPL
    have HC := Lib.hid (HHE.out w4 (h3.out.1.thenNo H4.out))
    have HX := Lib.hid (fun W (hW : Chg No w4 W) => HO.out W (H4.out.thenNo hW))
    cases bHE
    · by_cases ce : fd.toList.isEmpty = true
      · have f_ce := ce
        by_cases cn : num = 0
        · have f_cn := beqT cn
          obtain rfl : nE = true := by rw [HNE.out]; simp [*]
          clear HNE cn
          go_wp2_with (go_at_call 101; (with_reducible refine HC.out.mono ?_); rintro e w5 ⟨rfl, h5⟩; have H5 := Lib.hid (H4.out.thenNo h5); clear p0 p1 p2 p3 p4 p5 p6 p7 p8 p9 p10 p11 p12 p13 p14; obtain ⟨p0, p1, p2, p3, p4, p5, p6, p7, p8, p9, p10, p11, p12, p13, p14⟩ := HX.out w5 h5; clear h5)
          go_meet
          exact ⟨rfl, H5.out⟩
        · have f_cn := beqF cn
          obtain rfl : nE = false := by rw [HNE.out]; simp [*]
          clear HNE
          go_wp2_with (go_at_call 101; (with_reducible refine HC.out.mono ?_); rintro e w5 ⟨rfl, h5⟩; have H5 := Lib.hid (H4.out.thenNo h5); clear p0 p1 p2 p3 p4 p5 p6 p7 p8 p9 p10 p11 p12 p13 p14; obtain ⟨p0, p1, p2, p3, p4, p5, p6, p7, p8, p9, p10, p11, p12, p13, p14⟩ := HX.out w5 h5; clear h5)
          go_meet
          exact ⟨rfl, H5.out⟩
      · have f_ce := ce
        obtain rfl : nE = false := by rw [HNE.out]; simp [*]
        clear HNE
        go_wp2_with (go_at_call 101; (with_reducible refine HC.out.mono ?_); rintro e w5 ⟨rfl, h5⟩; have H5 := Lib.hid (H4.out.thenNo h5); clear p0 p1 p2 p3 p4 p5 p6 p7 p8 p9 p10 p11 p12 p13 p14; obtain ⟨p0, p1, p2, p3, p4, p5, p6, p7, p8, p9, p10, p11, p12, p13, p14⟩ := HX.out w5 h5; clear h5)
        go_meet
        exact ⟨rfl, H5.out⟩
    · obtain rfl : nE = false := by rw [HNE.out]; simp
      clear HNE
      go_wp2_with (go_at_call 101; (with_reducible refine HC.out.mono ?_); rintro e w5 ⟨rfl, h5⟩; have H5 := Lib.hid (H4.out.thenNo h5); clear p0 p1 p2 p3 p4 p5 p6 p7 p8 p9 p10 p11 p12 p13 p14; obtain ⟨p0, p1, p2, p3, p4, p5, p6, p7, p8, p9, p10, p11, p12, p13, p14⟩ := HX.out w5 h5; clear h5)
      go_meet
      exact ⟨rfl, H5.out⟩
  case rest =>
  obtain ⟨rfl, H5⟩ := hcut
  obtain ⟨w5, rfl⟩ : ∃ w5, w5 = wc := ⟨_, rfl⟩
  clear p0 p1 p2 p3 p4 p5 p6 p7 p8 p9 p10 p11 p12 p13 p14 HHE HNE
  obtain ⟨p0, p1, p2, p3, p4, p5, p6, p7, p8, p9, p10, p11, p12, p13, p14⟩ := HO.out w5 H5.out
  go_upto_region 4 with (go_at_call 101; (with_reducible refine (HHV.out _ (h3.out.1.thenNo H5.out)).mono ?_); rintro e w6 ⟨rfl, h6⟩; have H6 := Lib.hid (H5.out.thenNo h6); clear h6)
  clear p0 p1 p2 p3 p4 p5 p6 p7 p8 p9 p10 p11 p12 p13 p14 HHV
  obtain ⟨p0, p1, p2, p3, p4, p5, p6, p7, p8, p9, p10, p11, p12, p13, p14⟩ := HO.out w6 H6.out
  go_cut [6] (fun s6 wx => s6 = .bool pl ∧ Hid (Chg No w3 wx))
  case first =>
    clear HA HCC HVE HKS IH HSH
    have HC := Lib.hid (HEE.out w6 (h3.out.1.thenNo H6.out))
    have HX := Lib.hid (fun W (hW : Chg No w6 W) => HO.out W (H6.out.thenNo hW))
    cases d1 : decide (0 ≤ num)
    · obtain rfl : pl = false := by rw [HPL.out, d1]; rfl
      clear HPL
      go_wp2_with fail
      go_meet
      exact ⟨rfl, H6.out⟩
    cases d2 : decide (num ≤ 1073741824)
    · obtain rfl : pl = false := by rw [HPL.out, d1, d2]; rfl
      clear HPL
      go_wp2_with fail
      go_meet
      exact ⟨rfl, H6.out⟩
    cases bE
    · obtain rfl : pl = false := by rw [HPL.out, d1, d2]; rfl
      clear HPL
      go_wp2_with (go_at_call 102; (with_reducible refine HC.out.mono ?_); rintro e w7 ⟨rfl, h7⟩; have H7 := Lib.hid (H6.out.thenNo h7); clear p0 p1 p2 p3 p4 p5 p6 p7 p8 p9 p10 p11 p12 p13 p14; obtain ⟨p0, p1, p2, p3, p4, p5, p6, p7, p8, p9, p10, p11, p12, p13, p14⟩ := HX.out w7 h7; clear h7)
      go_meet
      exact ⟨rfl, H7.out⟩
    · obtain rfl : pl = nb := by rw [HPL.out, d1, d2]; rfl
      clear HPL
      go_wp2_with (first
        | (go_at_call 102; (with_reducible refine HC.out.mono ?_); rintro e w7 ⟨rfl, h7⟩; have H7 := Lib.hid (H6.out.thenNo h7); clear p0 p1 p2 p3 p4 p5 p6 p7 p8 p9 p10 p11 p12 p13 p14; obtain ⟨p0, p1, p2, p3, p4, p5, p6, p7, p8, p9, p10, p11, p12, p13, p14⟩ := HX.out w7 h7; clear h7)
        | (go_at_call 64; (with_reducible refine (HNM.out _).mono ?_); rintro e w8 ⟨rfl, h8⟩; have H8 := Lib.hid (H7.out.thenNo h8); clear h8))
      go_meet
      exact ⟨rfl, H8.out⟩
  case rest =>
  obtain ⟨rfl, H7⟩ := hcut
  obtain ⟨w7, rfl⟩ : ∃ w7, w7 = wc := ⟨_, rfl⟩
  clear p0 p1 p2 p3 p4 p5 p6 p7 p8 p9 p10 p11 p12 p13 p14 HEE HNM HPL
  obtain ⟨p0, p1, p2, p3, p4, p5, p6, p7, p8, p9, p10, p11, p12, p13, p14⟩ := HO.out w7 H7.out
  go_upto_block 0 with fail
  go_cut [8] (fun s8 wx => s8 = .bool sh ∧ Hid (Chg No w3 wx))
  case first =>
    clear HA HKS IH
    generalize ks.length = kl at *
    have HC := Lib.hid (HCC.out w7 (h3.out.1.thenNo H7.out))
    have HVV := Lib.hid (HVE.out w7 (h3.out.1.thenNo H7.out))
    cases nE
    · obtain rfl : sh = false := by rw [HSH.out]; simp [*]
      try clear ck
      clear HSH
      go_wp2_with fail
      go_meet
      exact ⟨rfl, H7.out⟩
    cases bHV
    rotate_left
    · obtain rfl : sh = false := by rw [HSH.out]; simp [*]
      clear HSH
      go_wp2_with fail
      go_meet
      exact ⟨rfl, H7.out⟩
    by_cases ck : kl = 0
    rotate_left
    · have fk : ((kl : Int) == 0) = false := beqF (by omega)
      obtain rfl : sh = false := by rw [HSH.out]; simp [*]
      clear HSH
      go_wp2_with fail
      go_meet
      exact ⟨rfl, H7.out⟩
    have fk : ((kl : Int) == 0) = true := beqT (by omega)
    obtain rfl : sh = bC := by rw [HSH.out]; simp [*]
    clear ck
    clear HSH
    go_wp2_with (go_at_call 103; (with_reducible refine HC.out.mono ?_); rintro e w8 ⟨rfl, h8⟩; have H8 := Lib.hid (H7.out.thenNo h8); clear h8)
    go_meet
    exact ⟨rfl, H8.out⟩
  case rest =>
  obtain ⟨rfl, hch0⟩ := hcut
  clear p0 p1 p2 p3 p4 p5 p6 p7 p8 p9 p10 p11 p12 p13 p14 HSH HCC HVE
  go_wp2_with fail
  go_loopw [8, 9] (fun s8 s9 wr => ∃ (i : Nat) (q : Bool), s8 = .bool q ∧ s9 = .int .i64 i ∧ i ≤ ks.length ∧ Hid (q = (sh && (ks.take i).all (okA m n k))) ∧ Hid (Chg No w3 wr)) (fun _ s9 _ => ks.length - (intOf s9).toNat)
  case atStart => exact ⟨0, sh, rfl, rfl, Nat.zero_le _, by simp [Hid], hch0.out⟩
  case round =>
    obtain ⟨i, q, rfl, rfl, gi, hq, hch⟩ := hrel
    obtain ⟨p0, p1, p2, p3, p4, p5, p6, p7, p8, p9, p10, p11, p12, p13, p14⟩ := HO.out wr hch.out
    by_cases hlt : i < ks.length
    · have i0 : (0 : Int) ≤ (i : Int) := by omega
      have i1 : (i : Int) < (ks.length : Int) := by omega
      cases q
      · obtain rfl : ans = false := by
          rw [HA.out]
          have h1 := hq.out
          cases hs : sh with
          | false => rfl
          | true =>
            rw [hs, Bool.true_and] at h1
            cases ha : ks.all (okA m n k) with
            | false => rfl
            | true =>
              have : (ks.take i).all (okA m n k) = true := List.all_eq_true.2 fun x hx => List.all_eq_true.1 ha x (List.mem_of_mem_take hx)
              rw [this] at h1; cases h1
        clear hq HA
        go_wp2_with fail
        go_ret
        exact ⟨rfl, h3.out.1.thenNo hch.out⟩
      · obtain ⟨b, o, kd1, ck1, cA1, cel1, cca1, cB1, ckl1, cck1, ek1, en1, es1, eB1, ekl1, eck1, vk1, vn1, vs1, vB1, vkl1, vck1, fd1, nm1, B1, kl1, capk1, rfl, hv1, x0, x1, x2, x3, x4, x5, x6, x7, x8, x9, x10, x11, x12, x13, x14⟩ := assns_someH (HKS.out wr (h3.out.1.thenNo hch.out)) i hlt
        have HC := Lib.hid (IH.out ks[i] _ wr _ hv1)
        have HN : Hid (okA m n k ks[i] = (sh && (ks.take (i + 1)).all (okA m n k))) := by
          unfold Hid
          rw [List.take_succ_eq_append_getElem hlt, List.all_append, ← Bool.and_assoc, ← hq.out]
          simp
        clear hv1 hq
        generalize okA m n k ks[i] = q' at *
        go_wp2_with (go_at_call 66; (with_reducible refine HC.out.mono ?_); rintro e w4 ⟨rfl, h4⟩; have H4 := Lib.hid (hch.out.thenNo h4); clear h4)
        go_roundw
        case rel => exact ⟨i + 1, q', rfl, by go_num, hlt, HN.out, H4.out⟩
        case measure => simp [intOf]; omega
    · obtain rfl : i = ks.length := by omega
      obtain rfl : q = ans := by have := hq.out; rw [List.take_length] at this; rw [this, HA.out]
      clear hq HA
      go_wp2_with fail
      go_ret
      exact ⟨rfl, h3.out.1.thenNo hch.out⟩
set_option maxRecDepth 100000 in
set_option maxHeartbeats 8000000 in
theorem assn15_k2 (m n k : Nat) (IH : Hid (Assn15Ok m n k)) (f : ANode (CT m n) (ET m) (AT m n k)) (hkd : ANode.kind f = 2) (R : Nat → Prop) (w : World) (cs : List Value) (h : (assnV m n (k + 1)) R w cs f) :
    Calls Tryz.prog 66 #[.agg cs.toArray] w fun e w' => e = .returned (.bool (okA m n (k + 1) f)) ∧ Chg No w w' := by
  obtain ⟨ck, cA, cel, cca, cB, ckl, cck, ek, en, es, eB, ekl, eck, vk, vn, vs, vB, vkl, vck, B, capk, rfl, i1, hc, he, hv, hfl, i2, hk⟩ := anode_cells h
  have HHC := Lib.hid (fun W (hW : Chg No w W) => hasC15_any ((condV_good m n).no hc hW))
  have HHE := Lib.hid (fun W (hW : Chg No w W) => hasE15_any ((exprV_good m).no he hW))
  have HHV := Lib.hid (fun W (hW : Chg No w W) => hasE15_any ((exprV_good m).no hv hW))
  have HCC := Lib.hid (fun W (hW : Chg No w W) => cond15_any m n _ _ W _ ((condV_good m n).no hc hW))
  have HEE := Lib.hid (fun W (hW : Chg No w W) => expr15_any m _ _ W _ ((exprV_good m).no he hW))
  have HVE := Lib.hid (fun W (hW : Chg No w W) => expr15_any m _ _ W _ ((exprV_good m).no hv hW))
  have HNM := Lib.hid (fun W => name13_any (w := W) (ANode.field f) hfl)
  have HKS := Lib.hid (fun W (hW : Chg No w W) => hk.no (assnE_good m n k) hW)
  have hb2 := hk.big
  unfold big at hb2
  obtain ⟨ans, hans⟩ : ∃ ans, ans = okA m n (k + 1) f := ⟨_, rfl⟩
  rw [← hans]
  rw [show okA m n (k + 1) f = (aShape (ANode.kind f) (ANode.num f) (ANode.field f) (ANode.kids f).length (okC m n (ANode.c f)) (hasC m n (ANode.c f)) (okE m (ANode.e f)) (hasE m (ANode.e f)) (okE m (ANode.v f)) (hasE m (ANode.v f)) && (ANode.kids f).all (okA m n k)) from rfl] at hans
  have HA := Lib.hid hans
  clear hans h hk hc he hv hfl
  generalize okC m n (ANode.c f) = bC at *
  generalize hasC m n (ANode.c f) = bHC at *
  generalize okE m (ANode.e f) = bE at *
  generalize hasE m (ANode.e f) = bHE at *
  generalize okE m (ANode.v f) = bV at *
  generalize hasE m (ANode.v f) = bHV at *
  generalize ANode.kind f = kd at *
  generalize ANode.field f = fd at *
  generalize ANode.num f = num at *
  generalize ANode.kids f = ks at *
  obtain ⟨sh, hsh⟩ : ∃ sh, sh = aShape kd num fd ks.length bC bHC bE bHE bV bHV := ⟨_, rfl⟩
  rw [← hsh] at HA
  rw [aShape_eq] at hsh
  obtain ⟨nE, hnE⟩ : ∃ nE, nE = nE15 bHE fd num := ⟨_, rfl⟩
  obtain ⟨pl, hpl⟩ : ∃ pl, pl = pl15 num bE fd := ⟨_, rfl⟩
  rw [← hnE, ← hpl] at hsh
  unfold nE15 at hnE
  unfold pl15 at hpl
  generalize nameB fd = nb at *
  have HSH := Lib.hid hsh
  have HNE := Lib.hid hnE
  have HPL := Lib.hid hpl
  clear hsh hnE hpl
  obtain ⟨w3, hw3⟩ : ∃ w3, w3 = w.alloc (.cells #[.int .i64 kd, .int .i64 ck, .slice cA cel cca, .slice cB ckl cck, .int .i64 ek, .int .i64 en, .string es, .slice eB ekl eck, .int .i64 vk, .int .i64 vn, .string vs, .slice vB vkl vck, .string fd, .int .i64 num, .slice B ks.length capk] 30) := ⟨_, rfl⟩
  have h3 : Hid (Chg No w w3 ∧ w3.heap[w.heap.size]? = some (.cells #[.int .i64 kd, .int .i64 ck, .slice cA cel cca, .slice cB ckl cck, .int .i64 ek, .int .i64 en, .string es, .slice eB ekl eck, .int .i64 vk, .int .i64 vn, .string vs, .slice vB vkl vck, .string fd, .int .i64 num, .slice B ks.length capk] 30 (0, 0))) := by
    rw [hw3]; exact ⟨(Chg.refl _ _).alloc _, heap_alloc_new _ _⟩
  have HO := Lib.hid (fun W (hW : Chg No w3 W) => obj_15 (hW.obj h3.out.2 id))
  obtain ⟨p0, p1, p2, p3, p4, p5, p6, p7, p8, p9, p10, p11, p12, p13, p14⟩ := HO.out w3 (Chg.refl _ _)
  subst hkd
  go_enter Tryz.func66, Tryz.ntmps66
  go_upto_region 1 with fail
  rw [← hw3]
  clear hw3
  go_upto_region 2 with (go_at_call 100; (with_reducible refine (HHC.out _ h3.out.1).mono ?_); rintro e w4 ⟨rfl, h4⟩; have H4 := Lib.hid h4; clear h4)
  clear p0 p1 p2 p3 p4 p5 p6 p7 p8 p9 p10 p11 p12 p13 p14 HHC
  obtain ⟨p0, p1, p2, p3, p4, p5, p6, p7, p8, p9, p10, p11, p12, p13, p14⟩ := HO.out w4 H4.out
  go_cut [4] (fun s4 wx => s4 = .bool nE ∧ Hid (Chg No w3 wx))
  case first =>
    clear HA HHV HCC HEE HVE HNM HKS IH HSH HPL
    have HC := Lib.hid (HHE.out w4 (h3.out.1.thenNo H4.out))
    have HX := Lib.hid (fun W (hW : Chg No w4 W) => HO.out W (H4.out.thenNo hW))
    cases bHE
    · by_cases ce : fd.toList.isEmpty = true
      · have f_ce := ce
        by_cases cn : num = 0
        · have f_cn := beqT cn
          obtain rfl : nE = true := by rw [HNE.out]; simp [*]
          clear HNE cn
          go_wp2_with (go_at_call 101; (with_reducible refine HC.out.mono ?_); rintro e w5 ⟨rfl, h5⟩; have H5 := Lib.hid (H4.out.thenNo h5); clear p0 p1 p2 p3 p4 p5 p6 p7 p8 p9 p10 p11 p12 p13 p14; obtain ⟨p0, p1, p2, p3, p4, p5, p6, p7, p8, p9, p10, p11, p12, p13, p14⟩ := HX.out w5 h5; clear h5)
          go_meet
          exact ⟨rfl, H5.out⟩
        · have f_cn := beqF cn
          obtain rfl : nE = false := by rw [HNE.out]; simp [*]
          clear HNE
          go_wp2_with (go_at_call 101; (with_reducible refine HC.out.mono ?_); rintro e w5 ⟨rfl, h5⟩; have H5 := Lib.hid (H4.out.thenNo h5); clear p0 p1 p2 p3 p4 p5 p6 p7 p8 p9 p10 p11 p12 p13 p14; obtain ⟨p0, p1, p2, p3, p4, p5, p6, p7, p8, p9, p10, p11, p12, p13, p14⟩ := HX.out w5 h5; clear h5)
          go_meet
          exact ⟨rfl, H5.out⟩
      · have f_ce := ce
        obtain rfl : nE = false := by rw [HNE.out]; simp [*]
        clear HNE
        go_wp2_with (go_at_call 101; (with_reducible refine HC.out.mono ?_); rintro e w5 ⟨rfl, h5⟩; have H5 := Lib.hid (H4.out.thenNo h5); clear p0 p1 p2 p3 p4 p5 p6 p7 p8 p9 p10 p11 p12 p13 p14; obtain ⟨p0, p1, p2, p3, p4, p5, p6, p7, p8, p9, p10, p11, p12, p13, p14⟩ := HX.out w5 h5; clear h5)
        go_meet
        exact ⟨rfl, H5.out⟩
    · obtain rfl : nE = false := by rw [HNE.out]; simp
      clear HNE
      go_wp2_with (go_at_call 101; (with_reducible refine HC.out.mono ?_); rintro e w5 ⟨rfl, h5⟩; have H5 := Lib.hid (H4.out.thenNo h5); clear p0 p1 p2 p3 p4 p5 p6 p7 p8 p9 p10 p11 p12 p13 p14; obtain ⟨p0, p1, p2, p3, p4, p5, p6, p7, p8, p9, p10, p11, p12, p13, p14⟩ := HX.out w5 h5; clear h5)
      go_meet
      exact ⟨rfl, H5.out⟩
  case rest =>
  obtain ⟨rfl, H5⟩ := hcut
  obtain ⟨w5, rfl⟩ : ∃ w5, w5 = wc := ⟨_, rfl⟩
  clear p0 p1 p2 p3 p4 p5 p6 p7 p8 p9 p10 p11 p12 p13 p14 HHE HNE
  obtain ⟨p0, p1, p2, p3, p4, p5, p6, p7, p8, p9, p10, p11, p12, p13, p14⟩ := HO.out w5 H5.out
  go_upto_region 4 with (go_at_call 101; (with_reducible refine (HHV.out _ (h3.out.1.thenNo H5.out)).mono ?_); rintro e w6 ⟨rfl, h6⟩; have H6 := Lib.hid (H5.out.thenNo h6); clear h6)
  clear p0 p1 p2 p3 p4 p5 p6 p7 p8 p9 p10 p11 p12 p13 p14 HHV
  obtain ⟨p0, p1, p2, p3, p4, p5, p6, p7, p8, p9, p10, p11, p12, p13, p14⟩ := HO.out w6 H6.out
  go_cut [6] (fun s6 wx => s6 = .bool pl ∧ Hid (Chg No w3 wx))
  case first =>
    clear HA HCC HVE HKS IH HSH
    have HC := Lib.hid (HEE.out w6 (h3.out.1.thenNo H6.out))
    have HX := Lib.hid (fun W (hW : Chg No w6 W) => HO.out W (H6.out.thenNo hW))
    cases d1 : decide (0 ≤ num)
    · obtain rfl : pl = false := by rw [HPL.out, d1]; rfl
      clear HPL
      go_wp2_with fail
      go_meet
      exact ⟨rfl, H6.out⟩
    cases d2 : decide (num ≤ 1073741824)
    · obtain rfl : pl = false := by rw [HPL.out, d1, d2]; rfl
      clear HPL
      go_wp2_with fail
      go_meet
      exact ⟨rfl, H6.out⟩
    cases bE
    · obtain rfl : pl = false := by rw [HPL.out, d1, d2]; rfl
      clear HPL
      go_wp2_with (go_at_call 102; (with_reducible refine HC.out.mono ?_); rintro e w7 ⟨rfl, h7⟩; have H7 := Lib.hid (H6.out.thenNo h7); clear p0 p1 p2 p3 p4 p5 p6 p7 p8 p9 p10 p11 p12 p13 p14; obtain ⟨p0, p1, p2, p3, p4, p5, p6, p7, p8, p9, p10, p11, p12, p13, p14⟩ := HX.out w7 h7; clear h7)
      go_meet
      exact ⟨rfl, H7.out⟩
    · obtain rfl : pl = nb := by rw [HPL.out, d1, d2]; rfl
      clear HPL
      go_wp2_with (first
        | (go_at_call 102; (with_reducible refine HC.out.mono ?_); rintro e w7 ⟨rfl, h7⟩; have H7 := Lib.hid (H6.out.thenNo h7); clear p0 p1 p2 p3 p4 p5 p6 p7 p8 p9 p10 p11 p12 p13 p14; obtain ⟨p0, p1, p2, p3, p4, p5, p6, p7, p8, p9, p10, p11, p12, p13, p14⟩ := HX.out w7 h7; clear h7)
        | (go_at_call 64; (with_reducible refine (HNM.out _).mono ?_); rintro e w8 ⟨rfl, h8⟩; have H8 := Lib.hid (H7.out.thenNo h8); clear h8))
      go_meet
      exact ⟨rfl, H8.out⟩
  case rest =>
  obtain ⟨rfl, H7⟩ := hcut
  obtain ⟨w7, rfl⟩ : ∃ w7, w7 = wc := ⟨_, rfl⟩
  clear p0 p1 p2 p3 p4 p5 p6 p7 p8 p9 p10 p11 p12 p13 p14 HEE HNM HPL
  obtain ⟨p0, p1, p2, p3, p4, p5, p6, p7, p8, p9, p10, p11, p12, p13, p14⟩ := HO.out w7 H7.out
  go_upto_block 0 with fail
  go_cut [8] (fun s8 wx => s8 = .bool sh ∧ Hid (Chg No w3 wx))
  case first =>
    clear HA HKS IH
    generalize ks.length = kl at *
    have HC := Lib.hid (HCC.out w7 (h3.out.1.thenNo H7.out))
    have HVV := Lib.hid (HVE.out w7 (h3.out.1.thenNo H7.out))
    cases bHC
    rotate_left
    · obtain rfl : sh = false := by rw [HSH.out]; simp [*]
      clear HSH
      go_wp2_with fail
      go_meet
      exact ⟨rfl, H7.out⟩
    cases bHV
    rotate_left
    · obtain rfl : sh = false := by rw [HSH.out]; simp [*]
      clear HSH
      go_wp2_with fail
      go_meet
      exact ⟨rfl, H7.out⟩
    by_cases ck : kl = 0
    rotate_left
    · have fk : ((kl : Int) == 0) = false := beqF (by omega)
      obtain rfl : sh = false := by rw [HSH.out]; simp [*]
      clear HSH
      go_wp2_with fail
      go_meet
      exact ⟨rfl, H7.out⟩
    have fk : ((kl : Int) == 0) = true := beqT (by omega)
    cases pl
    · obtain rfl : sh = false := by rw [HSH.out]; simp [*]
      try clear ck
      clear HSH
      go_wp2_with fail
      go_meet
      exact ⟨rfl, H7.out⟩
    obtain rfl : sh = true := by rw [HSH.out]; simp [*]
    try clear ck
    clear HSH
    go_wp2_with fail
    go_meet
    exact ⟨rfl, H7.out⟩
  case rest =>
  obtain ⟨rfl, hch0⟩ := hcut
  clear p0 p1 p2 p3 p4 p5 p6 p7 p8 p9 p10 p11 p12 p13 p14 HSH HCC HVE
  go_wp2_with fail
  go_loopw [8, 9] (fun s8 s9 wr => ∃ (i : Nat) (q : Bool), s8 = .bool q ∧ s9 = .int .i64 i ∧ i ≤ ks.length ∧ Hid (q = (sh && (ks.take i).all (okA m n k))) ∧ Hid (Chg No w3 wr)) (fun _ s9 _ => ks.length - (intOf s9).toNat)
  case atStart => exact ⟨0, sh, rfl, rfl, Nat.zero_le _, by simp [Hid], hch0.out⟩
  case round =>
    obtain ⟨i, q, rfl, rfl, gi, hq, hch⟩ := hrel
    obtain ⟨p0, p1, p2, p3, p4, p5, p6, p7, p8, p9, p10, p11, p12, p13, p14⟩ := HO.out wr hch.out
    by_cases hlt : i < ks.length
    · have i0 : (0 : Int) ≤ (i : Int) := by omega
      have i1 : (i : Int) < (ks.length : Int) := by omega
      cases q
      · obtain rfl : ans = false := by
          rw [HA.out]
          have h1 := hq.out
          cases hs : sh with
          | false => rfl
          | true =>
            rw [hs, Bool.true_and] at h1
            cases ha : ks.all (okA m n k) with
            | false => rfl
            | true =>
              have : (ks.take i).all (okA m n k) = true := List.all_eq_true.2 fun x hx => List.all_eq_true.1 ha x (List.mem_of_mem_take hx)
              rw [this] at h1; cases h1
        clear hq HA
        go_wp2_with fail
        go_ret
        exact ⟨rfl, h3.out.1.thenNo hch.out⟩
      · obtain ⟨b, o, kd1, ck1, cA1, cel1, cca1, cB1, ckl1, cck1, ek1, en1, es1, eB1, ekl1, eck1, vk1, vn1, vs1, vB1, vkl1, vck1, fd1, nm1, B1, kl1, capk1, rfl, hv1, x0, x1, x2, x3, x4, x5, x6, x7, x8, x9, x10, x11, x12, x13, x14⟩ := assns_someH (HKS.out wr (h3.out.1.thenNo hch.out)) i hlt
        have HC := Lib.hid (IH.out ks[i] _ wr _ hv1)
        have HN : Hid (okA m n k ks[i] = (sh && (ks.take (i + 1)).all (okA m n k))) := by
          unfold Hid
          rw [List.take_succ_eq_append_getElem hlt, List.all_append, ← Bool.and_assoc, ← hq.out]
          simp
        clear hv1 hq
        generalize okA m n k ks[i] = q' at *
        go_wp2_with (go_at_call 66; (with_reducible refine HC.out.mono ?_); rintro e w4 ⟨rfl, h4⟩; have H4 := Lib.hid (hch.out.thenNo h4); clear h4)
        go_roundw
        case rel => exact ⟨i + 1, q', rfl, by go_num, hlt, HN.out, H4.out⟩
        case measure => simp [intOf]; omega
    · obtain rfl : i = ks.length := by omega
      obtain rfl : q = ans := by have := hq.out; rw [List.take_length] at this; rw [this, HA.out]
      clear hq HA
      go_wp2_with fail
      go_ret
      exact ⟨rfl, h3.out.1.thenNo hch.out⟩
set_option maxRecDepth 100000 in
set_option maxHeartbeats 8000000 in
theorem assn15_k3 (m n k : Nat) (IH : Hid (Assn15Ok m n k)) (f : ANode (CT m n) (ET m) (AT m n k)) (hkd : ANode.kind f = 3) (R : Nat → Prop) (w : World) (cs : List Value) (h : (assnV m n (k + 1)) R w cs f) :
    Calls Tryz.prog 66 #[.agg cs.toArray] w fun e w' => e = .returned (.bool (okA m n (k + 1) f)) ∧ Chg No w w' := by
  obtain ⟨ck, cA, cel, cca, cB, ckl, cck, ek, en, es, eB, ekl, eck, vk, vn, vs, vB, vkl, vck, B, capk, rfl, i1, hc, he, hv, hfl, i2, hk⟩ := anode_cells h
  have HHC := Lib.hid (fun W (hW : Chg No w W) => hasC15_any ((condV_good m n).no hc hW))
  have HHE := Lib.hid (fun W (hW : Chg No w W) => hasE15_any ((exprV_good m).no he hW))
  have HHV := Lib.hid (fun W (hW : Chg No w W) => hasE15_any ((exprV_good m).no hv hW))
  have HCC := Lib.hid (fun W (hW : Chg No w W) => cond15_any m n _ _ W _ ((condV_good m n).no hc hW))
  have HEE := Lib.hid (fun W (hW : Chg No w W) => expr15_any m _ _ W _ ((exprV_good m).no he hW))
  have HVE := Lib.hid (fun W (hW : Chg No w W) => expr15_any m _ _ W _ ((exprV_good m).no hv hW))
  have HNM := Lib.hid (fun W => name13_any (w := W) (ANode.field f) hfl)
  have HKS := Lib.hid (fun W (hW : Chg No w W) => hk.no (assnE_good m n k) hW)
  have hb2 := hk.big
  unfold big at hb2
  obtain ⟨ans, hans⟩ : ∃ ans, ans = okA m n (k + 1) f := ⟨_, rfl⟩
  rw [← hans]
  rw [show okA m n (k + 1) f = (aShape (ANode.kind f) (ANode.num f) (ANode.field f) (ANode.kids f).length (okC m n (ANode.c f)) (hasC m n (ANode.c f)) (okE m (ANode.e f)) (hasE m (ANode.e f)) (okE m (ANode.v f)) (hasE m (ANode.v f)) && (ANode.kids f).all (okA m n k)) from rfl] at hans
  have HA := Lib.hid hans
  clear hans h hk hc he hv hfl
  generalize okC m n (ANode.c f) = bC at *
  generalize hasC m n (ANode.c f) = bHC at *
  generalize okE m (ANode.e f) = bE at *
  generalize hasE m (ANode.e f) = bHE at *
  generalize okE m (ANode.v f) = bV at *
  generalize hasE m (ANode.v f) = bHV at *
  generalize ANode.kind f = kd at *
  generalize ANode.field f = fd at *
  generalize ANode.num f = num at *
  generalize ANode.kids f = ks at *
  obtain ⟨sh, hsh⟩ : ∃ sh, sh = aShape kd num fd ks.length bC bHC bE bHE bV bHV := ⟨_, rfl⟩
  rw [← hsh] at HA
  rw [aShape_eq] at hsh
  obtain ⟨nE, hnE⟩ : ∃ nE, nE = nE15 bHE fd num := ⟨_, rfl⟩
  obtain ⟨pl, hpl⟩ : ∃ pl, pl = pl15 num bE fd := ⟨_, rfl⟩
  rw [← hnE, ← hpl] at hsh
  unfold nE15 at hnE
  unfold pl15 at hpl
  generalize nameB fd = nb at *
  have HSH := Lib.hid hsh
  have HNE := Lib.hid hnE
  have HPL := Lib.hid hpl
  clear hsh hnE hpl
  obtain ⟨w3, hw3⟩ : ∃ w3, w3 = w.alloc (.cells #[.int .i64 kd, .int .i64 ck, .slice cA cel cca, .slice cB ckl cck, .int .i64 ek, .int .i64 en, .string es, .slice eB ekl eck, .int .i64 vk, .int .i64 vn, .string vs, .slice vB vkl vck, .string fd, .int .i64 num, .slice B ks.length capk] 30) := ⟨_, rfl⟩
  have h3 : Hid (Chg No w w3 ∧ w3.heap[w.heap.size]? = some (.cells #[.int .i64 kd, .int .i64 ck, .slice cA cel cca, .slice cB ckl cck, .int .i64 ek, .int .i64 en, .string es, .slice eB ekl eck, .int .i64 vk, .int .i64 vn, .string vs, .slice vB vkl vck, .string fd, .int .i64 num, .slice B ks.length capk] 30 (0, 0))) := by
    rw [hw3]; exact ⟨(Chg.refl _ _).alloc _, heap_alloc_new _ _⟩
  have HO := Lib.hid (fun W (hW : Chg No w3 W) => obj_15 (hW.obj h3.out.2 id))
  obtain ⟨p0, p1, p2, p3, p4, p5, p6, p7, p8, p9, p10, p11, p12, p13, p14⟩ := HO.out w3 (Chg.refl _ _)
  subst hkd
  go_enter Tryz.func66, Tryz.ntmps66
  go_upto_region 1 with fail
  rw [← hw3]
  clear hw3
  go_upto_region 2 with (go_at_call 100; (with_reducible refine (HHC.out _ h3.out.1).mono ?_); rintro e w4 ⟨rfl, h4⟩; have H4 := Lib.hid h4; clear h4)
  clear p0 p1 p2 p3 p4 p5 p6 p7 p8 p9 p10 p11 p12 p13 p14 HHC
  obtain ⟨p0, p1, p2, p3, p4, p5, p6, p7, p8, p9, p10, p11, p12, p13, p14⟩ := HO.out w4 H4.out
  go_cut [4] (fun s4 wx => s4 = .bool nE ∧ Hid (Chg No w3 wx))
  case first =>
    clear HA HHV HCC HEE HVE HNM HKS IH HSH HPL
    have HC := Lib.hid (HHE.out w4 (h3.out.1.thenNo H4.out))
    have HX := Lib.hid (fun W (hW : Chg No w4 W) => HO.out W (H4.out.thenNo hW))
    cases bHE
    · by_cases ce : fd.toList.isEmpty = true
      · have f_ce := ce
        by_cases cn : num = 0
        · have f_cn := beqT cn
          obtain rfl : nE = true := by rw [HNE.out]; simp [*]
          clear HNE cn
          go_wp2_with (go_at_call 101; (with_reducible refine HC.out.mono ?_); rintro e w5 ⟨rfl, h5⟩; have H5 := Lib.hid (H4.out.thenNo h5); clear p0 p1 p2 p3 p4 p5 p6 p7 p8 p9 p10 p11 p12 p13 p14; obtain ⟨p0, p1, p2, p3, p4, p5, p6, p7, p8, p9, p10, p11, p12, p13, p14⟩ := HX.out w5 h5; clear h5)
          go_meet
          exact ⟨rfl, H5.out⟩
        · have f_cn := beqF cn
          obtain rfl : nE = false := by rw [HNE.out]; simp [*]
          clear HNE
          go_wp2_with (go_at_call 101; (with_reducible refine HC.out.mono ?_); rintro e w5 ⟨rfl, h5⟩; have H5 := Lib.hid (H4.out.thenNo h5); clear p0 p1 p2 p3 p4 p5 p6 p7 p8 p9 p10 p11 p12 p13 p14; obtain ⟨p0, p1, p2, p3, p4, p5, p6, p7, p8, p9, p10, p11, p12, p13, p14⟩ := HX.out w5 h5; clear h5)
          go_meet
          exact ⟨rfl, H5.out⟩
      · have f_ce := ce
        obtain rfl : nE = false := by rw [HNE.out]; simp [*]
        clear HNE
        go_wp2_with (go_at_call 101; (with_reducible refine HC.out.mono ?_); rintro e w5 ⟨rfl, h5⟩; have H5 := Lib.hid (H4.out.thenNo h5); clear p0 p1 p2 p3 p4 p5 p6 p7 p8 p9 p10 p11 p12 p13 p14; obtain ⟨p0, p1, p2, p3, p4, p5, p6, p7, p8, p9, p10, p11, p12, p13, p14⟩ := HX.out w5 h5; clear h5)
        go_meet
        exact ⟨rfl, H5.out⟩
    · obtain rfl : nE = false := by rw [HNE.out]; simp
      clear HNE
      go_wp2_with (go_at_call 101; (with_reducible refine HC.out.mono ?_); rintro e w5 ⟨rfl, h5⟩; have H5 := Lib.hid (H4.out.thenNo h5); clear p0 p1 p2 p3 p4 p5 p6 p7 p8 p9 p10 p11 p12 p13 p14; obtain ⟨p0, p1, p2, p3, p4, p5, p6, p7, p8, p9, p10, p11, p12, p13, p14⟩ := HX.out w5 h5; clear h5)
      go_meet
      exact ⟨rfl, H5.out⟩
  case rest =>
  obtain ⟨rfl, H5⟩ := hcut
  obtain ⟨w5, rfl⟩ : ∃ w5, w5 = wc := ⟨_, rfl⟩
  clear p0 p1 p2 p3 p4 p5 p6 p7 p8 p9 p10 p11 p12 p13 p14 HHE HNE
  obtain ⟨p0, p1, p2, p3, p4, p5, p6, p7, p8, p9, p10, p11, p12, p13, p14⟩ := HO.out w5 H5.out
  go_upto_region 4 with (go_at_call 101; (with_reducible refine (HHV.out _ (h3.out.1.thenNo H5.out)).mono ?_); rintro e w6 ⟨rfl, h6⟩; have H6 := Lib.hid (H5.out.thenNo h6); clear h6)
  clear p0 p1 p2 p3 p4 p5 p6 p7 p8 p9 p10 p11 p12 p13 p14 HHV
  obtain ⟨p0, p1, p2, p3, p4, p5, p6, p7, p8, p9, p10, p11, p12, p13, p14⟩ := HO.out w6 H6.out
  go_cut [6] (fun s6 wx => s6 = .bool pl ∧ Hid (Chg No w3 wx))
  case first =>
    clear HA HCC HVE HKS IH HSH
    have HC := Lib.hid (HEE.out w6 (h3.out.1.thenNo H6.out))
    have HX := Lib.hid (fun W (hW : Chg No w6 W) => HO.out W (H6.out.thenNo hW))
    cases d1 : decide (0 ≤ num)
    · obtain rfl : pl = false := by rw [HPL.out, d1]; rfl
      clear HPL
      go_wp2_with fail
      go_meet
      exact ⟨rfl, H6.out⟩
    cases d2 : decide (num ≤ 1073741824)
    · obtain rfl : pl = false := by rw [HPL.out, d1, d2]; rfl
      clear HPL
      go_wp2_with fail
      go_meet
      exact ⟨rfl, H6.out⟩
    cases bE
    · obtain rfl : pl = false := by rw [HPL.out, d1, d2]; rfl
      clear HPL
      go_wp2_with (go_at_call 102; (with_reducible refine HC.out.mono ?_); rintro e w7 ⟨rfl, h7⟩; have H7 := Lib.hid (H6.out.thenNo h7); clear p0 p1 p2 p3 p4 p5 p6 p7 p8 p9 p10 p11 p12 p13 p14; obtain ⟨p0, p1, p2, p3, p4, p5, p6, p7, p8, p9, p10, p11, p12, p13, p14⟩ := HX.out w7 h7; clear h7)
      go_meet
      exact ⟨rfl, H7.out⟩
    · obtain rfl : pl = nb := by rw [HPL.out, d1, d2]; rfl
      clear HPL
      go_wp2_with (first
        | (go_at_call 102; (with_reducible refine HC.out.mono ?_); rintro e w7 ⟨rfl, h7⟩; have H7 := Lib.hid (H6.out.thenNo h7); clear p0 p1 p2 p3 p4 p5 p6 p7 p8 p9 p10 p11 p12 p13 p14; obtain ⟨p0, p1, p2, p3, p4, p5, p6, p7, p8, p9, p10, p11, p12, p13, p14⟩ := HX.out w7 h7; clear h7)
        | (go_at_call 64; (with_reducible refine (HNM.out _).mono ?_); rintro e w8 ⟨rfl, h8⟩; have H8 := Lib.hid (H7.out.thenNo h8); clear h8))
      go_meet
      exact ⟨rfl, H8.out⟩
  case rest =>
  obtain ⟨rfl, H7⟩ := hcut
  obtain ⟨w7, rfl⟩ : ∃ w7, w7 = wc := ⟨_, rfl⟩
  clear p0 p1 p2 p3 p4 p5 p6 p7 p8 p9 p10 p11 p12 p13 p14 HEE HNM HPL
  obtain ⟨p0, p1, p2, p3, p4, p5, p6, p7, p8, p9, p10, p11, p12, p13, p14⟩ := HO.out w7 H7.out
  go_upto_block 0 with fail
  go_cut [8] (fun s8 wx => s8 = .bool sh ∧ Hid (Chg No w3 wx))
  case first =>
    clear HA HKS IH
    generalize ks.length = kl at *
    have HC := Lib.hid (HCC.out w7 (h3.out.1.thenNo H7.out))
    have HVV := Lib.hid (HVE.out w7 (h3.out.1.thenNo H7.out))
    cases bHC
    rotate_left
    · obtain rfl : sh = false := by rw [HSH.out]; simp [*]
      clear HSH
      go_wp2_with fail
      go_meet
      exact ⟨rfl, H7.out⟩
    by_cases ck : kl = 0
    rotate_left
    · have fk : ((kl : Int) == 0) = false := beqF (by omega)
      obtain rfl : sh = false := by rw [HSH.out]; simp [*]
      clear HSH
      go_wp2_with fail
      go_meet
      exact ⟨rfl, H7.out⟩
    have fk : ((kl : Int) == 0) = true := beqT (by omega)
    cases pl
    · obtain rfl : sh = false := by rw [HSH.out]; simp [*]
      try clear ck
      clear HSH
      go_wp2_with fail
      go_meet
      exact ⟨rfl, H7.out⟩
    obtain rfl : sh = bV := by rw [HSH.out]; simp [*]
    clear ck
    clear HSH
    go_wp2_with (go_at_call 102; (with_reducible refine HVV.out.mono ?_); rintro e w8 ⟨rfl, h8⟩; have H8 := Lib.hid (H7.out.thenNo h8); clear h8)
    go_meet
    exact ⟨rfl, H8.out⟩
  case rest =>
  obtain ⟨rfl, hch0⟩ := hcut
  clear p0 p1 p2 p3 p4 p5 p6 p7 p8 p9 p10 p11 p12 p13 p14 HSH HCC HVE
  go_wp2_with fail
  go_loopw [8, 9] (fun s8 s9 wr => ∃ (i : Nat) (q : Bool), s8 = .bool q ∧ s9 = .int .i64 i ∧ i ≤ ks.length ∧ Hid (q = (sh && (ks.take i).all (okA m n k))) ∧ Hid (Chg No w3 wr)) (fun _ s9 _ => ks.length - (intOf s9).toNat)
  case atStart => exact ⟨0, sh, rfl, rfl, Nat.zero_le _, by simp [Hid], hch0.out⟩
  case round =>
    obtain ⟨i, q, rfl, rfl, gi, hq, hch⟩ := hrel
    obtain ⟨p0, p1, p2, p3, p4, p5, p6, p7, p8, p9, p10, p11, p12, p13, p14⟩ := HO.out wr hch.out
    by_cases hlt : i < ks.length
    · have i0 : (0 : Int) ≤ (i : Int) := by omega
      have i1 : (i : Int) < (ks.length : Int) := by omega
      cases q
      · obtain rfl : ans = false := by
          rw [HA.out]
          have h1 := hq.out
          cases hs : sh with
          | false => rfl
          | true =>
            rw [hs, Bool.true_and] at h1
            cases ha : ks.all (okA m n k) with
            | false => rfl
            | true =>
              have : (ks.take i).all (okA m n k) = true := List.all_eq_true.2 fun x hx => List.all_eq_true.1 ha x (List.mem_of_mem_take hx)
              rw [this] at h1; cases h1
        clear hq HA
        go_wp2_with fail
        go_ret
        exact ⟨rfl, h3.out.1.thenNo hch.out⟩
      · obtain ⟨b, o, kd1, ck1, cA1, cel1, cca1, cB1, ckl1, cck1, ek1, en1, es1, eB1, ekl1, eck1, vk1, vn1, vs1, vB1, vkl1, vck1, fd1, nm1, B1, kl1, capk1, rfl, hv1, x0, x1, x2, x3, x4, x5, x6, x7, x8, x9, x10, x11, x12, x13, x14⟩ := assns_someH (HKS.out wr (h3.out.1.thenNo hch.out)) i hlt
        have HC := Lib.hid (IH.out ks[i] _ wr _ hv1)
        have HN : Hid (okA m n k ks[i] = (sh && (ks.take (i + 1)).all (okA m n k))) := by
          unfold Hid
          rw [List.take_succ_eq_append_getElem hlt, List.all_append, ← Bool.and_assoc, ← hq.out]
          simp
        clear hv1 hq
        generalize okA m n k ks[i] = q' at *
        go_wp2_with (go_at_call 66; (with_reducible refine HC.out.mono ?_); rintro e w4 ⟨rfl, h4⟩; have H4 := Lib.hid (hch.out.thenNo h4); clear h4)
        go_roundw
        case rel => exact ⟨i + 1, q', rfl, by go_num, hlt, HN.out, H4.out⟩
        case measure => simp [intOf]; omega
    · obtain rfl : i = ks.length := by omega
      obtain rfl : q = ans := by have := hq.out; rw [List.take_length] at this; rw [this, HA.out]
      clear hq HA
      go_wp2_with fail
      go_ret
      exact ⟨rfl, h3.out.1.thenNo hch.out⟩
set_option maxRecDepth 100000 in
set_option maxHeartbeats 8000000 in
theorem assn15_k4 (m n k : Nat) (IH : Hid (Assn15Ok m n k)) (f : ANode (CT m n) (ET m) (AT m n k)) (hkd : ANode.kind f = 4) (R : Nat → Prop) (w : World) (cs : List Value) (h : (assnV m n (k + 1)) R w cs f) :
    Calls Tryz.prog 66 #[.agg cs.toArray] w fun e w' => e = .returned (.bool (okA m n (k + 1) f)) ∧ Chg No w w' := by
  obtain ⟨ck, cA, cel, cca, cB, ckl, cck, ek, en, es, eB, ekl, eck, vk, vn, vs, vB, vkl, vck, B, capk, rfl, i1, hc, he, hv, hfl, i2, hk⟩ := anode_cells h
  have HHC := Lib.hid (fun W (hW : Chg No w W) => hasC15_any ((condV_good m n).no hc hW))
  have HHE := Lib.hid (fun W (hW : Chg No w W) => hasE15_any ((exprV_good m).no he hW))
  have HHV := Lib.hid (fun W (hW : Chg No w W) => hasE15_any ((exprV_good m).no hv hW))
  have HCC := Lib.hid (fun W (hW : Chg No w W) => cond15_any m n _ _ W _ ((condV_good m n).no hc hW))
  have HEE := Lib.hid (fun W (hW : Chg No w W) => expr15_any m _ _ W _ ((exprV_good m).no he hW))
  have HVE := Lib.hid (fun W (hW : Chg No w W) => expr15_any m _ _ W _ ((exprV_good m).no hv hW))
  have HNM := Lib.hid (fun W => name13_any (w := W) (ANode.field f) hfl)
  have HKS := Lib.hid (fun W (hW : Chg No w W) => hk.no (assnE_good m n k) hW)
  have hb2 := hk.big
  unfold big at hb2
  obtain ⟨ans, hans⟩ : ∃ ans, ans = okA m n (k + 1) f := ⟨_, rfl⟩
  rw [← hans]
  rw [show okA m n (k + 1) f = (aShape (ANode.kind f) (ANode.num f) (ANode.field f) (ANode.kids f).length (okC m n (ANode.c f)) (hasC m n (ANode.c f)) (okE m (ANode.e f)) (hasE m (ANode.e f)) (okE m (ANode.v f)) (hasE m (ANode.v f)) && (ANode.kids f).all (okA m n k)) from rfl] at hans
  have HA := Lib.hid hans
  clear hans h hk hc he hv hfl
  generalize okC m n (ANode.c f) = bC at *
  generalize hasC m n (ANode.c f) = bHC at *
  generalize okE m (ANode.e f) = bE at *
  generalize hasE m (ANode.e f) = bHE at *
  generalize okE m (ANode.v f) = bV at *
  generalize hasE m (ANode.v f) = bHV at *
  generalize ANode.kind f = kd at *
  generalize ANode.field f = fd at *
  generalize ANode.num f = num at *
  generalize ANode.kids f = ks at *
  obtain ⟨sh, hsh⟩ : ∃ sh, sh = aShape kd num fd ks.length bC bHC bE bHE bV bHV := ⟨_, rfl⟩
  rw [← hsh] at HA
  rw [aShape_eq] at hsh
  obtain ⟨nE, hnE⟩ : ∃ nE, nE = nE15 bHE fd num := ⟨_, rfl⟩
  obtain ⟨pl, hpl⟩ : ∃ pl, pl = pl15 num bE fd := ⟨_, rfl⟩
  rw [← hnE, ← hpl] at hsh
  unfold nE15 at hnE
  unfold pl15 at hpl
  generalize nameB fd = nb at *
  have HSH := Lib.hid hsh
  have HNE := Lib.hid hnE
  have HPL := Lib.hid hpl
  clear hsh hnE hpl
  obtain ⟨w3, hw3⟩ : ∃ w3, w3 = w.alloc (.cells #[.int .i64 kd, .int .i64 ck, .slice cA cel cca, .slice cB ckl cck, .int .i64 ek, .int .i64 en, .string es, .slice eB ekl eck, .int .i64 vk, .int .i64 vn, .string vs, .slice vB vkl vck, .string fd, .int .i64 num, .slice B ks.length capk] 30) := ⟨_, rfl⟩
  have h3 : Hid (Chg No w w3 ∧ w3.heap[w.heap.size]? = some (.cells #[.int .i64 kd, .int .i64 ck, .slice cA cel cca, .slice cB ckl cck, .int .i64 ek, .int .i64 en, .string es, .slice eB ekl eck, .int .i64 vk, .int .i64 vn, .string vs, .slice vB vkl vck, .string fd, .int .i64 num, .slice B ks.length capk] 30 (0, 0))) := by
    rw [hw3]; exact ⟨(Chg.refl _ _).alloc _, heap_alloc_new _ _⟩
  have HO := Lib.hid (fun W (hW : Chg No w3 W) => obj_15 (hW.obj h3.out.2 id))
  obtain ⟨p0, p1, p2, p3, p4, p5, p6, p7, p8, p9, p10, p11, p12, p13, p14⟩ := HO.out w3 (Chg.refl _ _)
  subst hkd
  go_enter Tryz.func66, Tryz.ntmps66
  go_upto_region 1 with fail
  rw [← hw3]
  clear hw3
  go_upto_region 2 with (go_at_call 100; (with_reducible refine (HHC.out _ h3.out.1).mono ?_); rintro e w4 ⟨rfl, h4⟩; have H4 := Lib.hid h4; clear h4)
  clear p0 p1 p2 p3 p4 p5 p6 p7 p8 p9 p10 p11 p12 p13 p14 HHC
  obtain ⟨p0, p1, p2, p3, p4, p5, p6, p7, p8, p9, p10, p11, p12, p13, p14⟩ := HO.out w4 H4.out
  go_cut [4] (fun s4 wx => s4 = .bool nE ∧ Hid (Chg No w3 wx))
  case first =>
    clear HA HHV HCC HEE HVE HNM HKS IH HSH HPL
    have HC := Lib.hid (HHE.out w4 (h3.out.1.thenNo H4.out))
    have HX := Lib.hid (fun W (hW : Chg No w4 W) => HO.out W (H4.out.thenNo hW))
    cases bHE
    · by_cases ce : fd.toList.isEmpty = true
      · have f_ce := ce
        by_cases cn : num = 0
        · have f_cn := beqT cn
          obtain rfl : nE = true := by rw [HNE.out]; simp [*]
          clear HNE cn
          go_wp2_with (go_at_call 101; (with_reducible refine HC.out.mono ?_); rintro e w5 ⟨rfl, h5⟩; have H5 := Lib.hid (H4.out.thenNo h5); clear p0 p1 p2 p3 p4 p5 p6 p7 p8 p9 p10 p11 p12 p13 p14; obtain ⟨p0, p1, p2, p3, p4, p5, p6, p7, p8, p9, p10, p11, p12, p13, p14⟩ := HX.out w5 h5; clear h5)
          go_meet
          exact ⟨rfl, H5.out⟩
        · have f_cn := beqF cn
          obtain rfl : nE = false := by rw [HNE.out]; simp [*]
          clear HNE
          go_wp2_with (go_at_call 101; (with_reducible refine HC.out.mono ?_); rintro e w5 ⟨rfl, h5⟩; have H5 := Lib.hid (H4.out.thenNo h5); clear p0 p1 p2 p3 p4 p5 p6 p7 p8 p9 p10 p11 p12 p13 p14; obtain ⟨p0, p1, p2, p3, p4, p5, p6, p7, p8, p9, p10, p11, p12, p13, p14⟩ := HX.out w5 h5; clear h5)
          go_meet
          exact ⟨rfl, H5.out⟩
      · have f_ce := ce
        obtain rfl : nE = false := by rw [HNE.out]; simp [*]
        clear HNE
        go_wp2_with (go_at_call 101; (with_reducible refine HC.out.mono ?_); rintro e w5 ⟨rfl, h5⟩; have H5 := Lib.hid (H4.out.thenNo h5); clear p0 p1 p2 p3 p4 p5 p6 p7 p8 p9 p10 p11 p12 p13 p14; obtain ⟨p0, p1, p2, p3, p4, p5, p6, p7, p8, p9, p10, p11, p12, p13, p14⟩ := HX.out w5 h5; clear h5)
        go_meet
        exact ⟨rfl, H5.out⟩
    · obtain rfl : nE = false := by rw [HNE.out]; simp
      clear HNE
      go_wp2_with (go_at_call 101; (with_reducible refine HC.out.mono ?_); rintro e w5 ⟨rfl, h5⟩; have H5 := Lib.hid (H4.out.thenNo h5); clear p0 p1 p2 p3 p4 p5 p6 p7 p8 p9 p10 p11 p12 p13 p14; obtain ⟨p0, p1, p2, p3, p4, p5, p6, p7, p8, p9, p10, p11, p12, p13, p14⟩ := HX.out w5 h5; clear h5)
      go_meet
      exact ⟨rfl, H5.out⟩
  case rest =>
  obtain ⟨rfl, H5⟩ := hcut
  obtain ⟨w5, rfl⟩ : ∃ w5, w5 = wc := ⟨_, rfl⟩
  clear p0 p1 p2 p3 p4 p5 p6 p7 p8 p9 p10 p11 p12 p13 p14 HHE HNE
  obtain ⟨p0, p1, p2, p3, p4, p5, p6, p7, p8, p9, p10, p11, p12, p13, p14⟩ := HO.out w5 H5.out
  go_upto_region 4 with (go_at_call 101; (with_reducible refine (HHV.out _ (h3.out.1.thenNo H5.out)).mono ?_); rintro e w6 ⟨rfl, h6⟩; have H6 := Lib.hid (H5.out.thenNo h6); clear h6)
  clear p0 p1 p2 p3 p4 p5 p6 p7 p8 p9 p10 p11 p12 p13 p14 HHV
  obtain ⟨p0, p1, p2, p3, p4, p5, p6, p7, p8, p9, p10, p11, p12, p13, p14⟩ := HO.out w6 H6.out
  go_cut [6] (fun s6 wx => s6 = .bool pl ∧ Hid (Chg No w3 wx))
  case first =>
    clear HA HCC HVE HKS IH HSH
    have HC := Lib.hid (HEE.out w6 (h3.out.1.thenNo H6.out))
    have HX := Lib.hid (fun W (hW : Chg No w6 W) => HO.out W (H6.out.thenNo hW))
    cases d1 : decide (0 ≤ num)
    · obtain rfl : pl = false := by rw [HPL.out, d1]; rfl
      clear HPL
      go_wp2_with fail
      go_meet
      exact ⟨rfl, H6.out⟩
    cases d2 : decide (num ≤ 1073741824)
    · obtain rfl : pl = false := by rw [HPL.out, d1, d2]; rfl
      clear HPL
      go_wp2_with fail
      go_meet
      exact ⟨rfl, H6.out⟩
    cases bE
    · obtain rfl : pl = false := by rw [HPL.out, d1, d2]; rfl
      clear HPL
      go_wp2_with (go_at_call 102; (with_reducible refine HC.out.mono ?_); rintro e w7 ⟨rfl, h7⟩; have H7 := Lib.hid (H6.out.thenNo h7); clear p0 p1 p2 p3 p4 p5 p6 p7 p8 p9 p10 p11 p12 p13 p14; obtain ⟨p0, p1, p2, p3, p4, p5, p6, p7, p8, p9, p10, p11, p12, p13, p14⟩ := HX.out w7 h7; clear h7)
      go_meet
      exact ⟨rfl, H7.out⟩
    · obtain rfl : pl = nb := by rw [HPL.out, d1, d2]; rfl
      clear HPL
      go_wp2_with (first
        | (go_at_call 102; (with_reducible refine HC.out.mono ?_); rintro e w7 ⟨rfl, h7⟩; have H7 := Lib.hid (H6.out.thenNo h7); clear p0 p1 p2 p3 p4 p5 p6 p7 p8 p9 p10 p11 p12 p13 p14; obtain ⟨p0, p1, p2, p3, p4, p5, p6, p7, p8, p9, p10, p11, p12, p13, p14⟩ := HX.out w7 h7; clear h7)
        | (go_at_call 64; (with_reducible refine (HNM.out _).mono ?_); rintro e w8 ⟨rfl, h8⟩; have H8 := Lib.hid (H7.out.thenNo h8); clear h8))
      go_meet
      exact ⟨rfl, H8.out⟩
  case rest =>
  obtain ⟨rfl, H7⟩ := hcut
  obtain ⟨w7, rfl⟩ : ∃ w7, w7 = wc := ⟨_, rfl⟩
  clear p0 p1 p2 p3 p4 p5 p6 p7 p8 p9 p10 p11 p12 p13 p14 HEE HNM HPL
  obtain ⟨p0, p1, p2, p3, p4, p5, p6, p7, p8, p9, p10, p11, p12, p13, p14⟩ := HO.out w7 H7.out
  go_upto_block 0 with fail
  go_cut [8] (fun s8 wx => s8 = .bool sh ∧ Hid (Chg No w3 wx))
  case first =>
    clear HA HKS IH
    generalize ks.length = kl at *
    have HC := Lib.hid (HCC.out w7 (h3.out.1.thenNo H7.out))
    have HVV := Lib.hid (HVE.out w7 (h3.out.1.thenNo H7.out))
    cases bHC
    rotate_left
    · obtain rfl : sh = false := by rw [HSH.out]; simp [*]
      clear HSH
      go_wp2_with fail
      go_meet
      exact ⟨rfl, H7.out⟩
    cases nE
    · obtain rfl : sh = false := by rw [HSH.out]; simp [*]
      try clear ck
      clear HSH
      go_wp2_with fail
      go_meet
      exact ⟨rfl, H7.out⟩
    cases bHV
    rotate_left
    · obtain rfl : sh = false := by rw [HSH.out]; simp [*]
      clear HSH
      go_wp2_with fail
      go_meet
      exact ⟨rfl, H7.out⟩
    by_cases ck : kl = 2
    rotate_left
    · have fk : ((kl : Int) == 2) = false := beqF (by omega)
      obtain rfl : sh = false := by rw [HSH.out]; simp [*]
      clear HSH
      go_wp2_with fail
      go_meet
      exact ⟨rfl, H7.out⟩
    have fk : ((kl : Int) == 2) = true := beqT (by omega)
    obtain rfl : sh = true := by rw [HSH.out]; simp [*]
    try clear ck
    clear HSH
    go_wp2_with fail
    go_meet
    exact ⟨rfl, H7.out⟩
  case rest =>
  obtain ⟨rfl, hch0⟩ := hcut
  clear p0 p1 p2 p3 p4 p5 p6 p7 p8 p9 p10 p11 p12 p13 p14 HSH HCC HVE
  go_wp2_with fail
  go_loopw [8, 9] (fun s8 s9 wr => ∃ (i : Nat) (q : Bool), s8 = .bool q ∧ s9 = .int .i64 i ∧ i ≤ ks.length ∧ Hid (q = (sh && (ks.take i).all (okA m n k))) ∧ Hid (Chg No w3 wr)) (fun _ s9 _ => ks.length - (intOf s9).toNat)
  case atStart => exact ⟨0, sh, rfl, rfl, Nat.zero_le _, by simp [Hid], hch0.out⟩
  case round =>
    obtain ⟨i, q, rfl, rfl, gi, hq, hch⟩ := hrel
    obtain ⟨p0, p1, p2, p3, p4, p5, p6, p7, p8, p9, p10, p11, p12, p13, p14⟩ := HO.out wr hch.out
    by_cases hlt : i < ks.length
    · have i0 : (0 : Int) ≤ (i : Int) := by omega
      have i1 : (i : Int) < (ks.length : Int) := by omega
      cases q
      · obtain rfl : ans = false := by
          rw [HA.out]
          have h1 := hq.out
          cases hs : sh with
          | false => rfl
          | true =>
            rw [hs, Bool.true_and] at h1
            cases ha : ks.all (okA m n k) with
            | false => rfl
            | true =>
              have : (ks.take i).all (okA m n k) = true := List.all_eq_true.2 fun x hx => List.all_eq_true.1 ha x (List.mem_of_mem_take hx)
              rw [this] at h1; cases h1
        clear hq HA
        go_wp2_with fail
        go_ret
        exact ⟨rfl, h3.out.1.thenNo hch.out⟩
      · obtain ⟨b, o, kd1, ck1, cA1, cel1, cca1, cB1, ckl1, cck1, ek1, en1, es1, eB1, ekl1, eck1, vk1, vn1, vs1, vB1, vkl1, vck1, fd1, nm1, B1, kl1, capk1, rfl, hv1, x0, x1, x2, x3, x4, x5, x6, x7, x8, x9, x10, x11, x12, x13, x14⟩ := assns_someH (HKS.out wr (h3.out.1.thenNo hch.out)) i hlt
        have HC := Lib.hid (IH.out ks[i] _ wr _ hv1)
        have HN : Hid (okA m n k ks[i] = (sh && (ks.take (i + 1)).all (okA m n k))) := by
          unfold Hid
          rw [List.take_succ_eq_append_getElem hlt, List.all_append, ← Bool.and_assoc, ← hq.out]
          simp
        clear hv1 hq
        generalize okA m n k ks[i] = q' at *
        go_wp2_with (go_at_call 66; (with_reducible refine HC.out.mono ?_); rintro e w4 ⟨rfl, h4⟩; have H4 := Lib.hid (hch.out.thenNo h4); clear h4)
        go_roundw
        case rel => exact ⟨i + 1, q', rfl, by go_num, hlt, HN.out, H4.out⟩
        case measure => simp [intOf]; omega
    · obtain rfl : i = ks.length := by omega
      obtain rfl : q = ans := by have := hq.out; rw [List.take_length] at this; rw [this, HA.out]
      clear hq HA
      go_wp2_with fail
      go_ret
      exact ⟨rfl, h3.out.1.thenNo hch.out⟩
set_option maxRecDepth 100000 in
set_option maxHeartbeats 8000000 in
theorem assn15_k5 (m n k : Nat) (IH : Hid (Assn15Ok m n k)) (f : ANode (CT m n) (ET m) (AT m n k)) (hkd : ANode.kind f = 5) (R : Nat → Prop) (w : World) (cs : List Value) (h : (assnV m n (k + 1)) R w cs f) :
    Calls Tryz.prog 66 #[.agg cs.toArray] w fun e w' => e = .returned (.bool (okA m n (k + 1) f)) ∧ Chg No w w' := by
  obtain ⟨ck, cA, cel, cca, cB, ckl, cck, ek, en, es, eB, ekl, eck, vk, vn, vs, vB, vkl, vck, B, capk, rfl, i1, hc, he, hv, hfl, i2, hk⟩ := anode_cells h
  have HHC := Lib.hid (fun W (hW : Chg No w W) => hasC15_any ((condV_good m n).no hc hW))
  have HHE := Lib.hid (fun W (hW : Chg No w W) => hasE15_any ((exprV_good m).no he hW))
  have HHV := Lib.hid (fun W (hW : Chg No w W) => hasE15_any ((exprV_good m).no hv hW))
  have HCC := Lib.hid (fun W (hW : Chg No w W) => cond15_any m n _ _ W _ ((condV_good m n).no hc hW))
  have HEE := Lib.hid (fun W (hW : Chg No w W) => expr15_any m _ _ W _ ((exprV_good m).no he hW))
  have HVE := Lib.hid (fun W (hW : Chg No w W) => expr15_any m _ _ W _ ((exprV_good m).no hv hW))
  have HNM := Lib.hid (fun W => name13_any (w := W) (ANode.field f) hfl)
  have HKS := Lib.hid (fun W (hW : Chg No w W) => hk.no (assnE_good m n k) hW)
  have hb2 := hk.big
  unfold big at hb2
  obtain ⟨ans, hans⟩ : ∃ ans, ans = okA m n (k + 1) f := ⟨_, rfl⟩
  rw [← hans]
  rw [show okA m n (k + 1) f = (aShape (ANode.kind f) (ANode.num f) (ANode.field f) (ANode.kids f).length (okC m n (ANode.c f)) (hasC m n (ANode.c f)) (okE m (ANode.e f)) (hasE m (ANode.e f)) (okE m (ANode.v f)) (hasE m (ANode.v f)) && (ANode.kids f).all (okA m n k)) from rfl] at hans
  have HA := Lib.hid hans
  clear hans h hk hc he hv hfl
  generalize okC m n (ANode.c f) = bC at *
  generalize hasC m n (ANode.c f) = bHC at *
  generalize okE m (ANode.e f) = bE at *
  generalize hasE m (ANode.e f) = bHE at *
  generalize okE m (ANode.v f) = bV at *
  generalize hasE m (ANode.v f) = bHV at *
  generalize ANode.kind f = kd at *
  generalize ANode.field f = fd at *
  generalize ANode.num f = num at *
  generalize ANode.kids f = ks at *
  obtain ⟨sh, hsh⟩ : ∃ sh, sh = aShape kd num fd ks.length bC bHC bE bHE bV bHV := ⟨_, rfl⟩
  rw [← hsh] at HA
  rw [aShape_eq] at hsh
  obtain ⟨nE, hnE⟩ : ∃ nE, nE = nE15 bHE fd num := ⟨_, rfl⟩
  obtain ⟨pl, hpl⟩ : ∃ pl, pl = pl15 num bE fd := ⟨_, rfl⟩
  rw [← hnE, ← hpl] at hsh
  unfold nE15 at hnE
  unfold pl15 at hpl
  generalize nameB fd = nb at *
  have HSH := Lib.hid hsh
  have HNE := Lib.hid hnE
  have HPL := Lib.hid hpl
  clear hsh hnE hpl
  obtain ⟨w3, hw3⟩ : ∃ w3, w3 = w.alloc (.cells #[.int .i64 kd, .int .i64 ck, .slice cA cel cca, .slice cB ckl cck, .int .i64 ek, .int .i64 en, .string es, .slice eB ekl eck, .int .i64 vk, .int .i64 vn, .string vs, .slice vB vkl vck, .string fd, .int .i64 num, .slice B ks.length capk] 30) := ⟨_, rfl⟩
  have h3 : Hid (Chg No w w3 ∧ w3.heap[w.heap.size]? = some (.cells #[.int .i64 kd, .int .i64 ck, .slice cA cel cca, .slice cB ckl cck, .int .i64 ek, .int .i64 en, .string es, .slice eB ekl eck, .int .i64 vk, .int .i64 vn, .string vs, .slice vB vkl vck, .string fd, .int .i64 num, .slice B ks.length capk] 30 (0, 0))) := by
    rw [hw3]; exact ⟨(Chg.refl _ _).alloc _, heap_alloc_new _ _⟩
  have HO := Lib.hid (fun W (hW : Chg No w3 W) => obj_15 (hW.obj h3.out.2 id))
  obtain ⟨p0, p1, p2, p3, p4, p5, p6, p7, p8, p9, p10, p11, p12, p13, p14⟩ := HO.out w3 (Chg.refl _ _)
  subst hkd
  go_enter Tryz.func66, Tryz.ntmps66
  go_upto_region 1 with fail
  rw [← hw3]
  clear hw3
  go_upto_region 2 with (go_at_call 100; (with_reducible refine (HHC.out _ h3.out.1).mono ?_); rintro e w4 ⟨rfl, h4⟩; have H4 := Lib.hid h4; clear h4)
  clear p0 p1 p2 p3 p4 p5 p6 p7 p8 p9 p10 p11 p12 p13 p14 HHC
  obtain ⟨p0, p1, p2, p3, p4, p5, p6, p7, p8, p9, p10, p11, p12, p13, p14⟩ := HO.out w4 H4.out
  go_cut [4] (fun s4 wx => s4 = .bool nE ∧ Hid (Chg No w3 wx))
  case first =>
    clear HA HHV HCC HEE HVE HNM HKS IH HSH HPL
    have HC := Lib.hid (HHE.out w4 (h3.out.1.thenNo H4.out))
    have HX := Lib.hid (fun W (hW : Chg No w4 W) => HO.out W (H4.out.thenNo hW))
    cases bHE
    · by_cases ce : fd.toList.isEmpty = true
      · have f_ce := ce
        by_cases cn : num = 0
        · have f_cn := beqT cn
          obtain rfl : nE = true := by rw [HNE.out]; simp [*]
          clear HNE cn
          go_wp2_with (go_at_call 101; (with_reducible refine HC.out.mono ?_); rintro e w5 ⟨rfl, h5⟩; have H5 := Lib.hid (H4.out.thenNo h5); clear p0 p1 p2 p3 p4 p5 p6 p7 p8 p9 p10 p11 p12 p13 p14; obtain ⟨p0, p1, p2, p3, p4, p5, p6, p7, p8, p9, p10, p11, p12, p13, p14⟩ := HX.out w5 h5; clear h5)
          go_meet
          exact ⟨rfl, H5.out⟩
        · have f_cn := beqF cn
          obtain rfl : nE = false := by rw [HNE.out]; simp [*]
          clear HNE
          go_wp2_with (go_at_call 101; (with_reducible refine HC.out.mono ?_); rintro e w5 ⟨rfl, h5⟩; have H5 := Lib.hid (H4.out.thenNo h5); clear p0 p1 p2 p3 p4 p5 p6 p7 p8 p9 p10 p11 p12 p13 p14; obtain ⟨p0, p1, p2, p3, p4, p5, p6, p7, p8, p9, p10, p11, p12, p13, p14⟩ := HX.out w5 h5; clear h5)
          go_meet
          exact ⟨rfl, H5.out⟩
      · have f_ce := ce
        obtain rfl : nE = false := by rw [HNE.out]; simp [*]
        clear HNE
        go_wp2_with (go_at_call 101; (with_reducible refine HC.out.mono ?_); rintro e w5 ⟨rfl, h5⟩; have H5 := Lib.hid (H4.out.thenNo h5); clear p0 p1 p2 p3 p4 p5 p6 p7 p8 p9 p10 p11 p12 p13 p14; obtain ⟨p0, p1, p2, p3, p4, p5, p6, p7, p8, p9, p10, p11, p12, p13, p14⟩ := HX.out w5 h5; clear h5)
        go_meet
        exact ⟨rfl, H5.out⟩
    · obtain rfl : nE = false := by rw [HNE.out]; simp
      clear HNE
      go_wp2_with (go_at_call 101; (with_reducible refine HC.out.mono ?_); rintro e w5 ⟨rfl, h5⟩; have H5 := Lib.hid (H4.out.thenNo h5); clear p0 p1 p2 p3 p4 p5 p6 p7 p8 p9 p10 p11 p12 p13 p14; obtain ⟨p0, p1, p2, p3, p4, p5, p6, p7, p8, p9, p10, p11, p12, p13, p14⟩ := HX.out w5 h5; clear h5)
      go_meet
      exact ⟨rfl, H5.out⟩
  case rest =>
  obtain ⟨rfl, H5⟩ := hcut
  obtain ⟨w5, rfl⟩ : ∃ w5, w5 = wc := ⟨_, rfl⟩
  clear p0 p1 p2 p3 p4 p5 p6 p7 p8 p9 p10 p11 p12 p13 p14 HHE HNE
  obtain ⟨p0, p1, p2, p3, p4, p5, p6, p7, p8, p9, p10, p11, p12, p13, p14⟩ := HO.out w5 H5.out
  go_upto_region 4 with (go_at_call 101; (with_reducible refine (HHV.out _ (h3.out.1.thenNo H5.out)).mono ?_); rintro e w6 ⟨rfl, h6⟩; have H6 := Lib.hid (H5.out.thenNo h6); clear h6)
  clear p0 p1 p2 p3 p4 p5 p6 p7 p8 p9 p10 p11 p12 p13 p14 HHV
  obtain ⟨p0, p1, p2, p3, p4, p5, p6, p7, p8, p9, p10, p11, p12, p13, p14⟩ := HO.out w6 H6.out
  go_cut [6] (fun s6 wx => s6 = .bool pl ∧ Hid (Chg No w3 wx))
  case first =>
    clear HA HCC HVE HKS IH HSH
    have HC := Lib.hid (HEE.out w6 (h3.out.1.thenNo H6.out))
    have HX := Lib.hid (fun W (hW : Chg No w6 W) => HO.out W (H6.out.thenNo hW))
    cases d1 : decide (0 ≤ num)
    · obtain rfl : pl = false := by rw [HPL.out, d1]; rfl
      clear HPL
      go_wp2_with fail
      go_meet
      exact ⟨rfl, H6.out⟩
    cases d2 : decide (num ≤ 1073741824)
    · obtain rfl : pl = false := by rw [HPL.out, d1, d2]; rfl
      clear HPL
      go_wp2_with fail
      go_meet
      exact ⟨rfl, H6.out⟩
    cases bE
    · obtain rfl : pl = false := by rw [HPL.out, d1, d2]; rfl
      clear HPL
      go_wp2_with (go_at_call 102; (with_reducible refine HC.out.mono ?_); rintro e w7 ⟨rfl, h7⟩; have H7 := Lib.hid (H6.out.thenNo h7); clear p0 p1 p2 p3 p4 p5 p6 p7 p8 p9 p10 p11 p12 p13 p14; obtain ⟨p0, p1, p2, p3, p4, p5, p6, p7, p8, p9, p10, p11, p12, p13, p14⟩ := HX.out w7 h7; clear h7)
      go_meet
      exact ⟨rfl, H7.out⟩
    · obtain rfl : pl = nb := by rw [HPL.out, d1, d2]; rfl
      clear HPL
      go_wp2_with (first
        | (go_at_call 102; (with_reducible refine HC.out.mono ?_); rintro e w7 ⟨rfl, h7⟩; have H7 := Lib.hid (H6.out.thenNo h7); clear p0 p1 p2 p3 p4 p5 p6 p7 p8 p9 p10 p11 p12 p13 p14; obtain ⟨p0, p1, p2, p3, p4, p5, p6, p7, p8, p9, p10, p11, p12, p13, p14⟩ := HX.out w7 h7; clear h7)
        | (go_at_call 64; (with_reducible refine (HNM.out _).mono ?_); rintro e w8 ⟨rfl, h8⟩; have H8 := Lib.hid (H7.out.thenNo h8); clear h8))
      go_meet
      exact ⟨rfl, H8.out⟩
  case rest =>
  obtain ⟨rfl, H7⟩ := hcut
  obtain ⟨w7, rfl⟩ : ∃ w7, w7 = wc := ⟨_, rfl⟩
  clear p0 p1 p2 p3 p4 p5 p6 p7 p8 p9 p10 p11 p12 p13 p14 HEE HNM HPL
  obtain ⟨p0, p1, p2, p3, p4, p5, p6, p7, p8, p9, p10, p11, p12, p13, p14⟩ := HO.out w7 H7.out
  go_upto_block 0 with fail
  go_cut [8] (fun s8 wx => s8 = .bool sh ∧ Hid (Chg No w3 wx))
  case first =>
    clear HA HKS IH
    generalize ks.length = kl at *
    have HC := Lib.hid (HCC.out w7 (h3.out.1.thenNo H7.out))
    have HVV := Lib.hid (HVE.out w7 (h3.out.1.thenNo H7.out))
    cases nE
    · obtain rfl : sh = false := by rw [HSH.out]; simp [*]
      try clear ck
      clear HSH
      go_wp2_with fail
      go_meet
      exact ⟨rfl, H7.out⟩
    cases bHV
    rotate_left
    · obtain rfl : sh = false := by rw [HSH.out]; simp [*]
      clear HSH
      go_wp2_with fail
      go_meet
      exact ⟨rfl, H7.out⟩
    by_cases ck : kl = 2
    rotate_left
    · have fk : ((kl : Int) == 2) = false := beqF (by omega)
      obtain rfl : sh = false := by rw [HSH.out]; simp [*]
      clear HSH
      go_wp2_with fail
      go_meet
      exact ⟨rfl, H7.out⟩
    have fk : ((kl : Int) == 2) = true := beqT (by omega)
    obtain rfl : sh = bC := by rw [HSH.out]; simp [*]
    clear ck
    clear HSH
    go_wp2_with (go_at_call 103; (with_reducible refine HC.out.mono ?_); rintro e w8 ⟨rfl, h8⟩; have H8 := Lib.hid (H7.out.thenNo h8); clear h8)
    go_meet
    exact ⟨rfl, H8.out⟩
  case rest =>
  obtain ⟨rfl, hch0⟩ := hcut
  clear p0 p1 p2 p3 p4 p5 p6 p7 p8 p9 p10 p11 p12 p13 p14 HSH HCC HVE
  go_wp2_with fail
  go_loopw [8, 9] (fun s8 s9 wr => ∃ (i : Nat) (q : Bool), s8 = .bool q ∧ s9 = .int .i64 i ∧ i ≤ ks.length ∧ Hid (q = (sh && (ks.take i).all (okA m n k))) ∧ Hid (Chg No w3 wr)) (fun _ s9 _ => ks.length - (intOf s9).toNat)
  case atStart => exact ⟨0, sh, rfl, rfl, Nat.zero_le _, by simp [Hid], hch0.out⟩
  case round =>
    obtain ⟨i, q, rfl, rfl, gi, hq, hch⟩ := hrel
    obtain ⟨p0, p1, p2, p3, p4, p5, p6, p7, p8, p9, p10, p11, p12, p13, p14⟩ := HO.out wr hch.out
    by_cases hlt : i < ks.length
    · have i0 : (0 : Int) ≤ (i : Int) := by omega
      have i1 : (i : Int) < (ks.length : Int) := by omega
      cases q
      · obtain rfl : ans = false := by
          rw [HA.out]
          have h1 := hq.out
          cases hs : sh with
          | false => rfl
          | true =>
            rw [hs, Bool.true_and] at h1
            cases ha : ks.all (okA m n k) with
            | false => rfl
            | true =>
              have : (ks.take i).all (okA m n k) = true := List.all_eq_true.2 fun x hx => List.all_eq_true.1 ha x (List.mem_of_mem_take hx)
              rw [this] at h1; cases h1
        clear hq HA
        go_wp2_with fail
        go_ret
        exact ⟨rfl, h3.out.1.thenNo hch.out⟩
      · obtain ⟨b, o, kd1, ck1, cA1, cel1, cca1, cB1, ckl1, cck1, ek1, en1, es1, eB1, ekl1, eck1, vk1, vn1, vs1, vB1, vkl1, vck1, fd1, nm1, B1, kl1, capk1, rfl, hv1, x0, x1, x2, x3, x4, x5, x6, x7, x8, x9, x10, x11, x12, x13, x14⟩ := assns_someH (HKS.out wr (h3.out.1.thenNo hch.out)) i hlt
        have HC := Lib.hid (IH.out ks[i] _ wr _ hv1)
        have HN : Hid (okA m n k ks[i] = (sh && (ks.take (i + 1)).all (okA m n k))) := by
          unfold Hid
          rw [List.take_succ_eq_append_getElem hlt, List.all_append, ← Bool.and_assoc, ← hq.out]
          simp
        clear hv1 hq
        generalize okA m n k ks[i] = q' at *
        go_wp2_with (go_at_call 66; (with_reducible refine HC.out.mono ?_); rintro e w4 ⟨rfl, h4⟩; have H4 := Lib.hid (hch.out.thenNo h4); clear h4)
        go_roundw
        case rel => exact ⟨i + 1, q', rfl, by go_num, hlt, HN.out, H4.out⟩
        case measure => simp [intOf]; omega
    · obtain rfl : i = ks.length := by omega
      obtain rfl : q = ans := by have := hq.out; rw [List.take_length] at this; rw [this, HA.out]
      clear hq HA
      go_wp2_with fail
      go_ret
      exact ⟨rfl, h3.out.1.thenNo hch.out⟩
set_option maxRecDepth 100000 in
set_option maxHeartbeats 8000000 in
theorem assn15_else (m n k : Nat) (IH : Hid (Assn15Ok m n k)) (f : ANode (CT m n) (ET m) (AT m n k)) (hk0 : ANode.kind f ≠ 0) (hk1 : ANode.kind f ≠ 1) (hk2 : ANode.kind f ≠ 2) (hk3 : ANode.kind f ≠ 3) (hk4 : ANode.kind f ≠ 4) (hk5 : ANode.kind f ≠ 5) (R : Nat → Prop) (w : World) (cs : List Value) (h : (assnV m n (k + 1)) R w cs f) :
    Calls Tryz.prog 66 #[.agg cs.toArray] w fun e w' => e = .returned (.bool (okA m n (k + 1) f)) ∧ Chg No w w' := by
  obtain ⟨ck, cA, cel, cca, cB, ckl, cck, ek, en, es, eB, ekl, eck, vk, vn, vs, vB, vkl, vck, B, capk, rfl, i1, hc, he, hv, hfl, i2, hk⟩ := anode_cells h
  have HHC := Lib.hid (fun W (hW : Chg No w W) => hasC15_any ((condV_good m n).no hc hW))
  have HHE := Lib.hid (fun W (hW : Chg No w W) => hasE15_any ((exprV_good m).no he hW))
  have HHV := Lib.hid (fun W (hW : Chg No w W) => hasE15_any ((exprV_good m).no hv hW))
  have HCC := Lib.hid (fun W (hW : Chg No w W) => cond15_any m n _ _ W _ ((condV_good m n).no hc hW))
  have HEE := Lib.hid (fun W (hW : Chg No w W) => expr15_any m _ _ W _ ((exprV_good m).no he hW))
  have HVE := Lib.hid (fun W (hW : Chg No w W) => expr15_any m _ _ W _ ((exprV_good m).no hv hW))
  have HNM := Lib.hid (fun W => name13_any (w := W) (ANode.field f) hfl)
  have HKS := Lib.hid (fun W (hW : Chg No w W) => hk.no (assnE_good m n k) hW)
  have hb2 := hk.big
  unfold big at hb2
  obtain ⟨ans, hans⟩ : ∃ ans, ans = okA m n (k + 1) f := ⟨_, rfl⟩
  rw [← hans]
  rw [show okA m n (k + 1) f = (aShape (ANode.kind f) (ANode.num f) (ANode.field f) (ANode.kids f).length (okC m n (ANode.c f)) (hasC m n (ANode.c f)) (okE m (ANode.e f)) (hasE m (ANode.e f)) (okE m (ANode.v f)) (hasE m (ANode.v f)) && (ANode.kids f).all (okA m n k)) from rfl] at hans
  have HA := Lib.hid hans
  clear hans h hk hc he hv hfl
  generalize okC m n (ANode.c f) = bC at *
  generalize hasC m n (ANode.c f) = bHC at *
  generalize okE m (ANode.e f) = bE at *
  generalize hasE m (ANode.e f) = bHE at *
  generalize okE m (ANode.v f) = bV at *
  generalize hasE m (ANode.v f) = bHV at *
  generalize ANode.kind f = kd at *
  have n0 : (kd == 0) = false := beqF hk0
  have n1 : (kd == 1) = false := beqF hk1
  have n2 : (kd == 2) = false := beqF hk2
  have n3 : (kd == 3) = false := beqF hk3
  have n4 : (kd == 4) = false := beqF hk4
  have n5 : (kd == 5) = false := beqF hk5
  generalize ANode.field f = fd at *
  generalize ANode.num f = num at *
  generalize ANode.kids f = ks at *
  obtain ⟨sh, hsh⟩ : ∃ sh, sh = aShape kd num fd ks.length bC bHC bE bHE bV bHV := ⟨_, rfl⟩
  rw [← hsh] at HA
  rw [aShape_eq] at hsh
  obtain ⟨nE, hnE⟩ : ∃ nE, nE = nE15 bHE fd num := ⟨_, rfl⟩
  obtain ⟨pl, hpl⟩ : ∃ pl, pl = pl15 num bE fd := ⟨_, rfl⟩
  rw [← hnE, ← hpl] at hsh
  unfold nE15 at hnE
  unfold pl15 at hpl
  generalize nameB fd = nb at *
  have HSH := Lib.hid hsh
  have HNE := Lib.hid hnE
  have HPL := Lib.hid hpl
  clear hsh hnE hpl
  obtain ⟨w3, hw3⟩ : ∃ w3, w3 = w.alloc (.cells #[.int .i64 kd, .int .i64 ck, .slice cA cel cca, .slice cB ckl cck, .int .i64 ek, .int .i64 en, .string es, .slice eB ekl eck, .int .i64 vk, .int .i64 vn, .string vs, .slice vB vkl vck, .string fd, .int .i64 num, .slice B ks.length capk] 30) := ⟨_, rfl⟩
  have h3 : Hid (Chg No w w3 ∧ w3.heap[w.heap.size]? = some (.cells #[.int .i64 kd, .int .i64 ck, .slice cA cel cca, .slice cB ckl cck, .int .i64 ek, .int .i64 en, .string es, .slice eB ekl eck, .int .i64 vk, .int .i64 vn, .string vs, .slice vB vkl vck, .string fd, .int .i64 num, .slice B ks.length capk] 30 (0, 0))) := by
    rw [hw3]; exact ⟨(Chg.refl _ _).alloc _, heap_alloc_new _ _⟩
  have HO := Lib.hid (fun W (hW : Chg No w3 W) => obj_15 (hW.obj h3.out.2 id))
  obtain ⟨p0, p1, p2, p3, p4, p5, p6, p7, p8, p9, p10, p11, p12, p13, p14⟩ := HO.out w3 (Chg.refl _ _)
  go_enter Tryz.func66, Tryz.ntmps66
  go_upto_region 1 with fail
  rw [← hw3]
  clear hw3
  go_upto_region 2 with (go_at_call 100; (with_reducible refine (HHC.out _ h3.out.1).mono ?_); rintro e w4 ⟨rfl, h4⟩; have H4 := Lib.hid h4; clear h4)
  clear p0 p1 p2 p3 p4 p5 p6 p7 p8 p9 p10 p11 p12 p13 p14 HHC
  obtain ⟨p0, p1, p2, p3, p4, p5, p6, p7, p8, p9, p10, p11, p12, p13, p14⟩ := HO.out w4 H4.out
  go_cut [4] (fun s4 wx => s4 = .bool nE ∧ Hid (Chg No w3 wx))
  case first =>
    clear HA HHV HCC HEE HVE HNM HKS IH HSH HPL
    have HC := Lib.hid (HHE.out w4 (h3.out.1.thenNo H4.out))
    have HX := Lib.hid (fun W (hW : Chg No w4 W) => HO.out W (H4.out.thenNo hW))
    cases bHE
    · by_cases ce : fd.toList.isEmpty = true
      · have f_ce := ce
        by_cases cn : num = 0
        · have f_cn := beqT cn
          obtain rfl : nE = true := by rw [HNE.out]; simp [*]
          clear HNE cn
          go_wp2_with (go_at_call 101; (with_reducible refine HC.out.mono ?_); rintro e w5 ⟨rfl, h5⟩; have H5 := Lib.hid (H4.out.thenNo h5); clear p0 p1 p2 p3 p4 p5 p6 p7 p8 p9 p10 p11 p12 p13 p14; obtain ⟨p0, p1, p2, p3, p4, p5, p6, p7, p8, p9, p10, p11, p12, p13, p14⟩ := HX.out w5 h5; clear h5)
          go_meet
          exact ⟨rfl, H5.out⟩
        · have f_cn := beqF cn
          obtain rfl : nE = false := by rw [HNE.out]; simp [*]
          clear HNE
          go_wp2_with (go_at_call 101; (with_reducible refine HC.out.mono ?_); rintro e w5 ⟨rfl, h5⟩; have H5 := Lib.hid (H4.out.thenNo h5); clear p0 p1 p2 p3 p4 p5 p6 p7 p8 p9 p10 p11 p12 p13 p14; obtain ⟨p0, p1, p2, p3, p4, p5, p6, p7, p8, p9, p10, p11, p12, p13, p14⟩ := HX.out w5 h5; clear h5)
          go_meet
          exact ⟨rfl, H5.out⟩
      · have f_ce := ce
        obtain rfl : nE = false := by rw [HNE.out]; simp [*]
        clear HNE
        go_wp2_with (go_at_call 101; (with_reducible refine HC.out.mono ?_); rintro e w5 ⟨rfl, h5⟩; have H5 := Lib.hid (H4.out.thenNo h5); clear p0 p1 p2 p3 p4 p5 p6 p7 p8 p9 p10 p11 p12 p13 p14; obtain ⟨p0, p1, p2, p3, p4, p5, p6, p7, p8, p9, p10, p11, p12, p13, p14⟩ := HX.out w5 h5; clear h5)
        go_meet
        exact ⟨rfl, H5.out⟩
    · obtain rfl : nE = false := by rw [HNE.out]; simp
      clear HNE
      go_wp2_with (go_at_call 101; (with_reducible refine HC.out.mono ?_); rintro e w5 ⟨rfl, h5⟩; have H5 := Lib.hid (H4.out.thenNo h5); clear p0 p1 p2 p3 p4 p5 p6 p7 p8 p9 p10 p11 p12 p13 p14; obtain ⟨p0, p1, p2, p3, p4, p5, p6, p7, p8, p9, p10, p11, p12, p13, p14⟩ := HX.out w5 h5; clear h5)
      go_meet
      exact ⟨rfl, H5.out⟩
  case rest =>
  obtain ⟨rfl, H5⟩ := hcut
  obtain ⟨w5, rfl⟩ : ∃ w5, w5 = wc := ⟨_, rfl⟩
  clear p0 p1 p2 p3 p4 p5 p6 p7 p8 p9 p10 p11 p12 p13 p14 HHE HNE
  obtain ⟨p0, p1, p2, p3, p4, p5, p6, p7, p8, p9, p10, p11, p12, p13, p14⟩ := HO.out w5 H5.out
  go_upto_region 4 with (go_at_call 101; (with_reducible refine (HHV.out _ (h3.out.1.thenNo H5.out)).mono ?_); rintro e w6 ⟨rfl, h6⟩; have H6 := Lib.hid (H5.out.thenNo h6); clear h6)
  clear p0 p1 p2 p3 p4 p5 p6 p7 p8 p9 p10 p11 p12 p13 p14 HHV
  obtain ⟨p0, p1, p2, p3, p4, p5, p6, p7, p8, p9, p10, p11, p12, p13, p14⟩ := HO.out w6 H6.out
  go_cut [6] (fun s6 wx => s6 = .bool pl ∧ Hid (Chg No w3 wx))
  case first =>
    clear HA HCC HVE HKS IH HSH
    have HC := Lib.hid (HEE.out w6 (h3.out.1.thenNo H6.out))
    have HX := Lib.hid (fun W (hW : Chg No w6 W) => HO.out W (H6.out.thenNo hW))
    cases d1 : decide (0 ≤ num)
    · obtain rfl : pl = false := by rw [HPL.out, d1]; rfl
      clear HPL
      go_wp2_with fail
      go_meet
      exact ⟨rfl, H6.out⟩
    cases d2 : decide (num ≤ 1073741824)
    · obtain rfl : pl = false := by rw [HPL.out, d1, d2]; rfl
      clear HPL
      go_wp2_with fail
      go_meet
      exact ⟨rfl, H6.out⟩
    cases bE
    · obtain rfl : pl = false := by rw [HPL.out, d1, d2]; rfl
      clear HPL
      go_wp2_with (go_at_call 102; (with_reducible refine HC.out.mono ?_); rintro e w7 ⟨rfl, h7⟩; have H7 := Lib.hid (H6.out.thenNo h7); clear p0 p1 p2 p3 p4 p5 p6 p7 p8 p9 p10 p11 p12 p13 p14; obtain ⟨p0, p1, p2, p3, p4, p5, p6, p7, p8, p9, p10, p11, p12, p13, p14⟩ := HX.out w7 h7; clear h7)
      go_meet
      exact ⟨rfl, H7.out⟩
    · obtain rfl : pl = nb := by rw [HPL.out, d1, d2]; rfl
      clear HPL
      go_wp2_with (first
        | (go_at_call 102; (with_reducible refine HC.out.mono ?_); rintro e w7 ⟨rfl, h7⟩; have H7 := Lib.hid (H6.out.thenNo h7); clear p0 p1 p2 p3 p4 p5 p6 p7 p8 p9 p10 p11 p12 p13 p14; obtain ⟨p0, p1, p2, p3, p4, p5, p6, p7, p8, p9, p10, p11, p12, p13, p14⟩ := HX.out w7 h7; clear h7)
        | (go_at_call 64; (with_reducible refine (HNM.out _).mono ?_); rintro e w8 ⟨rfl, h8⟩; have H8 := Lib.hid (H7.out.thenNo h8); clear h8))
      go_meet
      exact ⟨rfl, H8.out⟩
  case rest =>
  obtain ⟨rfl, H7⟩ := hcut
  obtain ⟨w7, rfl⟩ : ∃ w7, w7 = wc := ⟨_, rfl⟩
  clear p0 p1 p2 p3 p4 p5 p6 p7 p8 p9 p10 p11 p12 p13 p14 HEE HNM HPL
  obtain ⟨p0, p1, p2, p3, p4, p5, p6, p7, p8, p9, p10, p11, p12, p13, p14⟩ := HO.out w7 H7.out
  go_upto_block 0 with fail
  go_cut [8] (fun s8 wx => s8 = .bool sh ∧ Hid (Chg No w3 wx))
  case first =>
    clear HA HKS IH
    generalize ks.length = kl at *
    have HC := Lib.hid (HCC.out w7 (h3.out.1.thenNo H7.out))
    have HVV := Lib.hid (HVE.out w7 (h3.out.1.thenNo H7.out))
    obtain rfl : sh = false := by rw [HSH.out]; simp [*]
    clear HSH hk0 hk1 hk2 hk3 hk4 hk5
    go_wp2_with fail
    go_meet
    exact ⟨rfl, H7.out⟩
  case rest =>
  obtain ⟨rfl, hch0⟩ := hcut
  clear p0 p1 p2 p3 p4 p5 p6 p7 p8 p9 p10 p11 p12 p13 p14 HSH HCC HVE
  go_wp2_with fail
  go_loopw [8, 9] (fun s8 s9 wr => ∃ (i : Nat) (q : Bool), s8 = .bool q ∧ s9 = .int .i64 i ∧ i ≤ ks.length ∧ Hid (q = (sh && (ks.take i).all (okA m n k))) ∧ Hid (Chg No w3 wr)) (fun _ s9 _ => ks.length - (intOf s9).toNat)
  case atStart => exact ⟨0, sh, rfl, rfl, Nat.zero_le _, by simp [Hid], hch0.out⟩
  case round =>
    obtain ⟨i, q, rfl, rfl, gi, hq, hch⟩ := hrel
    obtain ⟨p0, p1, p2, p3, p4, p5, p6, p7, p8, p9, p10, p11, p12, p13, p14⟩ := HO.out wr hch.out
    by_cases hlt : i < ks.length
    · have i0 : (0 : Int) ≤ (i : Int) := by omega
      have i1 : (i : Int) < (ks.length : Int) := by omega
      cases q
      · obtain rfl : ans = false := by
          rw [HA.out]
          have h1 := hq.out
          cases hs : sh with
          | false => rfl
          | true =>
            rw [hs, Bool.true_and] at h1
            cases ha : ks.all (okA m n k) with
            | false => rfl
            | true =>
              have : (ks.take i).all (okA m n k) = true := List.all_eq_true.2 fun x hx => List.all_eq_true.1 ha x (List.mem_of_mem_take hx)
              rw [this] at h1; cases h1
        clear hq HA
        go_wp2_with fail
        go_ret
        exact ⟨rfl, h3.out.1.thenNo hch.out⟩
      · obtain ⟨b, o, kd1, ck1, cA1, cel1, cca1, cB1, ckl1, cck1, ek1, en1, es1, eB1, ekl1, eck1, vk1, vn1, vs1, vB1, vkl1, vck1, fd1, nm1, B1, kl1, capk1, rfl, hv1, x0, x1, x2, x3, x4, x5, x6, x7, x8, x9, x10, x11, x12, x13, x14⟩ := assns_someH (HKS.out wr (h3.out.1.thenNo hch.out)) i hlt
        have HC := Lib.hid (IH.out ks[i] _ wr _ hv1)
        have HN : Hid (okA m n k ks[i] = (sh && (ks.take (i + 1)).all (okA m n k))) := by
          unfold Hid
          rw [List.take_succ_eq_append_getElem hlt, List.all_append, ← Bool.and_assoc, ← hq.out]
          simp
        clear hv1 hq
        generalize okA m n k ks[i] = q' at *
        go_wp2_with (go_at_call 66; (with_reducible refine HC.out.mono ?_); rintro e w4 ⟨rfl, h4⟩; have H4 := Lib.hid (hch.out.thenNo h4); clear h4)
        go_roundw
        case rel => exact ⟨i + 1, q', rfl, by go_num, hlt, HN.out, H4.out⟩
        case measure => simp [intOf]; omega
    · obtain rfl : i = ks.length := by omega
      obtain rfl : q = ans := by have := hq.out; rw [List.take_length] at this; rw [this, HA.out]
      clear hq HA
      go_wp2_with fail
      go_ret
      exact ⟨rfl, h3.out.1.thenNo hch.out⟩
theorem assn15_walk (m n k : Nat) (IH : Hid (Assn15Ok m n k)) : Assn15Ok m n (k + 1) := by
  intro f R w cs h
  by_cases h0 : ANode.kind f = 0
  · exact assn15_k0 m n k IH f h0 R w cs h
  by_cases h1 : ANode.kind f = 1
  · exact assn15_k1 m n k IH f h1 R w cs h
  by_cases h2 : ANode.kind f = 2
  · exact assn15_k2 m n k IH f h2 R w cs h
  by_cases h3 : ANode.kind f = 3
  · exact assn15_k3 m n k IH f h3 R w cs h
  by_cases h4 : ANode.kind f = 4
  · exact assn15_k4 m n k IH f h4 R w cs h
  by_cases h5 : ANode.kind f = 5
  · exact assn15_k5 m n k IH f h5 R w cs h
  exact assn15_else m n k IH f h0 h1 h2 h3 h4 h5 R w cs h
theorem assn15_any (m n : Nat) : ∀ k, Assn15Ok m n k
  | 0 => fun _ _ _ _ h => h.elim
  | k + 1 => assn15_walk m n k (Lib.hid (assn15_any m n k))
end Go.Proofs.YtgofncopoieigaaGreatDoor
