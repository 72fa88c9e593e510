/-
  Chapter 18: HoldsAssns walked.
-/
import Derived.Test.YtgofncopoieigaaGreatDoorHmK
import Derived.Test.YtgofncopoieigaaGreatDoorHlI
namespace Go.Proofs.YtgofncopoieigaaGreatDoor
open Go Go.RowKit

theorem footR_facts (l : List Vr) (m n k : Nat) (x : AT m n k) : 0 ≤ (footR l m n k x).2 ∧ (footR l m n k x).2 ≤ 16 ∧ (footR l m n k x).1.length ≤ lvA m n k x := by
  unfold footR
  split
  · rename_i hf
    unfold fineA at hf
    rw [Bool.and_eq_true] at hf
    split
    · exact ⟨by show (0 : Int) ≤ 3; decide, by show (3 : Int) ≤ 16; decide, Nat.zero_le _⟩
    · exact ⟨by show (0 : Int) ≤ 0; decide, by show (0 : Int) ≤ 16; decide, wkH_len l [] m n k x hf.2⟩
  · exact ⟨by show (0 : Int) ≤ 5; decide, by show (5 : Int) ≤ 16; decide, Nat.zero_le _⟩
theorem holdsR_facts (l : List Vr) (h : List Tri) (m n k : Nat) (x : AT m n k) : 0 ≤ (holdsR l h m n k x).2 ∧ (holdsR l h m n k x).2 ≤ 16 := by
  unfold holdsR
  split
  · split
    · exact ⟨by show (0 : Int) ≤ 3; decide, by show (3 : Int) ≤ 16; decide⟩
    · exact ⟨by show (0 : Int) ≤ 0; decide, by show (0 : Int) ≤ 16; decide⟩
  · exact ⟨by show (0 : Int) ≤ 5; decide, by show (5 : Int) ≤ 16; decide⟩
theorem sameShares_eq {R R' : Nat → Prop} {w : World} {A A' : Option Addr} {xs : List Tri} {cap cap' : Nat} (hx : Tris R w A xs cap) (hy : Tris R' w A' xs cap') :
    Calls Tryz.prog 12 #[.slice A xs.length cap, .slice A' xs.length cap'] w fun e w' => e = .returned (.bool true) ∧ Chg No w w' := by
  have h := sameShare_any hx hy
  rwa [show decide (xs = xs) = true by simp] at h

set_option maxRecDepth 100000 in
set_option maxHeartbeats 8000000 in
theorem holdsAssns_walk {R Rs Rh : Nat → Prop} {w : World} (hK : Keys w) {m n k : Nat} {x : AT m n k} {cs : List Value} (hx : (assnV m n k) R w cs x) {A : Option Addr} {l : List Vr} {cap : Nat} (hl : Vars Rs w A l cap) {Ah : Option Addr} {h : List Tri} {hcap : Nat} (hh : Tris Rh w Ah h hcap) :
    Calls Tryz.prog 3 #[.agg cs.toArray, .slice A l.length cap, .slice Ah h.length hcap] w fun e w' => e = .returned (.bool true) ∧ Chg No w w' := by
  have hb1 := hl.big
  have hb2 := hh.big
  unfold big at hb1 hb2
  have HU := Lib.hid (fun W (hW : Chg No w W) => up18_any (hK.no hW))
  have HSM := Lib.hid (fun W (hW : Chg No w W) => smallA_any ((assnV_good m n k).no hx hW))
  have HF := Lib.hid (fun (hv : lvA m n k x ≤ 300) W (hW : Chg No w W) => foot_any (hK.no hW) ((assnV_good m n k).no hx hW) (by omega) (hl.no varE_good hW))
  have HH := Lib.hid (fun (hv : lvA m n k x ≤ 300) W (hW : Chg No w W) => holds_any (hK.no hW) ((assnV_good m n k).no hx hW) (by omega) (hl.no varE_good hW) (hh.no triE_good hW))
  have HRF := Lib.hid (fun (hv : lvA m n k x ≤ 300) W (hW : Chg No w W) => refFoot18_any ((assnV_good m n k).no hx hW) (by omega) (hl.no varE_good hW))
  have HRH := Lib.hid (fun (hv : lvA m n k x ≤ 300) W (hW : Chg No w W) => refHolds18_any ((assnV_good m n k).no hx hW) (by omega) (hl.no varE_good hW) (hh.no triE_good hW))
  obtain ⟨f1, f2, f3⟩ := footR_facts l m n k x
  obtain ⟨f4, f5⟩ := holdsR_facts l h m n k x
  have HLN := Lib.hid f3
  obtain ⟨kd, ck, cA, cel, cca, cB, ckl, cck, ek, en, es, eB, ekl, eck, vk, vn, vs, vB, vkl, vck, fd, nm, B, kl, capk, rfl⟩ := assn_shape hx
  obtain ⟨w3, hw3⟩ : ∃ w3, w3 = w.alloc (.cells #[.int .i64 kd, .int .i64 ck, .slice cA cel cca, .slice cB ckl cck, .int .i64 ek, .int .i64 en, .string es, .slice eB ekl eck, .int .i64 vk, .int .i64 vn, .string vs, .slice vB vkl vck, .string fd, .int .i64 nm, .slice B kl capk] 30) := ⟨_, rfl⟩
  have h3 : Hid (Chg No w w3 ∧ w3.heap[w.heap.size]? = some (.cells #[.int .i64 kd, .int .i64 ck, .slice cA cel cca, .slice cB ckl cck, .int .i64 ek, .int .i64 en, .string es, .slice eB ekl eck, .int .i64 vk, .int .i64 vn, .string vs, .slice vB vkl vck, .string fd, .int .i64 nm, .slice B kl capk] 30 (0, 0))) := by
    rw [hw3]; exact ⟨(Chg.refl _ _).alloc _, heap_alloc_new _ _⟩
  have HO := Lib.hid (fun W (hW : Chg No w3 W) => obj_15 (hW.obj h3.out.2 id))
  clear hx hK hl hh f3
  unfold FootRet at HF
  unfold FootRetI at HRF
  generalize lvA m n k x = lv at *
  generalize holdsR l h m n k x = hr at *
  generalize footR l m n k x = fr at *
  obtain ⟨hv, hc⟩ := hr
  obtain ⟨s, fc⟩ := fr
  try simp only at HF HH HRF HRH HLN f1 f2 f4 f5
  have HC1 := Lib.hid (fun W => code_any W fc f1 f2)
  have HC2 := Lib.hid (fun W => code_any W hc f4 f5)
  clear f1 f2 f4 f5
  generalize errV 70 fc = E1 at *
  generalize errV 70 hc = E2 at *
  go_enter Tryz.func3, Tryz.ntmps3
  go_upto_region 1 with fail
  rw [← hw3]
  clear hw3
  go_upto_region 2 with (go_at_call 6; (with_reducible refine (HU.out _ h3.out.1).mono ?_); rintro e w4 ⟨rfl, h4⟩; have H4 := Lib.hid h4; clear h4)
  obtain ⟨p0, p1, p2, p3, p4, p5, p6, p7, p8, p9, p10, p11, p12, p13, p14⟩ := HO.out w4 H4.out
  go_upto_region 3 with (go_at_call 7; (with_reducible refine (HSM.out _ (h3.out.1.thenNo H4.out)).mono ?_); rintro e w5 ⟨q, rfl, hq, h5⟩; have H5 := Lib.hid (H4.out.thenNo h5); have HQ := Lib.hid hq; clear h5 hq)
  clear p0 p1 p2 p3 p4 p5 p6 p7 p8 p9 p10 p11 p12 p13 p14
  cases q
  · go_wp2_with fail
    go_ret
    exact ⟨rfl, h3.out.1.thenNo H5.out⟩
  have hlv : lv ≤ 300 := HQ.out rfl
  by_cases hb3 : 200 < l.length
  · have d1 : decide ((200 : Int) < (l.length : Int)) = true := decide_eq_true (by omega)
    go_wp2_with fail
    go_ret
    exact ⟨rfl, h3.out.1.thenNo H5.out⟩
  have d1 : decide ((200 : Int) < (l.length : Int)) = false := decide_eq_false (by omega)
  by_cases hb4 : 200 < h.length
  · have d2 : decide ((200 : Int) < (h.length : Int)) = true := decide_eq_true (by omega)
    go_wp2_with fail
    go_ret
    exact ⟨rfl, h3.out.1.thenNo H5.out⟩
  have d2 : decide ((200 : Int) < (h.length : Int)) = false := decide_eq_false (by omega)
  have hsl : s.length ≤ 300 := Nat.le_trans HLN.out hlv
  have hsb : s.length * 32 ≤ big := by unfold big; omega
  have HF1 := Lib.hid (HF.out hlv _ (h3.out.1.thenNo H5.out))
  obtain ⟨p0, p1, p2, p3, p4, p5, p6, p7, p8, p9, p10, p11, p12, p13, p14⟩ := HO.out w5 H5.out
  go_upto_region 6 with (go_at_call 8; (with_reducible refine HF1.out.mono ?_); rintro e w6 ⟨A6, c6, rfl, s6, h6⟩; have H6 := Lib.hid (H5.out.thenNo h6); have S6 := Lib.hid (OTris.tris s6 hsb); clear h6 s6)
  clear p0 p1 p2 p3 p4 p5 p6 p7 p8 p9 p10 p11 p12 p13 p14
  obtain ⟨p0, p1, p2, p3, p4, p5, p6, p7, p8, p9, p10, p11, p12, p13, p14⟩ := HO.out w6 H6.out
  have HH1 := Lib.hid (HH.out hlv w6 (h3.out.1.thenNo H6.out))
  go_upto_region 7 with (go_at_call 9; (with_reducible refine HH1.out.mono ?_); rintro e w7 ⟨rfl, h7⟩; have H7 := Lib.hid (H6.out.thenNo h7); have S7 := Lib.hid (S6.out.no triE_good h7); clear h7)
  clear p0 p1 p2 p3 p4 p5 p6 p7 p8 p9 p10 p11 p12 p13 p14
  obtain ⟨p0, p1, p2, p3, p4, p5, p6, p7, p8, p9, p10, p11, p12, p13, p14⟩ := HO.out w7 H7.out
  have HF2 := Lib.hid (HRF.out hlv _ (h3.out.1.thenNo H7.out))
  go_upto_region 8 with (go_at_call 10; (with_reducible refine HF2.out.mono ?_); rintro e w8 ⟨A8, c8, rfl, s8, h8⟩; have H8 := Lib.hid (H7.out.thenNo h8); have S8 := Lib.hid (OTris.tris s8 hsb); have S78 := Lib.hid (S7.out.no triE_good h8); clear h8 s8)
  clear p0 p1 p2 p3 p4 p5 p6 p7 p8 p9 p10 p11 p12 p13 p14
  obtain ⟨p0, p1, p2, p3, p4, p5, p6, p7, p8, p9, p10, p11, p12, p13, p14⟩ := HO.out w8 H8.out
  have HH2 := Lib.hid (HRH.out hlv w8 (h3.out.1.thenNo H8.out))
  go_upto_region 9 with (go_at_call 11; (with_reducible refine HH2.out.mono ?_); rintro e w9 ⟨rfl, h9⟩; have H9 := Lib.hid (H8.out.thenNo h9); have SS := Lib.hid (sameShares_eq (S78.out.no triE_good h9) (S8.out.no triE_good h9)); clear h9)
  clear p0 p1 p2 p3 p4 p5 p6 p7 p8 p9 p10 p11 p12 p13 p14
  go_wp2_with (first
    | (go_at_call 12; (with_reducible refine SS.out.mono ?_); rintro e w10 ⟨rfl, h10⟩; have H10 := Lib.hid (h3.out.1.thenNo (H9.out.thenNo h10)); clear h10)
    | (go_at_call 13; (with_reducible refine (HC1.out _).mono ?_); rintro e w11 ⟨rfl, rfl⟩)
    | (go_at_call 13; (with_reducible refine (HC2.out _).mono ?_); rintro e w12 ⟨rfl, rfl⟩))
  go_ret
  exact ⟨by simp, H10.out⟩
end Go.Proofs.YtgofncopoieigaaGreatDoor
