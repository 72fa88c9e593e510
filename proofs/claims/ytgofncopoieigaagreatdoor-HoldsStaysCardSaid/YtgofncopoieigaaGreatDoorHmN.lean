/-
  HmL, HmM, in one file.
-/
import Derived.Test.YtgofncopoieigaaGreatDoorHmK
import Derived.Test.YtgofncopoieigaaGreatDoorHlI
import Derived.Test.YtgofncopoieigaaGreatDoorMP
/- HmL -/
namespace Go.Proofs.YtgofncopoieigaaGreatDoor
open Go Go.RowKit

theorem footR_facts (l : List Vr) (m n k : Nat) (x : AT m n k) : 0 ≤ (footR l m n k x).2 ∧ (footR l m n k x).2 ≤ 16 ∧ (footR l m n k x).1.length ≤ lvA m n k x := by
  unfold footR
  split
  · rename_i hf
    unfold fineA at hf
    rw [Bool.and_eq_true] at hf
    split
    · exact ⟨by show (0 : Int) ≤ 3; decide, by show (3 : Int) ≤ 16; decide, Nat.zero_le _⟩
    · exact ⟨by show (0 : Int) ≤ 0; decide, by show (0 : Int) ≤ 16; decide, wkH_len l [] m n k x hf.2⟩
  · exact ⟨by show (0 : Int) ≤ 5; decide, by show (5 : Int) ≤ 16; decide, Nat.zero_le _⟩
theorem holdsR_facts (l : List Vr) (h : List Tri) (m n k : Nat) (x : AT m n k) : 0 ≤ (holdsR l h m n k x).2 ∧ (holdsR l h m n k x).2 ≤ 16 := by
  unfold holdsR
  split
  · split
    · exact ⟨by show (0 : Int) ≤ 3; decide, by show (3 : Int) ≤ 16; decide⟩
    · exact ⟨by show (0 : Int) ≤ 0; decide, by show (0 : Int) ≤ 16; decide⟩
  · exact ⟨by show (0 : Int) ≤ 5; decide, by show (5 : Int) ≤ 16; decide⟩
theorem sameShares_eq {R R' : Nat → Prop} {w : World} {A A' : Option Addr} {xs : List Tri} {cap cap' : Nat} (hx : Tris R w A xs cap) (hy : Tris R' w A' xs cap') :
    Calls Tryz.prog 12 #[.slice A xs.length cap, .slice A' xs.length cap'] w fun e w' => e = .returned (.bool true) ∧ Chg No w w' := by
  have h := sameShare_any hx hy
  rwa [show decide (xs = xs) = true by simp] at h

set_option maxRecDepth 100000 in
set_option maxHeartbeats 8000000 in
theorem holdsAssns_walk {R Rs Rh : Nat → Prop} {w : World} (hK : Keys w) {m n k : Nat} {x : AT m n k} {cs : List Value} (hx : (assnV m n k) R w cs x) {A : Option Addr} {l : List Vr} {cap : Nat} (hl : Vars Rs w A l cap) {Ah : Option Addr} {h : List Tri} {hcap : Nat} (hh : Tris Rh w Ah h hcap) :
    Calls Tryz.prog 3 #[.agg cs.toArray, .slice A l.length cap, .slice Ah h.length hcap] w fun e w' => e = .returned (.bool true) ∧ Chg No w w' := by
  have hb1 := hl.big
  have hb2 := hh.big
  unfold big at hb1 hb2
  have HU := Lib.hid (fun W (hW : Chg No w W) => up18_any (hK.no hW))
  have HSM := Lib.hid (fun W (hW : Chg No w W) => smallA_any ((assnV_good m n k).no hx hW))
  have HF := Lib.hid (fun (hv : lvA m n k x ≤ 300) W (hW : Chg No w W) => foot_any (hK.no hW) ((assnV_good m n k).no hx hW) (by omega) (hl.no varE_good hW))
  have HH := Lib.hid (fun (hv : lvA m n k x ≤ 300) W (hW : Chg No w W) => holds_any (hK.no hW) ((assnV_good m n k).no hx hW) (by omega) (hl.no varE_good hW) (hh.no triE_good hW))
  have HRF := Lib.hid (fun (hv : lvA m n k x ≤ 300) W (hW : Chg No w W) => refFoot18_any ((assnV_good m n k).no hx hW) (by omega) (hl.no varE_good hW))
  have HRH := Lib.hid (fun (hv : lvA m n k x ≤ 300) W (hW : Chg No w W) => refHolds18_any ((assnV_good m n k).no hx hW) (by omega) (hl.no varE_good hW) (hh.no triE_good hW))
  obtain ⟨f1, f2, f3⟩ := footR_facts l m n k x
  obtain ⟨f4, f5⟩ := holdsR_facts l h m n k x
  have HLN := Lib.hid f3
  obtain ⟨kd, ck, cA, cel, cca, cB, ckl, cck, ek, en, es, eB, ekl, eck, vk, vn, vs, vB, vkl, vck, fd, nm, B, kl, capk, rfl⟩ := assn_shape hx
  obtain ⟨w3, hw3⟩ : ∃ w3, w3 = w.alloc (.cells #[.int .i64 kd, .int .i64 ck, .slice cA cel cca, .slice cB ckl cck, .int .i64 ek, .int .i64 en, .string es, .slice eB ekl eck, .int .i64 vk, .int .i64 vn, .string vs, .slice vB vkl vck, .string fd, .int .i64 nm, .slice B kl capk] 30) := ⟨_, rfl⟩
  have h3 : Hid (Chg No w w3 ∧ w3.heap[w.heap.size]? = some (.cells #[.int .i64 kd, .int .i64 ck, .slice cA cel cca, .slice cB ckl cck, .int .i64 ek, .int .i64 en, .string es, .slice eB ekl eck, .int .i64 vk, .int .i64 vn, .string vs, .slice vB vkl vck, .string fd, .int .i64 nm, .slice B kl capk] 30 (0, 0))) := by
    rw [hw3]; exact ⟨(Chg.refl _ _).alloc _, heap_alloc_new _ _⟩
  have HO := Lib.hid (fun W (hW : Chg No w3 W) => obj_15 (hW.obj h3.out.2 id))
  clear hx hK hl hh f3
  unfold FootRet at HF
  unfold FootRetI at HRF
  generalize lvA m n k x = lv at *
  generalize holdsR l h m n k x = hr at *
  generalize footR l m n k x = fr at *
  obtain ⟨hv, hc⟩ := hr
  obtain ⟨s, fc⟩ := fr
  try simp only at HF HH HRF HRH HLN f1 f2 f4 f5
  have HC1 := Lib.hid (fun W => code_any W fc f1 f2)
  have HC2 := Lib.hid (fun W => code_any W hc f4 f5)
  clear f1 f2 f4 f5
  generalize errV 70 fc = E1 at *
  generalize errV 70 hc = E2 at *
  go_enter Tryz.func3, Tryz.ntmps3
  go_upto_region 1 with fail
  rw [← hw3]
  clear hw3
  go_upto_region 2 with (go_at_call 6; (with_reducible refine (HU.out _ h3.out.1).mono ?_); rintro e w4 ⟨rfl, h4⟩; have H4 := Lib.hid h4; clear h4)
  obtain ⟨p0, p1, p2, p3, p4, p5, p6, p7, p8, p9, p10, p11, p12, p13, p14⟩ := HO.out w4 H4.out
  go_upto_region 3 with (go_at_call 7; (with_reducible refine (HSM.out _ (h3.out.1.thenNo H4.out)).mono ?_); rintro e w5 ⟨q, rfl, hq, h5⟩; have H5 := Lib.hid (H4.out.thenNo h5); have HQ := Lib.hid hq; clear h5 hq)
  clear p0 p1 p2 p3 p4 p5 p6 p7 p8 p9 p10 p11 p12 p13 p14
  cases q
  · go_wp2_with fail
    go_ret
    exact ⟨rfl, h3.out.1.thenNo H5.out⟩
  have hlv : lv ≤ 300 := HQ.out rfl
  by_cases hb3 : 200 < l.length
  · have d1 : decide ((200 : Int) < (l.length : Int)) = true := decide_eq_true (by omega)
    go_wp2_with fail
    go_ret
    exact ⟨rfl, h3.out.1.thenNo H5.out⟩
  have d1 : decide ((200 : Int) < (l.length : Int)) = false := decide_eq_false (by omega)
  by_cases hb4 : 200 < h.length
  · have d2 : decide ((200 : Int) < (h.length : Int)) = true := decide_eq_true (by omega)
    go_wp2_with fail
    go_ret
    exact ⟨rfl, h3.out.1.thenNo H5.out⟩
  have d2 : decide ((200 : Int) < (h.length : Int)) = false := decide_eq_false (by omega)
  have hsl : s.length ≤ 300 := Nat.le_trans HLN.out hlv
  have hsb : s.length * 32 ≤ big := by unfold big; omega
  have HF1 := Lib.hid (HF.out hlv _ (h3.out.1.thenNo H5.out))
  obtain ⟨p0, p1, p2, p3, p4, p5, p6, p7, p8, p9, p10, p11, p12, p13, p14⟩ := HO.out w5 H5.out
  go_upto_region 6 with (go_at_call 8; (with_reducible refine HF1.out.mono ?_); rintro e w6 ⟨A6, c6, rfl, s6, h6⟩; have H6 := Lib.hid (H5.out.thenNo h6); have S6 := Lib.hid (OTris.tris s6 hsb); clear h6 s6)
  clear p0 p1 p2 p3 p4 p5 p6 p7 p8 p9 p10 p11 p12 p13 p14
  obtain ⟨p0, p1, p2, p3, p4, p5, p6, p7, p8, p9, p10, p11, p12, p13, p14⟩ := HO.out w6 H6.out
  have HH1 := Lib.hid (HH.out hlv w6 (h3.out.1.thenNo H6.out))
  go_upto_region 7 with (go_at_call 9; (with_reducible refine HH1.out.mono ?_); rintro e w7 ⟨rfl, h7⟩; have H7 := Lib.hid (H6.out.thenNo h7); have S7 := Lib.hid (S6.out.no triE_good h7); clear h7)
  clear p0 p1 p2 p3 p4 p5 p6 p7 p8 p9 p10 p11 p12 p13 p14
  obtain ⟨p0, p1, p2, p3, p4, p5, p6, p7, p8, p9, p10, p11, p12, p13, p14⟩ := HO.out w7 H7.out
  have HF2 := Lib.hid (HRF.out hlv _ (h3.out.1.thenNo H7.out))
  go_upto_region 8 with (go_at_call 10; (with_reducible refine HF2.out.mono ?_); rintro e w8 ⟨A8, c8, rfl, s8, h8⟩; have H8 := Lib.hid (H7.out.thenNo h8); have S8 := Lib.hid (OTris.tris s8 hsb); have S78 := Lib.hid (S7.out.no triE_good h8); clear h8 s8)
  clear p0 p1 p2 p3 p4 p5 p6 p7 p8 p9 p10 p11 p12 p13 p14
  obtain ⟨p0, p1, p2, p3, p4, p5, p6, p7, p8, p9, p10, p11, p12, p13, p14⟩ := HO.out w8 H8.out
  have HH2 := Lib.hid (HRH.out hlv w8 (h3.out.1.thenNo H8.out))
  go_upto_region 9 with (go_at_call 11; (with_reducible refine HH2.out.mono ?_); rintro e w9 ⟨rfl, h9⟩; have H9 := Lib.hid (H8.out.thenNo h9); have SS := Lib.hid (sameShares_eq (S78.out.no triE_good h9) (S8.out.no triE_good h9)); clear h9)
  clear p0 p1 p2 p3 p4 p5 p6 p7 p8 p9 p10 p11 p12 p13 p14
  go_wp2_with (first
    | (go_at_call 12; (with_reducible refine SS.out.mono ?_); rintro e w10 ⟨rfl, h10⟩; have H10 := Lib.hid (h3.out.1.thenNo (H9.out.thenNo h10)); clear h10)
    | (go_at_call 13; (with_reducible refine (HC1.out _).mono ?_); rintro e w11 ⟨rfl, rfl⟩)
    | (go_at_call 13; (with_reducible refine (HC2.out _).mono ?_); rintro e w12 ⟨rfl, rfl⟩))
  go_ret
  exact ⟨by simp, H10.out⟩
end Go.Proofs.YtgofncopoieigaaGreatDoor
/- HmM -/
namespace Go.Proofs.YtgofncopoieigaaGreatDoor
open Go Go.RowKit

def zTriH : Tri := (0, ByteArray.empty, 0)
theorem zTriH_ok : TriOk zTriH := ⟨by unfold I64 zTriH; decide, by show (0 : Nat) ≤ maxLen; decide, by unfold I64 zTriH; decide⟩
theorem varsTyH : SliceTy Tryz.prog 31 52 varV.sz varV.bytes (.agg #[.string ByteArray.empty, .int .i64 0]) := ⟨Tryz.underlying31, by kernel_rfl, rfl, by decide, by decide⟩
theorem var_oneH {R : Nat → Prop} {w : World} {cs : List Value} {x : Vr} (h : varV R w cs x) : ∀ u ∈ cs, u.oneCell' = true := by
  obtain ⟨rfl, _⟩ := var_cells h
  simp [Value.oneCell']
theorem neqVar (m m' : Vr) (w : World) : (binOp .neq 52 (.agg #[.string m.1, .int .i64 m.2]) (.agg #[.string m'.1, .int .i64 m'.2])).run Tryz.prog w = .ok (.bool (!decide (m = m'))) w := by
  have u3 := Tryz.underlying3
  have a3 := Tryz.isAgg3
  have z3 := Tryz.sizeOf3
  have u9 := Tryz.underlying9
  have a9 := Tryz.isAgg9
  have z9 := Tryz.sizeOf9
  have hS : Tryz.prog.underlying 52 = some (.struct (Tryz.prog.fieldsOf 52)) := by kernel_rfl
  have hp : Tryz.prog.stoodInHeld 52 = false := by kernel_rfl
  rw [run_neq_struct, show (10000 : Nat) = 9999 + 1 from rfl, run_equalIn_agg w 9999 52 _ _ hS hp]
  simp only [Program.fieldsOf, Tryz.underlying52]
  obtain ⟨f, c⟩ := m
  obtain ⟨f', c'⟩ := m'
  have hd : decide ((f, c) = (f', c')) = ((f.toList == f'.toList) && (c == c')) := by
    rw [Bool.eq_iff_iff]
    simp only [decide_eq_true_eq, Bool.and_eq_true, beq_iff_eq, Prod.mk.injEq]
    exact ⟨fun ⟨h2, h3⟩ => ⟨by rw [h2], h3⟩, fun ⟨h2, h3⟩ => ⟨toList_inj h2, h3⟩⟩
  rw [hd]
  go_simp
  by_cases h2 : f.toList = f'.toList <;> by_cases h3 : c = c' <;> simp [h2, h3]

set_option maxRecDepth 100000 in
set_option maxHeartbeats 8000000 in
theorem holdsStays_walk {R Rs Rh : Nat → Prop} {w : World} (hK : Keys w) {m n k : Nat} {x : AT m n k} {cs : List Value} (hx : (assnV m n k) R w cs x) {A : Option Addr} {l : List Vr} {cap : Nat} (hl : Vars Rs w A l cap) {Ah : Option Addr} {h : List Tri} {hcap : Nat} (hh : Tris Rh w Ah h hcap) :
    Calls Tryz.prog 4 #[.agg cs.toArray, .slice A l.length cap, .slice Ah h.length hcap] w fun e w' => e = .returned (.bool true) ∧ Chg No w w' := by
  have hb1 := hl.big
  have hb2 := hh.big
  unfold big at hb1 hb2
  have HU := Lib.hid (fun W (hW : Chg No w W) => up18_any (hK.no hW))
  have HSM := Lib.hid (fun W (hW : Chg No w W) => smallA_any ((assnV_good m n k).no hx hW))
  have HF := Lib.hid (fun (hv : lvA m n k x ≤ 300) W (hW : Chg No w W) A' cap' R' (hl' : Vars R' W A' l cap') => foot_any (hK.no hW) ((assnV_good m n k).no hx hW) (by omega) hl')
  have HH := Lib.hid (fun (hv : lvA m n k x ≤ 300) W (hW : Chg No w W) A' cap' R' (hl' : Vars R' W A' l cap') A2 cap2 R2 (hh' : Tris R2 W A2 h cap2) => holds_any (hK.no hW) ((assnV_good m n k).no hx hW) (by omega) hl' hh')
  have HRF := Lib.hid (fun (hv : lvA m n k x ≤ 300) W (hW : Chg No w W) => refFoot18_any ((assnV_good m n k).no hx hW) (by omega) (hl.no varE_good hW))
  have HLV := Lib.hid (fun W (hW : Chg No w W) => hl.no varE_good hW)
  have HHV := Lib.hid (fun W (hW : Chg No w W) => hh.no triE_good hW)
  obtain ⟨f1, f2, f3⟩ := footR_facts l m n k x
  have HLN := Lib.hid f3
  obtain ⟨kd, ck, cA, cel, cca, cB, ckl, cck, ek, en, es, eB, ekl, eck, vk, vn, vs, vB, vkl, vck, fd, nm, B, kl, capk, rfl⟩ := assn_shape hx
  obtain ⟨w3, hw3⟩ : ∃ w3, w3 = w.alloc (.cells #[.int .i64 kd, .int .i64 ck, .slice cA cel cca, .slice cB ckl cck, .int .i64 ek, .int .i64 en, .string es, .slice eB ekl eck, .int .i64 vk, .int .i64 vn, .string vs, .slice vB vkl vck, .string fd, .int .i64 nm, .slice B kl capk] 30) := ⟨_, rfl⟩
  have h3 : Hid (Chg No w w3 ∧ w3.heap[w.heap.size]? = some (.cells #[.int .i64 kd, .int .i64 ck, .slice cA cel cca, .slice cB ckl cck, .int .i64 ek, .int .i64 en, .string es, .slice eB ekl eck, .int .i64 vk, .int .i64 vn, .string vs, .slice vB vkl vck, .string fd, .int .i64 nm, .slice B kl capk] 30 (0, 0))) := by
    rw [hw3]; exact ⟨(Chg.refl _ _).alloc _, heap_alloc_new _ _⟩
  have HO := Lib.hid (fun W (hW : Chg No w3 W) => obj_15 (hW.obj h3.out.2 id))
  clear hx hK hl hh f3
  unfold FootRet at HF
  unfold FootRetI at HRF
  generalize lvA m n k x = lv at *
  generalize holdsR l h m n k x = hr at *
  generalize footR l m n k x = fr at *
  obtain ⟨hv, hc⟩ := hr
  obtain ⟨s, fc⟩ := fr
  try simp only at HF HH HRF HLN f1 f2
  have HC1 := Lib.hid (fun W => code_any W fc f1 f2)
  clear f1 f2
  generalize errV 70 fc = E1 at *
  generalize errV 70 hc = E2 at *
  go_enter Tryz.func4, Tryz.ntmps4
  go_upto_region 1 with fail
  rw [← hw3]
  clear hw3
  go_upto_region 2 with (go_at_call 6; (with_reducible refine (HU.out _ h3.out.1).mono ?_); rintro e w4 ⟨rfl, h4⟩; have H4 := Lib.hid h4; clear h4)
  obtain ⟨p0, p1, p2, p3, p4, p5, p6, p7, p8, p9, p10, p11, p12, p13, p14⟩ := HO.out w4 H4.out
  go_upto_region 3 with (go_at_call 7; (with_reducible refine (HSM.out _ (h3.out.1.thenNo H4.out)).mono ?_); rintro e w5 ⟨q, rfl, hq, h5⟩; have H5 := Lib.hid (H4.out.thenNo h5); have HQ := Lib.hid hq; clear h5 hq)
  clear p0 p1 p2 p3 p4 p5 p6 p7 p8 p9 p10 p11 p12 p13 p14
  cases q
  · go_wp2_with fail
    go_ret
    exact ⟨rfl, h3.out.1.thenNo H5.out⟩
  have hlv : lv ≤ 300 := HQ.out rfl
  by_cases hb3 : 200 < l.length
  · have d1 : decide ((200 : Int) < (l.length : Int)) = true := decide_eq_true (by omega)
    go_wp2_with fail
    go_ret
    exact ⟨rfl, h3.out.1.thenNo H5.out⟩
  have d1 : decide ((200 : Int) < (l.length : Int)) = false := decide_eq_false (by omega)
  by_cases hb4 : 200 < h.length
  · have d2 : decide ((200 : Int) < (h.length : Int)) = true := decide_eq_true (by omega)
    go_wp2_with fail
    go_ret
    exact ⟨rfl, h3.out.1.thenNo H5.out⟩
  have d2 : decide ((200 : Int) < (h.length : Int)) = false := decide_eq_false (by omega)
  have hsl : s.length ≤ 300 := Nat.le_trans HLN.out hlv
  have hsb : s.length * 32 ≤ big := by unfold big; omega
  have hlb : l.length * varV.bytes ≤ big := show l.length * 24 ≤ 140737488355328 by omega
  have hhb : h.length * 32 ≤ big := by unfold big; omega
  have HLV5 := Lib.hid (HLV.out w5 (h3.out.1.thenNo H5.out))
  go_upto_region 6 with (at_builtin; refine wpList_copyL varV_good var_oneH varsTyH rfl (.tmp 35) (.tmp 36) rfl rfl rfl HLV5.out rfl ?_; intro A6 c6 w6 g6 h6 _; have H6 := Lib.hid (H5.out.thenNo h6); have G6 : Hid (∀ W, Chg No w6 W → Vars (fun q => w5.heap.size ≤ q ∨ Rs q) W A6 l c6) := fun W hW => ((g6.no varV_good hW).sl_of varV_good hlb).2; clear g6 h6)
  have HHV6 := Lib.hid (HHV.out w6 (h3.out.1.thenNo H6.out))
  go_upto_region 7 with (at_builtin; refine wpList_copyL triV_good tri_one cellsTy rfl (.tmp 38) (.tmp 39) rfl rfl rfl HHV6.out rfl ?_; intro A7 c7 w7 g7 h7 _; have H67 := Lib.hid h7; have H7 := Lib.hid (H6.out.thenNo h7); have G7 := Lib.hid (OTris.of g7); clear g7 h7)
  have M7 : Hid (∀ W, Chg No w7 W → Tris (fun q => w6.heap.size ≤ q) W A7 h c7) := fun W hW => OTris.tris (G7.out.no triV_good hW) hhb
  have G67 : Hid (∀ W, Chg No w7 W → Vars (fun q => w5.heap.size ≤ q ∨ Rs q) W A6 l c6) := fun W hW => G6.out W (H67.out.thenNo hW)
  obtain ⟨p0, p1, p2, p3, p4, p5, p6, p7, p8, p9, p10, p11, p12, p13, p14⟩ := HO.out w7 H7.out
  have HF1 := Lib.hid (HF.out hlv w7 (h3.out.1.thenNo H7.out) A6 c6 _ (G67.out w7 (Chg.refl _ _)))
  go_upto_region 8 with (go_at_call 8; (with_reducible refine HF1.out.mono ?_); rintro e w8 ⟨A8, c8, rfl, s8, h8⟩; have H78 := Lib.hid h8; have H8 := Lib.hid (H7.out.thenNo h8); have S8 := Lib.hid s8; clear h8 s8)
  clear p0 p1 p2 p3 p4 p5 p6 p7 p8 p9 p10 p11 p12 p13 p14
  obtain ⟨p0, p1, p2, p3, p4, p5, p6, p7, p8, p9, p10, p11, p12, p13, p14⟩ := HO.out w8 H8.out
  have HH1 := Lib.hid (HH.out hlv w8 (h3.out.1.thenNo H8.out) A6 c6 _ (G67.out w8 H78.out) A7 c7 _ (M7.out w8 H78.out))
  go_upto_region 9 with (go_at_call 9; (with_reducible refine HH1.out.mono ?_); rintro e w9 ⟨rfl, h9⟩; have H89 := Lib.hid h9; clear h9)
  clear p0 p1 p2 p3 p4 p5 p6 p7 p8 p9 p10 p11 p12 p13 p14
  have S9 : Hid (OTris 50 (fun q => w7.heap.size ≤ q) w9 (.slice A8 s.length c8) s) := S8.out.no triV_good H89.out
  have H79 : Hid (Chg No w7 w9) := H78.out.thenNo H89.out
  go_wp2_with fail
  go_loopw [13] (fun s13 wr => ∃ (i : Nat) (L : List Tri), s13 = .int .i64 i ∧ i ≤ s.length ∧ L.length = s.length ∧ Hid (OTris 50 (fun q => w7.heap.size ≤ q) wr (.slice A8 s.length c8) L ∧ Chg No w7 wr)) (fun s13 _ => s.length - (intOf s13).toNat)
  case atStart => exact ⟨0, s, rfl, Nat.zero_le _, rfl, S9.out, H79.out⟩
  case round =>
    obtain ⟨i, L, rfl, gi, gL, hst⟩ := hrel
    by_cases hlt : i < s.length
    · have hlt2 : i < L.length := by omega
      obtain ⟨g, og, _, _, hv, hv2⟩ := hst.out.1.at_ triV_good i hlt2
      clear hv2
      injection hv with hv _ _
      subst hv
      obtain ⟨hfz, hM, hO⟩ := OTris.setC hst.out.1 i hlt2 zTriH_ok
      obtain ⟨k0, u0, c0⟩ := hfz 0 (by omega)
      obtain ⟨k1, u1, c1⟩ := hfz 1 (by omega)
      obtain ⟨k2, u2, c2⟩ := hfz 2 (by omega)
      rw [Nat.add_zero] at k0 c0
      have i0 : (0 : Int) ≤ (i : Int) := by omega
      have i1 : (i : Int) < (s.length : Int) := by omega
      have HS : Hid (OTris 50 (fun q => w7.heap.size ≤ q) (((wr.setCell ⟨g, og + i * 3, none⟩ (.int .i64 0)).setCell ⟨g, og + i * 3 + 1, none⟩ (.string ByteArray.empty)).setCell ⟨g, og + i * 3 + 2, none⟩ (.int .i64 0)) (.slice (some ⟨g, og, none⟩) s.length c8) (L.set i zTriH) ∧ Chg No w7 (((wr.setCell ⟨g, og + i * 3, none⟩ (.int .i64 0)).setCell ⟨g, og + i * 3 + 1, none⟩ (.string ByteArray.empty)).setCell ⟨g, og + i * 3 + 2, none⟩ (.int .i64 0))) :=
        ⟨hO, chgpastH hst.out.2 ((((Chg.refl (fun q => q = g) wr).setCell _ _ (fun _ => rfl)).setCell _ _ (fun _ => rfl)).setCell _ _ (fun _ => rfl)) (fun q hq => by rw [hq]; exact hM)⟩
      have HLL : Hid ((L.set i zTriH).length = s.length) := by unfold Hid; rw [List.length_set]; exact gL
      clear hst hO hfz hM hlt2 gL
      generalize L.set i zTriH = Ls at *
      go_wp2_with fail
      go_roundw
      case rel => exact ⟨i + 1, Ls, by go_num, hlt, HLL.out, HS.out⟩
      case measure => simp [intOf]; omega
    · have HZ := Lib.hid hst.out.2
      clear hst gL
      obtain ⟨wz, hwz⟩ : ∃ wz, wz = wr := ⟨_, rfl⟩
      subst hwz
      have HWZ := Lib.hid (h3.out.1.thenNo (H7.out.thenNo HZ.out))
      obtain ⟨p0, p1, p2, p3, p4, p5, p6, p7, p8, p9, p10, p11, p12, p13, p14⟩ := HO.out wz (H7.out.thenNo HZ.out)
      have HF2 := Lib.hid (HF.out hlv wz HWZ.out A6 c6 _ (G67.out wz HZ.out))
      go_upto_region 14 with (go_at_call 8; (with_reducible refine HF2.out.mono ?_); rintro e wf ⟨A9, c9, rfl, s9, h9⟩; have HZF := Lib.hid h9; have S9' := Lib.hid (OTris.tris s9 hsb); clear h9 s9)
      clear p0 p1 p2 p3 p4 p5 p6 p7 p8 p9 p10 p11 p12 p13 p14
      obtain ⟨p0, p1, p2, p3, p4, p5, p6, p7, p8, p9, p10, p11, p12, p13, p14⟩ := HO.out wf (H7.out.thenNo (HZ.out.thenNo HZF.out))
      have HF3 := Lib.hid (HRF.out hlv wf (HWZ.out.thenNo HZF.out))
      go_upto_region 15 with (go_at_call 10; (with_reducible refine HF3.out.mono ?_); rintro e wg ⟨AA, cc', rfl, sA, hA⟩; have HFG := Lib.hid hA; have SA := Lib.hid (OTris.tris sA hsb); have S9A := Lib.hid (S9'.out.no triE_good hA); clear hA sA)
      clear p0 p1 p2 p3 p4 p5 p6 p7 p8 p9 p10 p11 p12 p13 p14
      have HZG : Hid (Chg No wz wg) := HZF.out.thenNo HFG.out
      have GV : Hid (∀ W, Chg No wg W → Vars (fun q => w5.heap.size ≤ q ∨ Rs q) W A6 l c6) := fun W hW => G67.out W (HZ.out.thenNo (HZG.out.thenNo hW))
      have GW : Hid (∀ W, Chg No wg W → Vars Rs W A l cap) := fun W hW => HLV.out W (HWZ.out.thenNo (HZG.out.thenNo hW))
      have SM : Hid (∀ W, Chg No wg W → Calls Tryz.prog 14 #[.slice A7 h.length c7, .slice Ah h.length hcap] W fun e w' => e = .returned (.bool true) ∧ Chg No W w') := fun W hW => by
        have hs := sameCell_any (M7.out W (HZ.out.thenNo (HZG.out.thenNo hW))) (HHV.out W (HWZ.out.thenNo (HZG.out.thenNo hW)))
        rwa [show decide (h = h) = true by simp] at hs
      have SH := Lib.hid (fun W (hW : Chg No wg W) => sameShares_eq (S9A.out.no triE_good hW) (SA.out.no triE_good hW))
      clear HF HH HRF HU HSM HF1 HF2 HF3 HH1 S8 S9
      go_wp2_with fail
      go_loopw [18] (fun s18 wr => ∃ j : Nat, s18 = .int .i64 j ∧ j ≤ l.length ∧ Hid (Chg No wg wr)) (fun s18 _ => l.length - (intOf s18).toNat)
      case atStart => exact ⟨0, rfl, Nat.zero_le _, Chg.refl _ _⟩
      case round =>
        obtain ⟨j, rfl, gj, hch⟩ := hrel
        by_cases hlt2 : j < l.length
        · obtain ⟨b1, o1, rfl, _, x0, x1⟩ := vars_at (GV.out wr hch.out) j hlt2
          obtain ⟨b2, o2, rfl, _, y0, y1⟩ := vars_at (GW.out wr hch.out) j hlt2
          have j0 : (0 : Int) ≤ (j : Int) := by omega
          have j1 : (j : Int) < (l.length : Int) := by omega
          generalize l[j] = vv at *
          have hne := neqVar vv vv
          obtain ⟨vn', vz⟩ := vv
          simp only at x0 x1 y0 y1 hne
          simp only [decide_true, Bool.not_true] at hne
          go_wp2_with fail
          go_quiet (fail)
          go_wp2_with fail
          go_roundw
          case rel => exact ⟨j + 1, by go_num, hlt2, hch.out.drewN _⟩
          case measure => simp [intOf]; omega
        · have SM1 := Lib.hid (SM.out wr hch.out)
          have SH1 := Lib.hid (fun W (hW : Chg No wr W) => SH.out W (hch.out.thenNo hW))
          go_wp2_with (first
            | (go_at_call 14; (with_reducible refine SM1.out.mono ?_); rintro e v1 ⟨rfl, k1⟩; have K1 := Lib.hid k1; clear k1)
            | (go_at_call 12; (with_reducible refine (SH1.out _ K1.out).mono ?_); rintro e v2 ⟨rfl, k2⟩; have K2 := Lib.hid (K1.out.thenNo k2); clear k2)
            | (go_at_call 13; (with_reducible refine (HC1.out _).mono ?_); rintro e v3 ⟨rfl, rfl⟩))
          go_ret
          exact ⟨by simp, HWZ.out.thenNo (HZG.out.thenNo (hch.out.thenNo K2.out))⟩
end Go.Proofs.YtgofncopoieigaaGreatDoor
