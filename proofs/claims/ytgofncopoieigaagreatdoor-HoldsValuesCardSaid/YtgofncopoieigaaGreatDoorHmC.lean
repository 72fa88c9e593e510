/-
  How deep an assertion is: the reference's.
-/
import Derived.Test.YtgofncopoieigaaGreatDoorHlE
import Derived.Test.YtgofncopoieigaaGreatDoorHmB
namespace Go.Proofs.YtgofncopoieigaaGreatDoor
open Go Go.RowKit

def DAOk (m n k : Nat) : Prop := ∀ (x : AT m n k) (R : Nat → Prop) (w : World) (cs : List Value), (assnV m n k) R w cs x → ∀ (b : Nat) (z : Int), z = b → b ≤ 1000 →
    Calls Tryz.prog 62 #[.agg cs.toArray, .int .i64 z] w fun e w' => e = .returned (.int .i64 (dA m n k x b)) ∧ Chg No w w'
set_option maxRecDepth 100000 in
set_option maxHeartbeats 4000000 in
theorem depthA_walk (m n k : Nat) (IH : Hid (DAOk m n k)) : DAOk m n (k + 1) := by
  rintro f R w cs h b z hz hb
  obtain ⟨ck, cA, cel, cca, cB, ckl, cck, ek, en, es, eB, ekl, eck, vk, vn, vs, vB, vkl, vck, B, capk, rfl, i1, hc, he, hv, hfl, i2, hk⟩ := anode_cells h
  obtain ⟨w3, hw3⟩ : ∃ w3, w3 = w.alloc (.cells #[.int .i64 (ANode.kind f), .int .i64 ck, .slice cA cel cca, .slice cB ckl cck, .int .i64 ek, .int .i64 en, .string es, .slice eB ekl eck, .int .i64 vk, .int .i64 vn, .string vs, .slice vB vkl vck, .string (ANode.field f), .int .i64 (ANode.num f), .slice B (ANode.kids f).length capk] 30) := ⟨_, rfl⟩
  have h3 : Hid (Chg No w w3 ∧ w3.heap[w.heap.size]? = some (.cells #[.int .i64 (ANode.kind f), .int .i64 ck, .slice cA cel cca, .slice cB ckl cck, .int .i64 ek, .int .i64 en, .string es, .slice eB ekl eck, .int .i64 vk, .int .i64 vn, .string vs, .slice vB vkl vck, .string (ANode.field f), .int .i64 (ANode.num f), .slice B (ANode.kids f).length capk] 30 (0, 0))) := by
    rw [hw3]; exact ⟨(Chg.refl _ _).alloc _, heap_alloc_new _ _⟩
  have HO := Lib.hid (fun W (hW : Chg No w3 W) => obj_15 (hW.obj h3.out.2 id))
  have HKS := Lib.hid (fun W (hW : Chg No w W) => hk.no (assnE_good m n k) hW)
  have hbig := hk.big
  unfold big at hbig
  cases b with
  | zero =>
    obtain rfl : z = 0 := by omega
    clear hz hb
    rw [show dA m n (k + 1) f 0 = 1 from rfl]
    clear HKS h hk he hc hv IH hfl
    generalize ANode.kind f = kd at *
    generalize ANode.field f = fd at *
    generalize ANode.num f = num at *
    generalize (ANode.kids f).length = kl at *
    go_enter Tryz.func62, Tryz.ntmps62
    go_upto_region 1 with fail
    rw [← hw3]
    clear hw3
    go_wp2_with fail
    go_ret
    exact ⟨rfl, h3.out.1⟩
  | succ b =>
    rw [show dA m n (k + 1) f (b + 1) = ((ANode.kids f).map fun q => dA m n k q b).foldl max (max (dC m n (ANode.c f) b) (max (dE m (ANode.e f) b) (dE m (ANode.v f) b))) + 1 from rfl]
    have HCC : Hid (∀ d os, Calls Tryz.prog 96 #[.agg #[.int .i64 ck, .slice cA cel cca, .slice cB ckl cck], .int .i64 (z - 1)] (later w3 d os) fun e w'' => e = .returned (.int .i64 (dC m n (ANode.c f) b)) ∧ ∃ p : Lat, w'' = later w3 p.d p.os) := fun d os =>
      Calls.later_of (depthC_any m n _ _ _ _ ((condV_good m n).no ((condV_good m n).no hc h3.out.1) (chg_later w3 d os)) b (z - 1) (by omega) (by omega))
    have HCE : Hid (∀ d os, Calls Tryz.prog 97 #[.agg #[.int .i64 ek, .int .i64 en, .string es, .slice eB ekl eck], .int .i64 (z - 1)] (later w3 d os) fun e w'' => e = .returned (.int .i64 (dE m (ANode.e f) b)) ∧ ∃ p : Lat, w'' = later w3 p.d p.os) := fun d os =>
      Calls.later_of (depthE_any m _ _ _ _ ((exprV_good m).no ((exprV_good m).no he h3.out.1) (chg_later w3 d os)) b (z - 1) (by omega) (by omega))
    have HCV : Hid (∀ d os, Calls Tryz.prog 97 #[.agg #[.int .i64 vk, .int .i64 vn, .string vs, .slice vB vkl vck], .int .i64 (z - 1)] (later w3 d os) fun e w'' => e = .returned (.int .i64 (dE m (ANode.v f) b)) ∧ ∃ p : Lat, w'' = later w3 p.d p.os) := fun d os =>
      Calls.later_of (depthE_any m _ _ _ _ ((exprV_good m).no ((exprV_good m).no hv h3.out.1) (chg_later w3 d os)) b (z - 1) (by omega) (by omega))
    have HI := Lib.hid (fun (x : AT m n k) R' W cs' (hcs : (assnV m n k) R' W cs' x) => IH.out x R' W cs' hcs b (z - 1) (by omega) (by omega))
    have hz0 : (z == 0) = false := by simp; omega
    have hzl : 1 ≤ z := by omega
    have hzh : z ≤ 1000 := by omega
    have hw1 : IntKind.i64.wrap (z - 1) = z - 1 := by rw [IntKind.wrap_i64]; omega
    have hb2 : b ≤ 999 := by omega
    have HLA := Lib.hid (fun x : AT m n k => dA_le m n k x b)
    have hl1 := dC_le m n (ANode.c f) b
    have hl2 := dE_le m (ANode.e f) b
    have hl3 := dE_le m (ANode.v f) b
    clear h hk he hc hv IH hz hb hfl
    generalize ANode.kind f = kd at *
    generalize ANode.field f = fd at *
    generalize ANode.num f = num at *
    generalize ANode.kids f = ks at *
    generalize dC m n (ANode.c f) b = d1 at *
    generalize dE m (ANode.e f) b = d2 at *
    generalize dE m (ANode.v f) b = d3 at *
    have HB1 : Hid (∀ d os, Calls Tryz.prog 95 #[.int .i64 d2, .int .i64 d3] (later w3 d os) fun e w'' => e = .returned (.int .i64 ((max d2 d3 : Nat) : Int)) ∧ ∃ p : Lat, w'' = later w3 p.d p.os) := fun d os => Calls.later_same (big15_any d2 d3 _)
    have HB2 : Hid (∀ d os, Calls Tryz.prog 95 #[.int .i64 d1, .int .i64 ((max d2 d3 : Nat) : Int)] (later w3 d os) fun e w'' => e = .returned (.int .i64 ((max d1 (max d2 d3) : Nat) : Int)) ∧ ∃ p : Lat, w'' = later w3 p.d p.os) := fun d os => Calls.later_same (big15_any d1 (max d2 d3) _)
    have hm1 : max d1 (max d2 d3) ≤ 1000 := Nat.max_le.2 ⟨by omega, Nat.max_le.2 ⟨by omega, by omega⟩⟩
    generalize max d1 (max d2 d3) = m1 at *
    generalize max d2 d3 = m2 at *
    obtain ⟨p0, p1, p2, p3, p4, p5, p6, p7, p8, p9, p10, p11, p12, p13, p14⟩ := HO.out w3 (Chg.refl _ _)
    have l1 := cell_later p1
    have l2 := cell_later p2
    have l3 := cell_later p3
    have l4 := cell_later p4
    have l5 := cell_later p5
    have l6 := cell_later p6
    have l7 := cell_later p7
    have l8 := cell_later p8
    have l9 := cell_later p9
    have l10 := cell_later p10
    have l11 := cell_later p11
    go_enter Tryz.func62, Tryz.ntmps62
    go_upto_region 1 with fail
    rw [← hw3]
    clear hw3
    go_upto_region 3 with fail
    refine wp_region_later (by kernel_rfl) (by kernel_rfl) ?_
    repeat (go_big_quiet_step (first
      | (go_at_call 96; with_reducible exact HCC.out _ _)
      | (go_at_call 97; with_reducible exact HCE.out _ _)
      | (go_at_call 97; with_reducible exact HCV.out _ _)
      | (go_at_call 95; with_reducible exact HB1.out _ _)
      | (go_at_call 95; with_reducible exact HB2.out _ _)))
    refine wpQuiet_nil ?_
    intro _ hw'
    obtain ⟨⟨dq, osq⟩, hw''⟩ := hw'
    subst hw''
    clear p0 p1 p2 p3 p4 p5 p6 p7 p8 p9 p10 p11 p12 p13 p14 l1 l2 l3 l4 l5 l6 l7 l8 l9 l10 l11 HCC HCE HCV HB1 HB2
    have HCH : Hid (Chg No w3 (later w3 dq osq)) := chg_later w3 dq osq
    generalize later w3 dq osq = w4 at *
    go_wp2_with fail
    go_loopw [5, 6] (fun s5 s6 wr => ∃ (i d : Nat), s5 = .int .i64 d ∧ s6 = .int .i64 i ∧ i ≤ ks.length ∧ d ≤ 1000 ∧ Hid (d = ((ks.take i).map fun q => dA m n k q b).foldl max m1) ∧ Hid (Chg No w3 wr)) (fun _ s6 _ => ks.length - (intOf s6).toNat)
    case atStart => exact ⟨0, m1, rfl, rfl, Nat.zero_le _, hm1, rfl, HCH.out⟩
    case round =>
      obtain ⟨i, d, rfl, rfl, gi, gd, hd, hch⟩ := hrel
      obtain ⟨p0, p1, p2, p3, p4, p5, p6, p7, p8, p9, p10, p11, p12, p13, p14⟩ := HO.out wr hch.out
      by_cases hlt : i < ks.length
      · obtain ⟨bb, o, kd1, ck1, cA1, cel1, cca1, cB1, ckl1, cck1, ek1, en1, es1, eB1, ekl1, eck1, vk1, vn1, vs1, vB1, vkl1, vck1, fd1, nm1, B1, kl1, capk1, rfl, hv1, x0, x1, x2, x3, x4, x5, x6, x7, x8, x9, x10, x11, x12, x13, x14⟩ := assns_someH (HKS.out wr (h3.out.1.thenNo hch.out)) i hlt
        have i0 : (0 : Int) ≤ (i : Int) := by omega
        have i1 : (i : Int) < (ks.length : Int) := by omega
        have HC := Lib.hid (HI.out ks[i] _ wr _ hv1)
        have HN : Hid (max d (dA m n k ks[i] b) = ((ks.take (i + 1)).map fun q => dA m n k q b).foldl max m1) := by unfold Hid; rw [take_fold _ hlt, ← hd.out]
        have hle := HLA.out ks[i]
        clear hv1 hd
        generalize dA m n k ks[i] b = dv at *
        have HBG := Lib.hid (fun W => big15_any d dv W)
        have hmx : max d dv ≤ 1000 := Nat.max_le.2 ⟨gd, by omega⟩
        generalize max d dv = mx at *
        go_wp2_with (first
          | (go_at_call 62; (with_reducible refine HC.out.mono ?_); rintro e w5 ⟨rfl, h4⟩; have H4 := Lib.hid (hch.out.thenNo h4); clear h4)
          | (go_at_call 95; (with_reducible refine (HBG.out _).mono ?_); rintro e w6 ⟨rfl, rfl⟩))
        go_roundw
        case rel => exact ⟨i + 1, mx, rfl, by go_num, hlt, hmx, HN.out, H4.out⟩
        case measure => simp [intOf]; omega
      · obtain rfl : i = ks.length := by omega
        have HE : Hid (d = (ks.map fun q => dA m n k q b).foldl max m1) := by have := hd.out; rwa [List.take_length] at this
        clear hd
        go_wp2_with fail
        go_ret
        exact ⟨by rw [← HE.out]; rfl, h3.out.1.thenNo hch.out⟩
theorem depthA_any (m n : Nat) : ∀ k, DAOk m n k
  | 0 => fun _ _ _ _ h => h.elim
  | k + 1 => depthA_walk m n k (Lib.hid (depthA_any m n k))
end Go.Proofs.YtgofncopoieigaaGreatDoor
