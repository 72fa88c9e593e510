/-
  show.deepA.
-/
import Derived.Test.YtgofncopoieigaaDoorShC
namespace Go.Proofs.YtgofncopoieigaaDoor
open Go Go.RowKit

theorem obj_15 {w : World} {b : Nat} {u0 u1 u2 u3 u4 u5 u6 u7 u8 u9 u10 u11 u12 u13 u14 : Value} {t : TypeId} (h : w.heap[b]? = some (.cells #[u0, u1, u2, u3, u4, u5, u6, u7, u8, u9, u10, u11, u12, u13, u14] t (0, 0))) :
    w.cell? ⟨b, 0, none⟩ = some u0 ∧ w.cell? ⟨b, 1, none⟩ = some u1 ∧ w.cell? ⟨b, 2, none⟩ = some u2 ∧ w.cell? ⟨b, 3, none⟩ = some u3 ∧ w.cell? ⟨b, 4, none⟩ = some u4 ∧ w.cell? ⟨b, 5, none⟩ = some u5 ∧ w.cell? ⟨b, 6, none⟩ = some u6 ∧ w.cell? ⟨b, 7, none⟩ = some u7 ∧ w.cell? ⟨b, 8, none⟩ = some u8 ∧ w.cell? ⟨b, 9, none⟩ = some u9 ∧ w.cell? ⟨b, 10, none⟩ = some u10 ∧ w.cell? ⟨b, 11, none⟩ = some u11 ∧ w.cell? ⟨b, 12, none⟩ = some u12 ∧ w.cell? ⟨b, 13, none⟩ = some u13 ∧ w.cell? ⟨b, 14, none⟩ = some u14 := by
  simp [World.cell?, h]
def DeepAOk (m n k : Nat) : Prop := ∀ (x : AT m n k) (R : Nat → Prop) (w : World) (cs : List Value), (assnV m n k) R w cs x → ∀ (b : Nat) (z : Int), z = b → b ≤ 1000 →
    Calls Tryd.prog 26 #[.agg cs.toArray, .int .i64 z] w fun e w' => e = .returned (.bool (deepA m n k x b)) ∧ Chg No w w'
set_option maxRecDepth 100000 in
set_option maxHeartbeats 4000000 in
theorem deepA_walk (m n k : Nat) (IH : Hid (DeepAOk m n k)) : DeepAOk m n (k + 1) := by
    rintro f R w cs h b _ rfl hb
    obtain ⟨ck, cA, cel, cca, cB, ckl, cck, ek, en, es, eB, ekl, eck, vk, vn, vs, vB, vkl, vck, B, capk, rfl, i1, hc, he, hv, _, _, hk⟩ := anode_cells h
    obtain ⟨w3, hw3⟩ : ∃ w3, w3 = (w.alloc (.cells #[.int .i64 (ANode.kind f), .int .i64 ck, .slice cA cel cca, .slice cB ckl cck, .int .i64 ek, .int .i64 en, .string es, .slice eB ekl eck, .int .i64 vk, .int .i64 vn, .string vs, .slice vB vkl vck, .string (ANode.field f), .int .i64 (ANode.num f), .slice B (ANode.kids f).length capk] 30)).alloc (.cells #[.int .i64 b] 3) := ⟨_, rfl⟩
    have h3 : Hid (Chg No w w3 ∧ w3.heap[w.heap.size]? = some (.cells #[.int .i64 (ANode.kind f), .int .i64 ck, .slice cA cel cca, .slice cB ckl cck, .int .i64 ek, .int .i64 en, .string es, .slice eB ekl eck, .int .i64 vk, .int .i64 vn, .string vs, .slice vB vkl vck, .string (ANode.field f), .int .i64 (ANode.num f), .slice B (ANode.kids f).length capk] 30 (0, 0)) ∧ w3.heap[w.heap.size + 1]? = some (.cells #[.int .i64 b] 3 (0, 0))) := by
      rw [hw3]; exact ⟨((Chg.refl _ _).alloc _).alloc _, at_old (heap_alloc_new _ _), at_new (by simp)⟩
    obtain ⟨p0, p1, p2, p3, p4, p5, p6, p7, p8, p9, p10, p11, p12, p13, p14⟩ := obj_15 h3.out.2.1
    have q0 := obj_1 h3.out.2.2
    by_cases hb1 : 1 ≤ b
    · rw [deepA_step hb1]
      have hd : ¬ (b : Int) < 1 := by omega
      have HC := Lib.hid (fun W (hW : Chg No w3 W) z hz => deepC_any m n _ _ W _ ((condV_good m n).no hc (h3.out.1.thenNo hW)) (b - 1) z hz (by omega))
      have HE := Lib.hid (fun W (hW : Chg No w3 W) z hz => deepE_any m _ _ W _ ((exprV_good m).no he (h3.out.1.thenNo hW)) (b - 1) z hz (by omega))
      have HV := Lib.hid (fun W (hW : Chg No w3 W) z hz => deepE_any m _ _ W _ ((exprV_good m).no hv (h3.out.1.thenNo hW)) (b - 1) z hz (by omega))
      have HO := Lib.hid (fun W (hW : Chg No w3 W) => (⟨obj_15 (hW.obj h3.out.2.1 id), obj_1 (hW.obj h3.out.2.2 id)⟩ : _ ∧ _))
      have HCF := Lib.hid (fun W0 (hW0 : Chg No w3 W0) => containsFunc_assn1 (assnV_sz m n k) (assnV_good m n k) (hk.no (assnE_good m n k) (h3.out.1.thenNo hW0)) 44 entered_deepA1 (.pointer (some ⟨w.heap.size + 1, 0, none⟩)) (fun q => deepA m n k q (b - 1)) (fun W hW i hi cs hcs => by
        have x0 : (W.alloc (.cells cs.toArray 30)).cell? ⟨w.heap.size + 1, 0, none⟩ = some (.int .i64 b) := ((Chg.refl No W).alloc _).cell (hW.cell (hW0.cell q0 id) id) id
        have HI := Lib.hid (fun W' (hW' : Chg No W W') z hz => IH.out _ _ W' cs ((assnV_good m n k).no hcs hW') (b - 1) z hz (by omega))
        obtain ⟨kd', ck', cA', cel', cca', cB', ckl', cck', ek', en', es', eB', ekl', eck', vk', vn', vs', vB', vkl', vck', fd', nm', B', kl', capk', rfl⟩ := assn_shape hcs
        generalize deepA m n k (ANode.kids f)[i] (b - 1) = dd at *
        clear hcs hk h hc he hv q0 p0 p1 p2 p3 p4 p5 p6 p7 p8 p9 p10 p11 p12 p13 p14 HC HE HV HO
        go_enter Tryd.func44, Tryd.ntmps44
        go_wp2_with (go_at_call 26; refine (HI.out _ ((Chg.refl _ _).alloc _) _ (by omega)).mono ?_; rintro e w1 ⟨rfl, h1⟩)
        go_ret
        exact ⟨rfl, ((Chg.refl _ _).alloc _).thenNo h1⟩))
      generalize deepC m n (ANode.c f) (b - 1) = a1 at *
      generalize deepE m (ANode.e f) (b - 1) = a2 at *
      generalize deepE m (ANode.v f) (b - 1) = a3 at *
      generalize (ANode.kids f).any (fun q => deepA m n k q (b - 1)) = a4 at *
      clear hk h hc he hv
      go_enter Tryd.func26, Tryd.ntmps26
      go_upto_region 1 with fail
      rw [← hw3]
      clear hw3
      cases a1
      rotate_left
      · go_wp2_with (go_at_call 41; refine (HC.out _ (Chg.refl _ _) _ (by omega)).mono ?_; rintro e w4 ⟨rfl, h4⟩)
        go_ret
        exact ⟨by simp, h3.out.1.thenNo h4⟩
      cases a2
      rotate_left
      · go_wp2_with (first
          | (go_at_call 41; refine (HC.out _ (Chg.refl _ _) _ (by omega)).mono ?_; rintro e w4 ⟨rfl, h4⟩; have H4 := Lib.hid h4; clear h4 p0 p1 p2 p3 p4 p5 p6 p7 p8 p9 p10 p11 p12 p13 p14 q0; obtain ⟨⟨p0, p1, p2, p3, p4, p5, p6, p7, p8, p9, p10, p11, p12, p13, p14⟩, q0⟩ := HO.out _ H4.out)
          | (go_at_call 42; refine (HE.out _ H4.out _ (by omega)).mono ?_; rintro e w5 ⟨rfl, h5⟩))
        go_ret
        exact ⟨by simp, h3.out.1.thenNo (H4.out.thenNo h5)⟩
      cases a3
      rotate_left
      · go_wp2_with (first
          | (go_at_call 41; refine (HC.out _ (Chg.refl _ _) _ (by omega)).mono ?_; rintro e w4 ⟨rfl, h4⟩; have H4 := Lib.hid h4; clear h4 p0 p1 p2 p3 p4 p5 p6 p7 p8 p9 p10 p11 p12 p13 p14 q0; obtain ⟨⟨p0, p1, p2, p3, p4, p5, p6, p7, p8, p9, p10, p11, p12, p13, p14⟩, q0⟩ := HO.out _ H4.out)
          | (go_at_call 42; with_reducible refine (HE.out _ H4.out _ (by omega)).mono ?_; rintro e w5 ⟨rfl, h5⟩; have H5 := Lib.hid (H4.out.thenNo h5); clear h5 p0 p1 p2 p3 p4 p5 p6 p7 p8 p9 p10 p11 p12 p13 p14 q0 HE; obtain ⟨⟨p0, p1, p2, p3, p4, p5, p6, p7, p8, p9, p10, p11, p12, p13, p14⟩, q0⟩ := HO.out _ H5.out)
          | (go_at_call 42; with_reducible refine (HV.out _ H5.out _ (by omega)).mono ?_; rintro e w6 ⟨rfl, h6⟩))
        go_ret
        exact ⟨by simp, h3.out.1.thenNo (H5.out.thenNo h6)⟩
      · go_wp2_with (first
          | (go_at_call 41; refine (HC.out _ (Chg.refl _ _) _ (by omega)).mono ?_; rintro e w4 ⟨rfl, h4⟩; have H4 := Lib.hid h4; clear h4 p0 p1 p2 p3 p4 p5 p6 p7 p8 p9 p10 p11 p12 p13 p14 q0; obtain ⟨⟨p0, p1, p2, p3, p4, p5, p6, p7, p8, p9, p10, p11, p12, p13, p14⟩, q0⟩ := HO.out _ H4.out)
          | (go_at_call 42; with_reducible refine (HE.out _ H4.out _ (by omega)).mono ?_; rintro e w5 ⟨rfl, h5⟩; have H5 := Lib.hid (H4.out.thenNo h5); clear h5 p0 p1 p2 p3 p4 p5 p6 p7 p8 p9 p10 p11 p12 p13 p14 q0 HE; obtain ⟨⟨p0, p1, p2, p3, p4, p5, p6, p7, p8, p9, p10, p11, p12, p13, p14⟩, q0⟩ := HO.out _ H5.out)
          | (go_at_call 42; with_reducible refine (HV.out _ H5.out _ (by omega)).mono ?_; rintro e w6 ⟨rfl, h6⟩; have H6 := Lib.hid (H5.out.thenNo h6); clear h6 p0 p1 p2 p3 p4 p5 p6 p7 p8 p9 p10 p11 p12 p13 p14 q0; obtain ⟨⟨p0, p1, p2, p3, p4, p5, p6, p7, p8, p9, p10, p11, p12, p13, p14⟩, q0⟩ := HO.out _ H6.out)
          | (go_at_call 43; refine (HCF.out _ H6.out).mono ?_; rintro e w1 ⟨rfl, h1⟩))
        go_ret
        exact ⟨by simp, h3.out.1.thenNo (H6.out.thenNo h1)⟩
    · obtain rfl : b = 0 := by omega
      rw [show ((0 : Nat) : Int) = 0 from rfl] at hw3 q0
      rw [deepA_zero]
      clear hk h hc he hv
      go_enter Tryd.func26, Tryd.ntmps26
      go_upto_region 1 with fail
      rw [← hw3]
      clear hw3
      go_wp2_with fail
      go_ret
      first | exact ⟨rfl, h3.out.1⟩ | exact ⟨rfl, ((Chg.refl _ _).alloc _).alloc _⟩
theorem deepA_any (m n : Nat) : ∀ k, DeepAOk m n k
  | 0 => fun _ _ _ _ h => h.elim
  | k + 1 => deepA_walk m n k (Lib.hid (deepA_any m n k))
end Go.Proofs.YtgofncopoieigaaDoor
