/-
  show.assn.
-/
import Derived.Test.YtpmndblakmobdaaGreatDoorShF
import Derived.Test.YtpmndblakmobdaaGreatDoorMB
namespace Go.Proofs.YtpmndblakmobdaaGreatDoor
open Go Go.RowKit

def AssnOk (m n k : Nat) : Prop := ∀ (x : AT m n k) (R : Nat → Prop) (w : World) (cs : List Value), Keys w → (assnV m n k) R w cs x →
    Calls Tryz.prog 73 #[.agg cs.toArray] w fun e w' => e = .returned (.bool (okA m n k x)) ∧ Chg No w w'
set_option maxRecDepth 10000 in
theorem entered_assn1 : Entered 97 := fun _ _ => rfl
theorem assns_of {m n k : Nat} (IH : Hid (AssnOk m n k)) {R : Nat → Prop} {w : World} {A : Option Addr} {l : List (AT m n k)} {cap : Nat} (hK : Keys w) (hl : Assns R w A l cap) :
    Calls Tryz.prog 84 #[.slice A l.length cap, .func (.func 97) #[] #[]] w fun e w' => e = .returned (.bool (!l.all (okA m n k))) ∧ Chg No w w' := by
  have HCF := containsFunc_assn0 (assnV_sz m n k) (assnV_good m n k) hl 97 entered_assn1 (fun k' => !okA m n k k') (fun W hW i hi cs hcs => by
    have HI := Lib.hid (fun W' (hW' : Chg No W W') => IH.out _ _ W' cs ((hK.no hW).no hW') ((assnV_good m n k).no hcs hW'))
    obtain ⟨kd', ck', cA', cel', cca', cB', ckl', cck', ek', en', es', eB', ekl', eck', vk', vn', vs', vB', vkl', vck', fd', nm', B', kl', capk', rfl⟩ := assn_shape hcs
    generalize okA m n k l[i] = dd at *
    clear hcs hl hK
    go_enter Tryz.func97, Tryz.ntmps97
    go_wp2_with (go_at_call 73; refine (HI.out _ ((Chg.refl _ _).alloc _)).mono ?_; rintro e w1 ⟨rfl, h1⟩)
    go_ret
    exact ⟨rfl, ((Chg.refl _ _).alloc _).thenNo h1⟩)
  rw [any_not] at HCF
  exact HCF

set_option maxRecDepth 100000 in
set_option maxHeartbeats 40000000 in
theorem assn_walk (m n k : Nat) (IH : Hid (AssnOk m n k)) : AssnOk m n (k + 1) := by
    rintro f R w cs hK h
    obtain ⟨ck, cA, cel, cca, cB, ckl, cck, ek, en, es, eB, ekl, eck, vk, vn, vs, vB, vkl, vck, B, capk, rfl, i1, hc, he, hv, hfl, i2, hk⟩ := anode_cells h
    obtain ⟨w3, hw3⟩ : ∃ w3, w3 = w.alloc (.cells #[.int .i64 (ANode.kind f), .int .i64 ck, .slice cA cel cca, .slice cB ckl cck, .int .i64 ek, .int .i64 en, .string es, .slice eB ekl eck, .int .i64 vk, .int .i64 vn, .string vs, .slice vB vkl vck, .string (ANode.field f), .int .i64 (ANode.num f), .slice B (ANode.kids f).length capk] 92) := ⟨_, rfl⟩
    have h3 : Hid (Chg No w w3 ∧ w3.heap[w.heap.size]? = some (.cells #[.int .i64 (ANode.kind f), .int .i64 ck, .slice cA cel cca, .slice cB ckl cck, .int .i64 ek, .int .i64 en, .string es, .slice eB ekl eck, .int .i64 vk, .int .i64 vn, .string vs, .slice vB vkl vck, .string (ANode.field f), .int .i64 (ANode.num f), .slice B (ANode.kids f).length capk] 92 (0, 0))) := by
      rw [hw3]; exact ⟨(Chg.refl _ _).alloc _, heap_alloc_new _ _⟩
    have HO := Lib.hid (fun W (hW : Chg No w3 W) => obj_15 (hW.obj h3.out.2 id))
    have HCC := Lib.hid (fun W (hW : Chg No w3 W) => cond_any m n _ _ W _ ((hK.no h3.out.1).no hW) ((condV_good m n).no ((condV_good m n).no hc h3.out.1) hW))
    have HHC := Lib.hid (fun W (hW : Chg No w3 W) => hasC_any ((condV_good m n).no ((condV_good m n).no hc h3.out.1) hW))
    have HEE := Lib.hid (fun W (hW : Chg No w3 W) => expr_any m _ _ W _ ((hK.no h3.out.1).no hW) ((exprV_good m).no ((exprV_good m).no he h3.out.1) hW))
    have HHE := Lib.hid (fun W (hW : Chg No w3 W) => hasE_any ((exprV_good m).no ((exprV_good m).no he h3.out.1) hW))
    have HVE := Lib.hid (fun W (hW : Chg No w3 W) => expr_any m _ _ W _ ((hK.no h3.out.1).no hW) ((exprV_good m).no ((exprV_good m).no hv h3.out.1) hW))
    have HHV := Lib.hid (fun W (hW : Chg No w3 W) => hasE_any ((exprV_good m).no ((exprV_good m).no hv h3.out.1) hW))
    have HNM := Lib.hid (fun W (hW : Chg No w3 W) => name_any (ANode.field f) hfl ((hK.no h3.out.1).no hW))
    have HKS := Lib.hid (fun W (hW : Chg No w3 W) => assns_of IH ((hK.no h3.out.1).no hW) ((hk.no (assnE_good m n k) h3.out.1).no (assnE_good m n k) hW))
    have hb2 := hk.big
    unfold big at hb2
    obtain ⟨ans, hans⟩ : ∃ ans, ans = okA m n (k + 1) f := ⟨_, rfl⟩
    rw [← hans]
    rw [show okA m n (k + 1) f = (aShape (ANode.kind f) (ANode.num f) (ANode.field f) (ANode.kids f).length (okC m n (ANode.c f)) (hasC m n (ANode.c f)) (okE m (ANode.e f)) (hasE m (ANode.e f)) (okE m (ANode.v f)) (hasE m (ANode.v f)) && (ANode.kids f).all (okA m n k)) from rfl] at hans
    have HA := Lib.hid hans
    clear hans h hk hc he hv hK IH
    unfold aShape at HA
    generalize (ANode.kids f).all (okA m n k) = ka at *
    generalize okC m n (ANode.c f) = bC at *
    generalize hasC m n (ANode.c f) = bHC at *
    generalize okE m (ANode.e f) = bE at *
    generalize hasE m (ANode.e f) = bHE at *
    generalize okE m (ANode.v f) = bV at *
    generalize hasE m (ANode.v f) = bHV at *
    generalize nameB (ANode.field f) = nb at *
    generalize ANode.kind f = kd at *
    generalize ANode.field f = fd at *
    generalize ANode.num f = num at *
    generalize (ANode.kids f).length = kl at *
    have G0 : Hid (Chg No w3 w3) := Chg.refl _ _
    obtain ⟨p0, p1, p2, p3, p4, p5, p6, p7, p8, p9, p10, p11, p12, p13, p14⟩ := HO.out _ G0.out
    go_enter Tryz.func73, Tryz.ntmps73
    go_upto_region 1 with fail
    rw [← hw3]
    clear hw3
    by_cases k0 : kd = 0
    · subst k0
      by_cases cz : kl = 0
      rotate_left
      · have f_cz := (beqF (by omega) : ((kl : Int) == 0) = false)
        obtain rfl : ans = false := by rw [HA.out]; simp [*]
        clear HA
        go_wp2_with fail
        go_ret
        exact ⟨rfl, h3.out.1.thenNo G0.out⟩
      have f_cz := (beqT (by omega) : ((kl : Int) == 0) = true)
      cases bHC
      rotate_left
      · obtain rfl : ans = false := by rw [HA.out]; simp [*]
        clear HA cz
        go_wp2_with (go_at_call 94; with_reducible refine (HHC.out _ G0.out).mono ?_; rintro e w4 ⟨rfl, h4⟩; have G1 := Lib.hid (G0.out.thenNo h4); clear h4 p0 p1 p2 p3 p4 p5 p6 p7 p8 p9 p10 p11 p12 p13 p14 HHC; obtain ⟨p0, p1, p2, p3, p4, p5, p6, p7, p8, p9, p10, p11, p12, p13, p14⟩ := HO.out _ G1.out)
        go_ret
        exact ⟨rfl, h3.out.1.thenNo G1.out⟩
      cases bHE
      rotate_left
      · obtain rfl : ans = false := by rw [HA.out]; simp [*]
        clear HA cz
        go_wp2_with (first
          | (go_at_call 94; with_reducible refine (HHC.out _ G0.out).mono ?_; rintro e w4 ⟨rfl, h4⟩; have G1 := Lib.hid (G0.out.thenNo h4); clear h4 p0 p1 p2 p3 p4 p5 p6 p7 p8 p9 p10 p11 p12 p13 p14 HHC; obtain ⟨p0, p1, p2, p3, p4, p5, p6, p7, p8, p9, p10, p11, p12, p13, p14⟩ := HO.out _ G1.out)
          | (go_at_call 96; with_reducible refine (HHE.out _ G1.out).mono ?_; rintro e w5 ⟨rfl, h5⟩; have G2 := Lib.hid (G1.out.thenNo h5); clear h5 p0 p1 p2 p3 p4 p5 p6 p7 p8 p9 p10 p11 p12 p13 p14 HHE; obtain ⟨p0, p1, p2, p3, p4, p5, p6, p7, p8, p9, p10, p11, p12, p13, p14⟩ := HO.out _ G2.out))
        go_ret
        exact ⟨rfl, h3.out.1.thenNo G2.out⟩
      by_cases ce : fd.toList.isEmpty = true
      rotate_left
      · have f_ce := ce
        obtain rfl : ans = false := by rw [HA.out]; simp [*]
        clear HA cz
        go_wp2_with (first
          | (go_at_call 94; with_reducible refine (HHC.out _ G0.out).mono ?_; rintro e w4 ⟨rfl, h4⟩; have G1 := Lib.hid (G0.out.thenNo h4); clear h4 p0 p1 p2 p3 p4 p5 p6 p7 p8 p9 p10 p11 p12 p13 p14 HHC; obtain ⟨p0, p1, p2, p3, p4, p5, p6, p7, p8, p9, p10, p11, p12, p13, p14⟩ := HO.out _ G1.out)
          | (go_at_call 96; with_reducible refine (HHE.out _ G1.out).mono ?_; rintro e w5 ⟨rfl, h5⟩; have G2 := Lib.hid (G1.out.thenNo h5); clear h5 p0 p1 p2 p3 p4 p5 p6 p7 p8 p9 p10 p11 p12 p13 p14 HHE; obtain ⟨p0, p1, p2, p3, p4, p5, p6, p7, p8, p9, p10, p11, p12, p13, p14⟩ := HO.out _ G2.out))
        go_ret
        exact ⟨rfl, h3.out.1.thenNo G2.out⟩
      have f_ce := ce
      by_cases cn : num = 0
      rotate_left
      · have f_cn := beqF cn
        obtain rfl : ans = false := by rw [HA.out]; simp [*]
        clear HA cz
        go_wp2_with (first
          | (go_at_call 94; with_reducible refine (HHC.out _ G0.out).mono ?_; rintro e w4 ⟨rfl, h4⟩; have G1 := Lib.hid (G0.out.thenNo h4); clear h4 p0 p1 p2 p3 p4 p5 p6 p7 p8 p9 p10 p11 p12 p13 p14 HHC; obtain ⟨p0, p1, p2, p3, p4, p5, p6, p7, p8, p9, p10, p11, p12, p13, p14⟩ := HO.out _ G1.out)
          | (go_at_call 96; with_reducible refine (HHE.out _ G1.out).mono ?_; rintro e w5 ⟨rfl, h5⟩; have G2 := Lib.hid (G1.out.thenNo h5); clear h5 p0 p1 p2 p3 p4 p5 p6 p7 p8 p9 p10 p11 p12 p13 p14 HHE; obtain ⟨p0, p1, p2, p3, p4, p5, p6, p7, p8, p9, p10, p11, p12, p13, p14⟩ := HO.out _ G2.out))
        go_ret
        exact ⟨rfl, h3.out.1.thenNo G2.out⟩
      have f_cn := beqT cn
      cases bHV
      rotate_left
      · obtain rfl : ans = false := by rw [HA.out]; simp [*]
        clear HA cz cn
        go_wp2_with (first
          | (go_at_call 94; with_reducible refine (HHC.out _ G0.out).mono ?_; rintro e w4 ⟨rfl, h4⟩; have G1 := Lib.hid (G0.out.thenNo h4); clear h4 p0 p1 p2 p3 p4 p5 p6 p7 p8 p9 p10 p11 p12 p13 p14 HHC; obtain ⟨p0, p1, p2, p3, p4, p5, p6, p7, p8, p9, p10, p11, p12, p13, p14⟩ := HO.out _ G1.out)
          | (go_at_call 96; with_reducible refine (HHE.out _ G1.out).mono ?_; rintro e w5 ⟨rfl, h5⟩; have G2 := Lib.hid (G1.out.thenNo h5); clear h5 p0 p1 p2 p3 p4 p5 p6 p7 p8 p9 p10 p11 p12 p13 p14 HHE; obtain ⟨p0, p1, p2, p3, p4, p5, p6, p7, p8, p9, p10, p11, p12, p13, p14⟩ := HO.out _ G2.out)
          | (go_at_call 96; with_reducible refine (HHV.out _ G2.out).mono ?_; rintro e w6 ⟨rfl, h6⟩; have G3 := Lib.hid (G2.out.thenNo h6); clear h6 p0 p1 p2 p3 p4 p5 p6 p7 p8 p9 p10 p11 p12 p13 p14 HHV; obtain ⟨p0, p1, p2, p3, p4, p5, p6, p7, p8, p9, p10, p11, p12, p13, p14⟩ := HO.out _ G3.out))
        go_ret
        exact ⟨rfl, h3.out.1.thenNo G3.out⟩
      obtain rfl : ans = ka := by rw [HA.out]; simp [*]
      clear HA cz cn
      go_wp2_with (first
        | (go_at_call 94; with_reducible refine (HHC.out _ G0.out).mono ?_; rintro e w4 ⟨rfl, h4⟩; have G1 := Lib.hid (G0.out.thenNo h4); clear h4 p0 p1 p2 p3 p4 p5 p6 p7 p8 p9 p10 p11 p12 p13 p14 HHC; obtain ⟨p0, p1, p2, p3, p4, p5, p6, p7, p8, p9, p10, p11, p12, p13, p14⟩ := HO.out _ G1.out)
        | (go_at_call 96; with_reducible refine (HHE.out _ G1.out).mono ?_; rintro e w5 ⟨rfl, h5⟩; have G2 := Lib.hid (G1.out.thenNo h5); clear h5 p0 p1 p2 p3 p4 p5 p6 p7 p8 p9 p10 p11 p12 p13 p14 HHE; obtain ⟨p0, p1, p2, p3, p4, p5, p6, p7, p8, p9, p10, p11, p12, p13, p14⟩ := HO.out _ G2.out)
        | (go_at_call 96; with_reducible refine (HHV.out _ G2.out).mono ?_; rintro e w6 ⟨rfl, h6⟩; have G3 := Lib.hid (G2.out.thenNo h6); clear h6 p0 p1 p2 p3 p4 p5 p6 p7 p8 p9 p10 p11 p12 p13 p14 HHV; obtain ⟨p0, p1, p2, p3, p4, p5, p6, p7, p8, p9, p10, p11, p12, p13, p14⟩ := HO.out _ G3.out)
        | (go_at_call 84; with_reducible refine (HKS.out _ G3.out).mono ?_; rintro e w7 ⟨rfl, h7⟩; have G4 := Lib.hid (G3.out.thenNo h7); clear h7 p0 p1 p2 p3 p4 p5 p6 p7 p8 p9 p10 p11 p12 p13 p14 HKS; obtain ⟨p0, p1, p2, p3, p4, p5, p6, p7, p8, p9, p10, p11, p12, p13, p14⟩ := HO.out _ G4.out))
      go_ret
      exact ⟨by simp, h3.out.1.thenNo G4.out⟩
    have n0 : (kd == 0) = false := beqF k0
    by_cases k1 : kd = 1
    · subst k1
      by_cases cz : kl = 0
      rotate_left
      · have f_cz := (beqF (by omega) : ((kl : Int) == 0) = false)
        obtain rfl : ans = false := by rw [HA.out]; simp [*]
        clear HA
        go_wp2_with fail
        go_ret
        exact ⟨rfl, h3.out.1.thenNo G0.out⟩
      have f_cz := (beqT (by omega) : ((kl : Int) == 0) = true)
      cases bC
      · obtain rfl : ans = false := by rw [HA.out]; simp [*]
        clear HA cz
        go_wp2_with (go_at_call 93; with_reducible refine (HCC.out _ G0.out).mono ?_; rintro e w4 ⟨rfl, h4⟩; have G1 := Lib.hid (G0.out.thenNo h4); clear h4 p0 p1 p2 p3 p4 p5 p6 p7 p8 p9 p10 p11 p12 p13 p14 HCC; obtain ⟨p0, p1, p2, p3, p4, p5, p6, p7, p8, p9, p10, p11, p12, p13, p14⟩ := HO.out _ G1.out)
        go_ret
        exact ⟨rfl, h3.out.1.thenNo G1.out⟩
      cases bHE
      rotate_left
      · obtain rfl : ans = false := by rw [HA.out]; simp [*]
        clear HA cz
        go_wp2_with (first
          | (go_at_call 93; with_reducible refine (HCC.out _ G0.out).mono ?_; rintro e w4 ⟨rfl, h4⟩; have G1 := Lib.hid (G0.out.thenNo h4); clear h4 p0 p1 p2 p3 p4 p5 p6 p7 p8 p9 p10 p11 p12 p13 p14 HCC; obtain ⟨p0, p1, p2, p3, p4, p5, p6, p7, p8, p9, p10, p11, p12, p13, p14⟩ := HO.out _ G1.out)
          | (go_at_call 96; with_reducible refine (HHE.out _ G1.out).mono ?_; rintro e w5 ⟨rfl, h5⟩; have G2 := Lib.hid (G1.out.thenNo h5); clear h5 p0 p1 p2 p3 p4 p5 p6 p7 p8 p9 p10 p11 p12 p13 p14 HHE; obtain ⟨p0, p1, p2, p3, p4, p5, p6, p7, p8, p9, p10, p11, p12, p13, p14⟩ := HO.out _ G2.out))
        go_ret
        exact ⟨rfl, h3.out.1.thenNo G2.out⟩
      by_cases ce : fd.toList.isEmpty = true
      rotate_left
      · have f_ce := ce
        obtain rfl : ans = false := by rw [HA.out]; simp [*]
        clear HA cz
        go_wp2_with (first
          | (go_at_call 93; with_reducible refine (HCC.out _ G0.out).mono ?_; rintro e w4 ⟨rfl, h4⟩; have G1 := Lib.hid (G0.out.thenNo h4); clear h4 p0 p1 p2 p3 p4 p5 p6 p7 p8 p9 p10 p11 p12 p13 p14 HCC; obtain ⟨p0, p1, p2, p3, p4, p5, p6, p7, p8, p9, p10, p11, p12, p13, p14⟩ := HO.out _ G1.out)
          | (go_at_call 96; with_reducible refine (HHE.out _ G1.out).mono ?_; rintro e w5 ⟨rfl, h5⟩; have G2 := Lib.hid (G1.out.thenNo h5); clear h5 p0 p1 p2 p3 p4 p5 p6 p7 p8 p9 p10 p11 p12 p13 p14 HHE; obtain ⟨p0, p1, p2, p3, p4, p5, p6, p7, p8, p9, p10, p11, p12, p13, p14⟩ := HO.out _ G2.out))
        go_ret
        exact ⟨rfl, h3.out.1.thenNo G2.out⟩
      have f_ce := ce
      by_cases cn : num = 0
      rotate_left
      · have f_cn := beqF cn
        obtain rfl : ans = false := by rw [HA.out]; simp [*]
        clear HA cz
        go_wp2_with (first
          | (go_at_call 93; with_reducible refine (HCC.out _ G0.out).mono ?_; rintro e w4 ⟨rfl, h4⟩; have G1 := Lib.hid (G0.out.thenNo h4); clear h4 p0 p1 p2 p3 p4 p5 p6 p7 p8 p9 p10 p11 p12 p13 p14 HCC; obtain ⟨p0, p1, p2, p3, p4, p5, p6, p7, p8, p9, p10, p11, p12, p13, p14⟩ := HO.out _ G1.out)
          | (go_at_call 96; with_reducible refine (HHE.out _ G1.out).mono ?_; rintro e w5 ⟨rfl, h5⟩; have G2 := Lib.hid (G1.out.thenNo h5); clear h5 p0 p1 p2 p3 p4 p5 p6 p7 p8 p9 p10 p11 p12 p13 p14 HHE; obtain ⟨p0, p1, p2, p3, p4, p5, p6, p7, p8, p9, p10, p11, p12, p13, p14⟩ := HO.out _ G2.out))
        go_ret
        exact ⟨rfl, h3.out.1.thenNo G2.out⟩
      have f_cn := beqT cn
      cases bHV
      rotate_left
      · obtain rfl : ans = false := by rw [HA.out]; simp [*]
        clear HA cz cn
        go_wp2_with (first
          | (go_at_call 93; with_reducible refine (HCC.out _ G0.out).mono ?_; rintro e w4 ⟨rfl, h4⟩; have G1 := Lib.hid (G0.out.thenNo h4); clear h4 p0 p1 p2 p3 p4 p5 p6 p7 p8 p9 p10 p11 p12 p13 p14 HCC; obtain ⟨p0, p1, p2, p3, p4, p5, p6, p7, p8, p9, p10, p11, p12, p13, p14⟩ := HO.out _ G1.out)
          | (go_at_call 96; with_reducible refine (HHE.out _ G1.out).mono ?_; rintro e w5 ⟨rfl, h5⟩; have G2 := Lib.hid (G1.out.thenNo h5); clear h5 p0 p1 p2 p3 p4 p5 p6 p7 p8 p9 p10 p11 p12 p13 p14 HHE; obtain ⟨p0, p1, p2, p3, p4, p5, p6, p7, p8, p9, p10, p11, p12, p13, p14⟩ := HO.out _ G2.out)
          | (go_at_call 96; with_reducible refine (HHV.out _ G2.out).mono ?_; rintro e w6 ⟨rfl, h6⟩; have G3 := Lib.hid (G2.out.thenNo h6); clear h6 p0 p1 p2 p3 p4 p5 p6 p7 p8 p9 p10 p11 p12 p13 p14 HHV; obtain ⟨p0, p1, p2, p3, p4, p5, p6, p7, p8, p9, p10, p11, p12, p13, p14⟩ := HO.out _ G3.out))
        go_ret
        exact ⟨rfl, h3.out.1.thenNo G3.out⟩
      obtain rfl : ans = ka := by rw [HA.out]; simp [*]
      clear HA cz cn
      go_wp2_with (first
        | (go_at_call 93; with_reducible refine (HCC.out _ G0.out).mono ?_; rintro e w4 ⟨rfl, h4⟩; have G1 := Lib.hid (G0.out.thenNo h4); clear h4 p0 p1 p2 p3 p4 p5 p6 p7 p8 p9 p10 p11 p12 p13 p14 HCC; obtain ⟨p0, p1, p2, p3, p4, p5, p6, p7, p8, p9, p10, p11, p12, p13, p14⟩ := HO.out _ G1.out)
        | (go_at_call 96; with_reducible refine (HHE.out _ G1.out).mono ?_; rintro e w5 ⟨rfl, h5⟩; have G2 := Lib.hid (G1.out.thenNo h5); clear h5 p0 p1 p2 p3 p4 p5 p6 p7 p8 p9 p10 p11 p12 p13 p14 HHE; obtain ⟨p0, p1, p2, p3, p4, p5, p6, p7, p8, p9, p10, p11, p12, p13, p14⟩ := HO.out _ G2.out)
        | (go_at_call 96; with_reducible refine (HHV.out _ G2.out).mono ?_; rintro e w6 ⟨rfl, h6⟩; have G3 := Lib.hid (G2.out.thenNo h6); clear h6 p0 p1 p2 p3 p4 p5 p6 p7 p8 p9 p10 p11 p12 p13 p14 HHV; obtain ⟨p0, p1, p2, p3, p4, p5, p6, p7, p8, p9, p10, p11, p12, p13, p14⟩ := HO.out _ G3.out)
        | (go_at_call 84; with_reducible refine (HKS.out _ G3.out).mono ?_; rintro e w7 ⟨rfl, h7⟩; have G4 := Lib.hid (G3.out.thenNo h7); clear h7 p0 p1 p2 p3 p4 p5 p6 p7 p8 p9 p10 p11 p12 p13 p14 HKS; obtain ⟨p0, p1, p2, p3, p4, p5, p6, p7, p8, p9, p10, p11, p12, p13, p14⟩ := HO.out _ G4.out))
      go_ret
      exact ⟨by simp, h3.out.1.thenNo G4.out⟩
    have n1 : (kd == 1) = false := beqF k1
    by_cases k2 : kd = 2
    · subst k2
      by_cases cz : kl = 0
      rotate_left
      · have f_cz := (beqF (by omega) : ((kl : Int) == 0) = false)
        obtain rfl : ans = false := by rw [HA.out]; simp [*]
        clear HA
        go_wp2_with fail
        go_ret
        exact ⟨rfl, h3.out.1.thenNo G0.out⟩
      have f_cz := (beqT (by omega) : ((kl : Int) == 0) = true)
      cases bHC
      rotate_left
      · obtain rfl : ans = false := by rw [HA.out]; simp [*]
        clear HA cz
        go_wp2_with (go_at_call 94; with_reducible refine (HHC.out _ G0.out).mono ?_; rintro e w4 ⟨rfl, h4⟩; have G1 := Lib.hid (G0.out.thenNo h4); clear h4 p0 p1 p2 p3 p4 p5 p6 p7 p8 p9 p10 p11 p12 p13 p14 HHC; obtain ⟨p0, p1, p2, p3, p4, p5, p6, p7, p8, p9, p10, p11, p12, p13, p14⟩ := HO.out _ G1.out)
        go_ret
        exact ⟨rfl, h3.out.1.thenNo G1.out⟩
      cases bE
      · obtain rfl : ans = false := by rw [HA.out]; simp [*]
        clear HA cz
        go_wp2_with (first
          | (go_at_call 94; with_reducible refine (HHC.out _ G0.out).mono ?_; rintro e w4 ⟨rfl, h4⟩; have G1 := Lib.hid (G0.out.thenNo h4); clear h4 p0 p1 p2 p3 p4 p5 p6 p7 p8 p9 p10 p11 p12 p13 p14 HHC; obtain ⟨p0, p1, p2, p3, p4, p5, p6, p7, p8, p9, p10, p11, p12, p13, p14⟩ := HO.out _ G1.out)
          | (go_at_call 95; with_reducible refine (HEE.out _ G1.out).mono ?_; rintro e w5 ⟨rfl, h5⟩; have G2 := Lib.hid (G1.out.thenNo h5); clear h5 p0 p1 p2 p3 p4 p5 p6 p7 p8 p9 p10 p11 p12 p13 p14 HEE; obtain ⟨p0, p1, p2, p3, p4, p5, p6, p7, p8, p9, p10, p11, p12, p13, p14⟩ := HO.out _ G2.out))
        go_ret
        exact ⟨rfl, h3.out.1.thenNo G2.out⟩
      cases nb
      · obtain rfl : ans = false := by rw [HA.out]; simp [*]
        clear HA cz
        go_wp2_with (first
          | (go_at_call 94; with_reducible refine (HHC.out _ G0.out).mono ?_; rintro e w4 ⟨rfl, h4⟩; have G1 := Lib.hid (G0.out.thenNo h4); clear h4 p0 p1 p2 p3 p4 p5 p6 p7 p8 p9 p10 p11 p12 p13 p14 HHC; obtain ⟨p0, p1, p2, p3, p4, p5, p6, p7, p8, p9, p10, p11, p12, p13, p14⟩ := HO.out _ G1.out)
          | (go_at_call 95; with_reducible refine (HEE.out _ G1.out).mono ?_; rintro e w5 ⟨rfl, h5⟩; have G2 := Lib.hid (G1.out.thenNo h5); clear h5 p0 p1 p2 p3 p4 p5 p6 p7 p8 p9 p10 p11 p12 p13 p14 HEE; obtain ⟨p0, p1, p2, p3, p4, p5, p6, p7, p8, p9, p10, p11, p12, p13, p14⟩ := HO.out _ G2.out)
          | (go_at_call 71; with_reducible refine (HNM.out _ G2.out).mono ?_; rintro e w6 ⟨rfl, h6⟩; have G3 := Lib.hid (G2.out.thenNo h6); clear h6 p0 p1 p2 p3 p4 p5 p6 p7 p8 p9 p10 p11 p12 p13 p14 HNM; obtain ⟨p0, p1, p2, p3, p4, p5, p6, p7, p8, p9, p10, p11, p12, p13, p14⟩ := HO.out _ G3.out))
        go_ret
        exact ⟨rfl, h3.out.1.thenNo G3.out⟩
      by_cases cl : 0 ≤ num
      rotate_left
      · have f_cl := cl
        obtain rfl : ans = false := by rw [HA.out]; simp [*]
        clear HA cz
        go_wp2_with (first
          | (go_at_call 94; with_reducible refine (HHC.out _ G0.out).mono ?_; rintro e w4 ⟨rfl, h4⟩; have G1 := Lib.hid (G0.out.thenNo h4); clear h4 p0 p1 p2 p3 p4 p5 p6 p7 p8 p9 p10 p11 p12 p13 p14 HHC; obtain ⟨p0, p1, p2, p3, p4, p5, p6, p7, p8, p9, p10, p11, p12, p13, p14⟩ := HO.out _ G1.out)
          | (go_at_call 95; with_reducible refine (HEE.out _ G1.out).mono ?_; rintro e w5 ⟨rfl, h5⟩; have G2 := Lib.hid (G1.out.thenNo h5); clear h5 p0 p1 p2 p3 p4 p5 p6 p7 p8 p9 p10 p11 p12 p13 p14 HEE; obtain ⟨p0, p1, p2, p3, p4, p5, p6, p7, p8, p9, p10, p11, p12, p13, p14⟩ := HO.out _ G2.out)
          | (go_at_call 71; with_reducible refine (HNM.out _ G2.out).mono ?_; rintro e w6 ⟨rfl, h6⟩; have G3 := Lib.hid (G2.out.thenNo h6); clear h6 p0 p1 p2 p3 p4 p5 p6 p7 p8 p9 p10 p11 p12 p13 p14 HNM; obtain ⟨p0, p1, p2, p3, p4, p5, p6, p7, p8, p9, p10, p11, p12, p13, p14⟩ := HO.out _ G3.out))
        go_ret
        exact ⟨rfl, h3.out.1.thenNo G3.out⟩
      have f_cl := cl
      by_cases cu : num ≤ 1073741824
      rotate_left
      · have f_cu := cu
        obtain rfl : ans = false := by rw [HA.out]; simp [*]
        clear HA cz
        go_wp2_with (first
          | (go_at_call 94; with_reducible refine (HHC.out _ G0.out).mono ?_; rintro e w4 ⟨rfl, h4⟩; have G1 := Lib.hid (G0.out.thenNo h4); clear h4 p0 p1 p2 p3 p4 p5 p6 p7 p8 p9 p10 p11 p12 p13 p14 HHC; obtain ⟨p0, p1, p2, p3, p4, p5, p6, p7, p8, p9, p10, p11, p12, p13, p14⟩ := HO.out _ G1.out)
          | (go_at_call 95; with_reducible refine (HEE.out _ G1.out).mono ?_; rintro e w5 ⟨rfl, h5⟩; have G2 := Lib.hid (G1.out.thenNo h5); clear h5 p0 p1 p2 p3 p4 p5 p6 p7 p8 p9 p10 p11 p12 p13 p14 HEE; obtain ⟨p0, p1, p2, p3, p4, p5, p6, p7, p8, p9, p10, p11, p12, p13, p14⟩ := HO.out _ G2.out)
          | (go_at_call 71; with_reducible refine (HNM.out _ G2.out).mono ?_; rintro e w6 ⟨rfl, h6⟩; have G3 := Lib.hid (G2.out.thenNo h6); clear h6 p0 p1 p2 p3 p4 p5 p6 p7 p8 p9 p10 p11 p12 p13 p14 HNM; obtain ⟨p0, p1, p2, p3, p4, p5, p6, p7, p8, p9, p10, p11, p12, p13, p14⟩ := HO.out _ G3.out))
        go_ret
        exact ⟨rfl, h3.out.1.thenNo G3.out⟩
      have f_cu := cu
      cases bHV
      rotate_left
      · obtain rfl : ans = false := by rw [HA.out]; simp [*]
        clear HA cz
        go_wp2_with (first
          | (go_at_call 94; with_reducible refine (HHC.out _ G0.out).mono ?_; rintro e w4 ⟨rfl, h4⟩; have G1 := Lib.hid (G0.out.thenNo h4); clear h4 p0 p1 p2 p3 p4 p5 p6 p7 p8 p9 p10 p11 p12 p13 p14 HHC; obtain ⟨p0, p1, p2, p3, p4, p5, p6, p7, p8, p9, p10, p11, p12, p13, p14⟩ := HO.out _ G1.out)
          | (go_at_call 95; with_reducible refine (HEE.out _ G1.out).mono ?_; rintro e w5 ⟨rfl, h5⟩; have G2 := Lib.hid (G1.out.thenNo h5); clear h5 p0 p1 p2 p3 p4 p5 p6 p7 p8 p9 p10 p11 p12 p13 p14 HEE; obtain ⟨p0, p1, p2, p3, p4, p5, p6, p7, p8, p9, p10, p11, p12, p13, p14⟩ := HO.out _ G2.out)
          | (go_at_call 71; with_reducible refine (HNM.out _ G2.out).mono ?_; rintro e w6 ⟨rfl, h6⟩; have G3 := Lib.hid (G2.out.thenNo h6); clear h6 p0 p1 p2 p3 p4 p5 p6 p7 p8 p9 p10 p11 p12 p13 p14 HNM; obtain ⟨p0, p1, p2, p3, p4, p5, p6, p7, p8, p9, p10, p11, p12, p13, p14⟩ := HO.out _ G3.out)
          | (go_at_call 96; with_reducible refine (HHV.out _ G3.out).mono ?_; rintro e w7 ⟨rfl, h7⟩; have G4 := Lib.hid (G3.out.thenNo h7); clear h7 p0 p1 p2 p3 p4 p5 p6 p7 p8 p9 p10 p11 p12 p13 p14 HHV; obtain ⟨p0, p1, p2, p3, p4, p5, p6, p7, p8, p9, p10, p11, p12, p13, p14⟩ := HO.out _ G4.out))
        go_ret
        exact ⟨rfl, h3.out.1.thenNo G4.out⟩
      obtain rfl : ans = ka := by rw [HA.out]; simp [*]
      clear HA cz
      go_wp2_with (first
        | (go_at_call 94; with_reducible refine (HHC.out _ G0.out).mono ?_; rintro e w4 ⟨rfl, h4⟩; have G1 := Lib.hid (G0.out.thenNo h4); clear h4 p0 p1 p2 p3 p4 p5 p6 p7 p8 p9 p10 p11 p12 p13 p14 HHC; obtain ⟨p0, p1, p2, p3, p4, p5, p6, p7, p8, p9, p10, p11, p12, p13, p14⟩ := HO.out _ G1.out)
        | (go_at_call 95; with_reducible refine (HEE.out _ G1.out).mono ?_; rintro e w5 ⟨rfl, h5⟩; have G2 := Lib.hid (G1.out.thenNo h5); clear h5 p0 p1 p2 p3 p4 p5 p6 p7 p8 p9 p10 p11 p12 p13 p14 HEE; obtain ⟨p0, p1, p2, p3, p4, p5, p6, p7, p8, p9, p10, p11, p12, p13, p14⟩ := HO.out _ G2.out)
        | (go_at_call 71; with_reducible refine (HNM.out _ G2.out).mono ?_; rintro e w6 ⟨rfl, h6⟩; have G3 := Lib.hid (G2.out.thenNo h6); clear h6 p0 p1 p2 p3 p4 p5 p6 p7 p8 p9 p10 p11 p12 p13 p14 HNM; obtain ⟨p0, p1, p2, p3, p4, p5, p6, p7, p8, p9, p10, p11, p12, p13, p14⟩ := HO.out _ G3.out)
        | (go_at_call 96; with_reducible refine (HHV.out _ G3.out).mono ?_; rintro e w7 ⟨rfl, h7⟩; have G4 := Lib.hid (G3.out.thenNo h7); clear h7 p0 p1 p2 p3 p4 p5 p6 p7 p8 p9 p10 p11 p12 p13 p14 HHV; obtain ⟨p0, p1, p2, p3, p4, p5, p6, p7, p8, p9, p10, p11, p12, p13, p14⟩ := HO.out _ G4.out)
        | (go_at_call 84; with_reducible refine (HKS.out _ G4.out).mono ?_; rintro e w8 ⟨rfl, h8⟩; have G5 := Lib.hid (G4.out.thenNo h8); clear h8 p0 p1 p2 p3 p4 p5 p6 p7 p8 p9 p10 p11 p12 p13 p14 HKS; obtain ⟨p0, p1, p2, p3, p4, p5, p6, p7, p8, p9, p10, p11, p12, p13, p14⟩ := HO.out _ G5.out))
      go_ret
      exact ⟨by simp, h3.out.1.thenNo G5.out⟩
    have n2 : (kd == 2) = false := beqF k2
    by_cases k3 : kd = 3
    · subst k3
      by_cases cz : kl = 0
      rotate_left
      · have f_cz := (beqF (by omega) : ((kl : Int) == 0) = false)
        obtain rfl : ans = false := by rw [HA.out]; simp [*]
        clear HA
        go_wp2_with fail
        go_ret
        exact ⟨rfl, h3.out.1.thenNo G0.out⟩
      have f_cz := (beqT (by omega) : ((kl : Int) == 0) = true)
      cases bHC
      rotate_left
      · obtain rfl : ans = false := by rw [HA.out]; simp [*]
        clear HA cz
        go_wp2_with (go_at_call 94; with_reducible refine (HHC.out _ G0.out).mono ?_; rintro e w4 ⟨rfl, h4⟩; have G1 := Lib.hid (G0.out.thenNo h4); clear h4 p0 p1 p2 p3 p4 p5 p6 p7 p8 p9 p10 p11 p12 p13 p14 HHC; obtain ⟨p0, p1, p2, p3, p4, p5, p6, p7, p8, p9, p10, p11, p12, p13, p14⟩ := HO.out _ G1.out)
        go_ret
        exact ⟨rfl, h3.out.1.thenNo G1.out⟩
      cases bE
      · obtain rfl : ans = false := by rw [HA.out]; simp [*]
        clear HA cz
        go_wp2_with (first
          | (go_at_call 94; with_reducible refine (HHC.out _ G0.out).mono ?_; rintro e w4 ⟨rfl, h4⟩; have G1 := Lib.hid (G0.out.thenNo h4); clear h4 p0 p1 p2 p3 p4 p5 p6 p7 p8 p9 p10 p11 p12 p13 p14 HHC; obtain ⟨p0, p1, p2, p3, p4, p5, p6, p7, p8, p9, p10, p11, p12, p13, p14⟩ := HO.out _ G1.out)
          | (go_at_call 95; with_reducible refine (HEE.out _ G1.out).mono ?_; rintro e w5 ⟨rfl, h5⟩; have G2 := Lib.hid (G1.out.thenNo h5); clear h5 p0 p1 p2 p3 p4 p5 p6 p7 p8 p9 p10 p11 p12 p13 p14 HEE; obtain ⟨p0, p1, p2, p3, p4, p5, p6, p7, p8, p9, p10, p11, p12, p13, p14⟩ := HO.out _ G2.out))
        go_ret
        exact ⟨rfl, h3.out.1.thenNo G2.out⟩
      cases nb
      · obtain rfl : ans = false := by rw [HA.out]; simp [*]
        clear HA cz
        go_wp2_with (first
          | (go_at_call 94; with_reducible refine (HHC.out _ G0.out).mono ?_; rintro e w4 ⟨rfl, h4⟩; have G1 := Lib.hid (G0.out.thenNo h4); clear h4 p0 p1 p2 p3 p4 p5 p6 p7 p8 p9 p10 p11 p12 p13 p14 HHC; obtain ⟨p0, p1, p2, p3, p4, p5, p6, p7, p8, p9, p10, p11, p12, p13, p14⟩ := HO.out _ G1.out)
          | (go_at_call 95; with_reducible refine (HEE.out _ G1.out).mono ?_; rintro e w5 ⟨rfl, h5⟩; have G2 := Lib.hid (G1.out.thenNo h5); clear h5 p0 p1 p2 p3 p4 p5 p6 p7 p8 p9 p10 p11 p12 p13 p14 HEE; obtain ⟨p0, p1, p2, p3, p4, p5, p6, p7, p8, p9, p10, p11, p12, p13, p14⟩ := HO.out _ G2.out)
          | (go_at_call 71; with_reducible refine (HNM.out _ G2.out).mono ?_; rintro e w6 ⟨rfl, h6⟩; have G3 := Lib.hid (G2.out.thenNo h6); clear h6 p0 p1 p2 p3 p4 p5 p6 p7 p8 p9 p10 p11 p12 p13 p14 HNM; obtain ⟨p0, p1, p2, p3, p4, p5, p6, p7, p8, p9, p10, p11, p12, p13, p14⟩ := HO.out _ G3.out))
        go_ret
        exact ⟨rfl, h3.out.1.thenNo G3.out⟩
      by_cases cl : 0 ≤ num
      rotate_left
      · have f_cl := cl
        obtain rfl : ans = false := by rw [HA.out]; simp [*]
        clear HA cz
        go_wp2_with (first
          | (go_at_call 94; with_reducible refine (HHC.out _ G0.out).mono ?_; rintro e w4 ⟨rfl, h4⟩; have G1 := Lib.hid (G0.out.thenNo h4); clear h4 p0 p1 p2 p3 p4 p5 p6 p7 p8 p9 p10 p11 p12 p13 p14 HHC; obtain ⟨p0, p1, p2, p3, p4, p5, p6, p7, p8, p9, p10, p11, p12, p13, p14⟩ := HO.out _ G1.out)
          | (go_at_call 95; with_reducible refine (HEE.out _ G1.out).mono ?_; rintro e w5 ⟨rfl, h5⟩; have G2 := Lib.hid (G1.out.thenNo h5); clear h5 p0 p1 p2 p3 p4 p5 p6 p7 p8 p9 p10 p11 p12 p13 p14 HEE; obtain ⟨p0, p1, p2, p3, p4, p5, p6, p7, p8, p9, p10, p11, p12, p13, p14⟩ := HO.out _ G2.out)
          | (go_at_call 71; with_reducible refine (HNM.out _ G2.out).mono ?_; rintro e w6 ⟨rfl, h6⟩; have G3 := Lib.hid (G2.out.thenNo h6); clear h6 p0 p1 p2 p3 p4 p5 p6 p7 p8 p9 p10 p11 p12 p13 p14 HNM; obtain ⟨p0, p1, p2, p3, p4, p5, p6, p7, p8, p9, p10, p11, p12, p13, p14⟩ := HO.out _ G3.out))
        go_ret
        exact ⟨rfl, h3.out.1.thenNo G3.out⟩
      have f_cl := cl
      by_cases cu : num ≤ 1073741824
      rotate_left
      · have f_cu := cu
        obtain rfl : ans = false := by rw [HA.out]; simp [*]
        clear HA cz
        go_wp2_with (first
          | (go_at_call 94; with_reducible refine (HHC.out _ G0.out).mono ?_; rintro e w4 ⟨rfl, h4⟩; have G1 := Lib.hid (G0.out.thenNo h4); clear h4 p0 p1 p2 p3 p4 p5 p6 p7 p8 p9 p10 p11 p12 p13 p14 HHC; obtain ⟨p0, p1, p2, p3, p4, p5, p6, p7, p8, p9, p10, p11, p12, p13, p14⟩ := HO.out _ G1.out)
          | (go_at_call 95; with_reducible refine (HEE.out _ G1.out).mono ?_; rintro e w5 ⟨rfl, h5⟩; have G2 := Lib.hid (G1.out.thenNo h5); clear h5 p0 p1 p2 p3 p4 p5 p6 p7 p8 p9 p10 p11 p12 p13 p14 HEE; obtain ⟨p0, p1, p2, p3, p4, p5, p6, p7, p8, p9, p10, p11, p12, p13, p14⟩ := HO.out _ G2.out)
          | (go_at_call 71; with_reducible refine (HNM.out _ G2.out).mono ?_; rintro e w6 ⟨rfl, h6⟩; have G3 := Lib.hid (G2.out.thenNo h6); clear h6 p0 p1 p2 p3 p4 p5 p6 p7 p8 p9 p10 p11 p12 p13 p14 HNM; obtain ⟨p0, p1, p2, p3, p4, p5, p6, p7, p8, p9, p10, p11, p12, p13, p14⟩ := HO.out _ G3.out))
        go_ret
        exact ⟨rfl, h3.out.1.thenNo G3.out⟩
      have f_cu := cu
      cases bV
      · obtain rfl : ans = false := by rw [HA.out]; simp [*]
        clear HA cz
        go_wp2_with (first
          | (go_at_call 94; with_reducible refine (HHC.out _ G0.out).mono ?_; rintro e w4 ⟨rfl, h4⟩; have G1 := Lib.hid (G0.out.thenNo h4); clear h4 p0 p1 p2 p3 p4 p5 p6 p7 p8 p9 p10 p11 p12 p13 p14 HHC; obtain ⟨p0, p1, p2, p3, p4, p5, p6, p7, p8, p9, p10, p11, p12, p13, p14⟩ := HO.out _ G1.out)
          | (go_at_call 95; with_reducible refine (HEE.out _ G1.out).mono ?_; rintro e w5 ⟨rfl, h5⟩; have G2 := Lib.hid (G1.out.thenNo h5); clear h5 p0 p1 p2 p3 p4 p5 p6 p7 p8 p9 p10 p11 p12 p13 p14 HEE; obtain ⟨p0, p1, p2, p3, p4, p5, p6, p7, p8, p9, p10, p11, p12, p13, p14⟩ := HO.out _ G2.out)
          | (go_at_call 71; with_reducible refine (HNM.out _ G2.out).mono ?_; rintro e w6 ⟨rfl, h6⟩; have G3 := Lib.hid (G2.out.thenNo h6); clear h6 p0 p1 p2 p3 p4 p5 p6 p7 p8 p9 p10 p11 p12 p13 p14 HNM; obtain ⟨p0, p1, p2, p3, p4, p5, p6, p7, p8, p9, p10, p11, p12, p13, p14⟩ := HO.out _ G3.out)
          | (go_at_call 95; with_reducible refine (HVE.out _ G3.out).mono ?_; rintro e w7 ⟨rfl, h7⟩; have G4 := Lib.hid (G3.out.thenNo h7); clear h7 p0 p1 p2 p3 p4 p5 p6 p7 p8 p9 p10 p11 p12 p13 p14 HVE; obtain ⟨p0, p1, p2, p3, p4, p5, p6, p7, p8, p9, p10, p11, p12, p13, p14⟩ := HO.out _ G4.out))
        go_ret
        exact ⟨rfl, h3.out.1.thenNo G4.out⟩
      obtain rfl : ans = ka := by rw [HA.out]; simp [*]
      clear HA cz
      go_wp2_with (first
        | (go_at_call 94; with_reducible refine (HHC.out _ G0.out).mono ?_; rintro e w4 ⟨rfl, h4⟩; have G1 := Lib.hid (G0.out.thenNo h4); clear h4 p0 p1 p2 p3 p4 p5 p6 p7 p8 p9 p10 p11 p12 p13 p14 HHC; obtain ⟨p0, p1, p2, p3, p4, p5, p6, p7, p8, p9, p10, p11, p12, p13, p14⟩ := HO.out _ G1.out)
        | (go_at_call 95; with_reducible refine (HEE.out _ G1.out).mono ?_; rintro e w5 ⟨rfl, h5⟩; have G2 := Lib.hid (G1.out.thenNo h5); clear h5 p0 p1 p2 p3 p4 p5 p6 p7 p8 p9 p10 p11 p12 p13 p14 HEE; obtain ⟨p0, p1, p2, p3, p4, p5, p6, p7, p8, p9, p10, p11, p12, p13, p14⟩ := HO.out _ G2.out)
        | (go_at_call 71; with_reducible refine (HNM.out _ G2.out).mono ?_; rintro e w6 ⟨rfl, h6⟩; have G3 := Lib.hid (G2.out.thenNo h6); clear h6 p0 p1 p2 p3 p4 p5 p6 p7 p8 p9 p10 p11 p12 p13 p14 HNM; obtain ⟨p0, p1, p2, p3, p4, p5, p6, p7, p8, p9, p10, p11, p12, p13, p14⟩ := HO.out _ G3.out)
        | (go_at_call 95; with_reducible refine (HVE.out _ G3.out).mono ?_; rintro e w7 ⟨rfl, h7⟩; have G4 := Lib.hid (G3.out.thenNo h7); clear h7 p0 p1 p2 p3 p4 p5 p6 p7 p8 p9 p10 p11 p12 p13 p14 HVE; obtain ⟨p0, p1, p2, p3, p4, p5, p6, p7, p8, p9, p10, p11, p12, p13, p14⟩ := HO.out _ G4.out)
        | (go_at_call 84; with_reducible refine (HKS.out _ G4.out).mono ?_; rintro e w8 ⟨rfl, h8⟩; have G5 := Lib.hid (G4.out.thenNo h8); clear h8 p0 p1 p2 p3 p4 p5 p6 p7 p8 p9 p10 p11 p12 p13 p14 HKS; obtain ⟨p0, p1, p2, p3, p4, p5, p6, p7, p8, p9, p10, p11, p12, p13, p14⟩ := HO.out _ G5.out))
      go_ret
      exact ⟨by simp, h3.out.1.thenNo G5.out⟩
    have n3 : (kd == 3) = false := beqF k3
    by_cases k4 : kd = 4
    · subst k4
      by_cases cz : kl = 2
      rotate_left
      · have f_cz := (beqF (by omega) : ((kl : Int) == 2) = false)
        obtain rfl : ans = false := by rw [HA.out]; simp [*]
        clear HA
        go_wp2_with fail
        go_ret
        exact ⟨rfl, h3.out.1.thenNo G0.out⟩
      have f_cz := (beqT (by omega) : ((kl : Int) == 2) = true)
      cases bHC
      rotate_left
      · obtain rfl : ans = false := by rw [HA.out]; simp [*]
        clear HA cz
        go_wp2_with (go_at_call 94; with_reducible refine (HHC.out _ G0.out).mono ?_; rintro e w4 ⟨rfl, h4⟩; have G1 := Lib.hid (G0.out.thenNo h4); clear h4 p0 p1 p2 p3 p4 p5 p6 p7 p8 p9 p10 p11 p12 p13 p14 HHC; obtain ⟨p0, p1, p2, p3, p4, p5, p6, p7, p8, p9, p10, p11, p12, p13, p14⟩ := HO.out _ G1.out)
        go_ret
        exact ⟨rfl, h3.out.1.thenNo G1.out⟩
      cases bHE
      rotate_left
      · obtain rfl : ans = false := by rw [HA.out]; simp [*]
        clear HA cz
        go_wp2_with (first
          | (go_at_call 94; with_reducible refine (HHC.out _ G0.out).mono ?_; rintro e w4 ⟨rfl, h4⟩; have G1 := Lib.hid (G0.out.thenNo h4); clear h4 p0 p1 p2 p3 p4 p5 p6 p7 p8 p9 p10 p11 p12 p13 p14 HHC; obtain ⟨p0, p1, p2, p3, p4, p5, p6, p7, p8, p9, p10, p11, p12, p13, p14⟩ := HO.out _ G1.out)
          | (go_at_call 96; with_reducible refine (HHE.out _ G1.out).mono ?_; rintro e w5 ⟨rfl, h5⟩; have G2 := Lib.hid (G1.out.thenNo h5); clear h5 p0 p1 p2 p3 p4 p5 p6 p7 p8 p9 p10 p11 p12 p13 p14 HHE; obtain ⟨p0, p1, p2, p3, p4, p5, p6, p7, p8, p9, p10, p11, p12, p13, p14⟩ := HO.out _ G2.out))
        go_ret
        exact ⟨rfl, h3.out.1.thenNo G2.out⟩
      by_cases ce : fd.toList.isEmpty = true
      rotate_left
      · have f_ce := ce
        obtain rfl : ans = false := by rw [HA.out]; simp [*]
        clear HA cz
        go_wp2_with (first
          | (go_at_call 94; with_reducible refine (HHC.out _ G0.out).mono ?_; rintro e w4 ⟨rfl, h4⟩; have G1 := Lib.hid (G0.out.thenNo h4); clear h4 p0 p1 p2 p3 p4 p5 p6 p7 p8 p9 p10 p11 p12 p13 p14 HHC; obtain ⟨p0, p1, p2, p3, p4, p5, p6, p7, p8, p9, p10, p11, p12, p13, p14⟩ := HO.out _ G1.out)
          | (go_at_call 96; with_reducible refine (HHE.out _ G1.out).mono ?_; rintro e w5 ⟨rfl, h5⟩; have G2 := Lib.hid (G1.out.thenNo h5); clear h5 p0 p1 p2 p3 p4 p5 p6 p7 p8 p9 p10 p11 p12 p13 p14 HHE; obtain ⟨p0, p1, p2, p3, p4, p5, p6, p7, p8, p9, p10, p11, p12, p13, p14⟩ := HO.out _ G2.out))
        go_ret
        exact ⟨rfl, h3.out.1.thenNo G2.out⟩
      have f_ce := ce
      by_cases cn : num = 0
      rotate_left
      · have f_cn := beqF cn
        obtain rfl : ans = false := by rw [HA.out]; simp [*]
        clear HA cz
        go_wp2_with (first
          | (go_at_call 94; with_reducible refine (HHC.out _ G0.out).mono ?_; rintro e w4 ⟨rfl, h4⟩; have G1 := Lib.hid (G0.out.thenNo h4); clear h4 p0 p1 p2 p3 p4 p5 p6 p7 p8 p9 p10 p11 p12 p13 p14 HHC; obtain ⟨p0, p1, p2, p3, p4, p5, p6, p7, p8, p9, p10, p11, p12, p13, p14⟩ := HO.out _ G1.out)
          | (go_at_call 96; with_reducible refine (HHE.out _ G1.out).mono ?_; rintro e w5 ⟨rfl, h5⟩; have G2 := Lib.hid (G1.out.thenNo h5); clear h5 p0 p1 p2 p3 p4 p5 p6 p7 p8 p9 p10 p11 p12 p13 p14 HHE; obtain ⟨p0, p1, p2, p3, p4, p5, p6, p7, p8, p9, p10, p11, p12, p13, p14⟩ := HO.out _ G2.out))
        go_ret
        exact ⟨rfl, h3.out.1.thenNo G2.out⟩
      have f_cn := beqT cn
      cases bHV
      rotate_left
      · obtain rfl : ans = false := by rw [HA.out]; simp [*]
        clear HA cz cn
        go_wp2_with (first
          | (go_at_call 94; with_reducible refine (HHC.out _ G0.out).mono ?_; rintro e w4 ⟨rfl, h4⟩; have G1 := Lib.hid (G0.out.thenNo h4); clear h4 p0 p1 p2 p3 p4 p5 p6 p7 p8 p9 p10 p11 p12 p13 p14 HHC; obtain ⟨p0, p1, p2, p3, p4, p5, p6, p7, p8, p9, p10, p11, p12, p13, p14⟩ := HO.out _ G1.out)
          | (go_at_call 96; with_reducible refine (HHE.out _ G1.out).mono ?_; rintro e w5 ⟨rfl, h5⟩; have G2 := Lib.hid (G1.out.thenNo h5); clear h5 p0 p1 p2 p3 p4 p5 p6 p7 p8 p9 p10 p11 p12 p13 p14 HHE; obtain ⟨p0, p1, p2, p3, p4, p5, p6, p7, p8, p9, p10, p11, p12, p13, p14⟩ := HO.out _ G2.out)
          | (go_at_call 96; with_reducible refine (HHV.out _ G2.out).mono ?_; rintro e w6 ⟨rfl, h6⟩; have G3 := Lib.hid (G2.out.thenNo h6); clear h6 p0 p1 p2 p3 p4 p5 p6 p7 p8 p9 p10 p11 p12 p13 p14 HHV; obtain ⟨p0, p1, p2, p3, p4, p5, p6, p7, p8, p9, p10, p11, p12, p13, p14⟩ := HO.out _ G3.out))
        go_ret
        exact ⟨rfl, h3.out.1.thenNo G3.out⟩
      obtain rfl : ans = ka := by rw [HA.out]; simp [*]
      clear HA cz cn
      go_wp2_with (first
        | (go_at_call 94; with_reducible refine (HHC.out _ G0.out).mono ?_; rintro e w4 ⟨rfl, h4⟩; have G1 := Lib.hid (G0.out.thenNo h4); clear h4 p0 p1 p2 p3 p4 p5 p6 p7 p8 p9 p10 p11 p12 p13 p14 HHC; obtain ⟨p0, p1, p2, p3, p4, p5, p6, p7, p8, p9, p10, p11, p12, p13, p14⟩ := HO.out _ G1.out)
        | (go_at_call 96; with_reducible refine (HHE.out _ G1.out).mono ?_; rintro e w5 ⟨rfl, h5⟩; have G2 := Lib.hid (G1.out.thenNo h5); clear h5 p0 p1 p2 p3 p4 p5 p6 p7 p8 p9 p10 p11 p12 p13 p14 HHE; obtain ⟨p0, p1, p2, p3, p4, p5, p6, p7, p8, p9, p10, p11, p12, p13, p14⟩ := HO.out _ G2.out)
        | (go_at_call 96; with_reducible refine (HHV.out _ G2.out).mono ?_; rintro e w6 ⟨rfl, h6⟩; have G3 := Lib.hid (G2.out.thenNo h6); clear h6 p0 p1 p2 p3 p4 p5 p6 p7 p8 p9 p10 p11 p12 p13 p14 HHV; obtain ⟨p0, p1, p2, p3, p4, p5, p6, p7, p8, p9, p10, p11, p12, p13, p14⟩ := HO.out _ G3.out)
        | (go_at_call 84; with_reducible refine (HKS.out _ G3.out).mono ?_; rintro e w7 ⟨rfl, h7⟩; have G4 := Lib.hid (G3.out.thenNo h7); clear h7 p0 p1 p2 p3 p4 p5 p6 p7 p8 p9 p10 p11 p12 p13 p14 HKS; obtain ⟨p0, p1, p2, p3, p4, p5, p6, p7, p8, p9, p10, p11, p12, p13, p14⟩ := HO.out _ G4.out))
      go_ret
      exact ⟨by simp, h3.out.1.thenNo G4.out⟩
    have n4 : (kd == 4) = false := beqF k4
    by_cases k5 : kd = 5
    · subst k5
      by_cases cz : kl = 2
      rotate_left
      · have f_cz := (beqF (by omega) : ((kl : Int) == 2) = false)
        obtain rfl : ans = false := by rw [HA.out]; simp [*]
        clear HA
        go_wp2_with fail
        go_ret
        exact ⟨rfl, h3.out.1.thenNo G0.out⟩
      have f_cz := (beqT (by omega) : ((kl : Int) == 2) = true)
      cases bC
      · obtain rfl : ans = false := by rw [HA.out]; simp [*]
        clear HA cz
        go_wp2_with (go_at_call 93; with_reducible refine (HCC.out _ G0.out).mono ?_; rintro e w4 ⟨rfl, h4⟩; have G1 := Lib.hid (G0.out.thenNo h4); clear h4 p0 p1 p2 p3 p4 p5 p6 p7 p8 p9 p10 p11 p12 p13 p14 HCC; obtain ⟨p0, p1, p2, p3, p4, p5, p6, p7, p8, p9, p10, p11, p12, p13, p14⟩ := HO.out _ G1.out)
        go_ret
        exact ⟨rfl, h3.out.1.thenNo G1.out⟩
      cases bHE
      rotate_left
      · obtain rfl : ans = false := by rw [HA.out]; simp [*]
        clear HA cz
        go_wp2_with (first
          | (go_at_call 93; with_reducible refine (HCC.out _ G0.out).mono ?_; rintro e w4 ⟨rfl, h4⟩; have G1 := Lib.hid (G0.out.thenNo h4); clear h4 p0 p1 p2 p3 p4 p5 p6 p7 p8 p9 p10 p11 p12 p13 p14 HCC; obtain ⟨p0, p1, p2, p3, p4, p5, p6, p7, p8, p9, p10, p11, p12, p13, p14⟩ := HO.out _ G1.out)
          | (go_at_call 96; with_reducible refine (HHE.out _ G1.out).mono ?_; rintro e w5 ⟨rfl, h5⟩; have G2 := Lib.hid (G1.out.thenNo h5); clear h5 p0 p1 p2 p3 p4 p5 p6 p7 p8 p9 p10 p11 p12 p13 p14 HHE; obtain ⟨p0, p1, p2, p3, p4, p5, p6, p7, p8, p9, p10, p11, p12, p13, p14⟩ := HO.out _ G2.out))
        go_ret
        exact ⟨rfl, h3.out.1.thenNo G2.out⟩
      by_cases ce : fd.toList.isEmpty = true
      rotate_left
      · have f_ce := ce
        obtain rfl : ans = false := by rw [HA.out]; simp [*]
        clear HA cz
        go_wp2_with (first
          | (go_at_call 93; with_reducible refine (HCC.out _ G0.out).mono ?_; rintro e w4 ⟨rfl, h4⟩; have G1 := Lib.hid (G0.out.thenNo h4); clear h4 p0 p1 p2 p3 p4 p5 p6 p7 p8 p9 p10 p11 p12 p13 p14 HCC; obtain ⟨p0, p1, p2, p3, p4, p5, p6, p7, p8, p9, p10, p11, p12, p13, p14⟩ := HO.out _ G1.out)
          | (go_at_call 96; with_reducible refine (HHE.out _ G1.out).mono ?_; rintro e w5 ⟨rfl, h5⟩; have G2 := Lib.hid (G1.out.thenNo h5); clear h5 p0 p1 p2 p3 p4 p5 p6 p7 p8 p9 p10 p11 p12 p13 p14 HHE; obtain ⟨p0, p1, p2, p3, p4, p5, p6, p7, p8, p9, p10, p11, p12, p13, p14⟩ := HO.out _ G2.out))
        go_ret
        exact ⟨rfl, h3.out.1.thenNo G2.out⟩
      have f_ce := ce
      by_cases cn : num = 0
      rotate_left
      · have f_cn := beqF cn
        obtain rfl : ans = false := by rw [HA.out]; simp [*]
        clear HA cz
        go_wp2_with (first
          | (go_at_call 93; with_reducible refine (HCC.out _ G0.out).mono ?_; rintro e w4 ⟨rfl, h4⟩; have G1 := Lib.hid (G0.out.thenNo h4); clear h4 p0 p1 p2 p3 p4 p5 p6 p7 p8 p9 p10 p11 p12 p13 p14 HCC; obtain ⟨p0, p1, p2, p3, p4, p5, p6, p7, p8, p9, p10, p11, p12, p13, p14⟩ := HO.out _ G1.out)
          | (go_at_call 96; with_reducible refine (HHE.out _ G1.out).mono ?_; rintro e w5 ⟨rfl, h5⟩; have G2 := Lib.hid (G1.out.thenNo h5); clear h5 p0 p1 p2 p3 p4 p5 p6 p7 p8 p9 p10 p11 p12 p13 p14 HHE; obtain ⟨p0, p1, p2, p3, p4, p5, p6, p7, p8, p9, p10, p11, p12, p13, p14⟩ := HO.out _ G2.out))
        go_ret
        exact ⟨rfl, h3.out.1.thenNo G2.out⟩
      have f_cn := beqT cn
      cases bHV
      rotate_left
      · obtain rfl : ans = false := by rw [HA.out]; simp [*]
        clear HA cz cn
        go_wp2_with (first
          | (go_at_call 93; with_reducible refine (HCC.out _ G0.out).mono ?_; rintro e w4 ⟨rfl, h4⟩; have G1 := Lib.hid (G0.out.thenNo h4); clear h4 p0 p1 p2 p3 p4 p5 p6 p7 p8 p9 p10 p11 p12 p13 p14 HCC; obtain ⟨p0, p1, p2, p3, p4, p5, p6, p7, p8, p9, p10, p11, p12, p13, p14⟩ := HO.out _ G1.out)
          | (go_at_call 96; with_reducible refine (HHE.out _ G1.out).mono ?_; rintro e w5 ⟨rfl, h5⟩; have G2 := Lib.hid (G1.out.thenNo h5); clear h5 p0 p1 p2 p3 p4 p5 p6 p7 p8 p9 p10 p11 p12 p13 p14 HHE; obtain ⟨p0, p1, p2, p3, p4, p5, p6, p7, p8, p9, p10, p11, p12, p13, p14⟩ := HO.out _ G2.out)
          | (go_at_call 96; with_reducible refine (HHV.out _ G2.out).mono ?_; rintro e w6 ⟨rfl, h6⟩; have G3 := Lib.hid (G2.out.thenNo h6); clear h6 p0 p1 p2 p3 p4 p5 p6 p7 p8 p9 p10 p11 p12 p13 p14 HHV; obtain ⟨p0, p1, p2, p3, p4, p5, p6, p7, p8, p9, p10, p11, p12, p13, p14⟩ := HO.out _ G3.out))
        go_ret
        exact ⟨rfl, h3.out.1.thenNo G3.out⟩
      obtain rfl : ans = ka := by rw [HA.out]; simp [*]
      clear HA cz cn
      go_wp2_with (first
        | (go_at_call 93; with_reducible refine (HCC.out _ G0.out).mono ?_; rintro e w4 ⟨rfl, h4⟩; have G1 := Lib.hid (G0.out.thenNo h4); clear h4 p0 p1 p2 p3 p4 p5 p6 p7 p8 p9 p10 p11 p12 p13 p14 HCC; obtain ⟨p0, p1, p2, p3, p4, p5, p6, p7, p8, p9, p10, p11, p12, p13, p14⟩ := HO.out _ G1.out)
        | (go_at_call 96; with_reducible refine (HHE.out _ G1.out).mono ?_; rintro e w5 ⟨rfl, h5⟩; have G2 := Lib.hid (G1.out.thenNo h5); clear h5 p0 p1 p2 p3 p4 p5 p6 p7 p8 p9 p10 p11 p12 p13 p14 HHE; obtain ⟨p0, p1, p2, p3, p4, p5, p6, p7, p8, p9, p10, p11, p12, p13, p14⟩ := HO.out _ G2.out)
        | (go_at_call 96; with_reducible refine (HHV.out _ G2.out).mono ?_; rintro e w6 ⟨rfl, h6⟩; have G3 := Lib.hid (G2.out.thenNo h6); clear h6 p0 p1 p2 p3 p4 p5 p6 p7 p8 p9 p10 p11 p12 p13 p14 HHV; obtain ⟨p0, p1, p2, p3, p4, p5, p6, p7, p8, p9, p10, p11, p12, p13, p14⟩ := HO.out _ G3.out)
        | (go_at_call 84; with_reducible refine (HKS.out _ G3.out).mono ?_; rintro e w7 ⟨rfl, h7⟩; have G4 := Lib.hid (G3.out.thenNo h7); clear h7 p0 p1 p2 p3 p4 p5 p6 p7 p8 p9 p10 p11 p12 p13 p14 HKS; obtain ⟨p0, p1, p2, p3, p4, p5, p6, p7, p8, p9, p10, p11, p12, p13, p14⟩ := HO.out _ G4.out))
      go_ret
      exact ⟨by simp, h3.out.1.thenNo G4.out⟩
    have n5 : (kd == 5) = false := beqF k5
    obtain rfl : ans = false := by rw [HA.out]; simp [*]
    clear HA HCC HHC HEE HHE HVE HHV HNM HKS
    by_cases g1 : 0 ≤ kd
    · have g2 : ¬ kd ≤ 5 := by omega
      go_wp2_with fail
      go_ret
      exact ⟨rfl, h3.out.1.thenNo G0.out⟩
    · go_wp2_with fail
      go_ret
      exact ⟨rfl, h3.out.1.thenNo G0.out⟩

theorem assn_any (m n : Nat) : ∀ k, AssnOk m n k
  | 0 => fun _ _ _ _ _ h => h.elim
  | k + 1 => assn_walk m n k (Lib.hid (assn_any m n k))
end Go.Proofs.YtpmndblakmobdaaGreatDoor
