/-
  The walk over the law ChunkMeans.
-/
import Derived.Test.YtpmndblakmobdaaGreatDoorHoF
import Derived.Test.YtpmndblakmobdaaGreatDoorHlH
import Derived.Test.YtpmndblakmobdaaGreatDoorTD
import Derived.Deep.DeepCutAuto
namespace Go.Proofs.YtpmndblakmobdaaGreatDoor
open Go Go.RowKit

theorem opensV_sym {H : Type} {enc : TypeId × Value → H} : OpensV enc Tryz.prog 73 symV :=
  opensV_struct2 (by decide) Tryz.underlying73 rfl rfl (by kernel_rfl) (by kernel_rfl) (opensV_string Tryz.underlying9 (by kernel_rfl) (by kernel_rfl)) opensV_lin
theorem opensE_sym {H : Type} {enc : TypeId × Value → H} : OpensE enc Tryz.prog 73 3 symV.mem := opensE_of opensV_sym
theorem errV_two (c : Int) : (c = 0 ∧ errV 83 c = .nilIface) ∨ (c ≠ 0 ∧ errV 83 c = .iface 83 (.int .i64 c)) := by
  by_cases h : c = 0
  · exact .inl ⟨h, by rw [h, errV_zero]⟩
  · exact .inr ⟨h, errV_of _ h⟩
theorem means_expr {me : Nat} {x : ET me} {l : List Sym} {vs : List Int} (hl : l.all (tldB vs) = true) (h1 : (exprR me x l).2 = 0) (h2 : (hexR (varsOf vs l) me x).2 = 0) (h3 : (linVal (exprR me x l).1.1 (exprR me x l).1.2 vs).2 = 0) :
    (hexR (varsOf vs l) me x).1 = (linVal (exprR me x l).1.1 (exprR me x l).1.2 vs).1 := by
  unfold exprR at h1 h3 ⊢
  split at h1
  · rename_i hq
    rw [if_pos hq] at h3 ⊢
    rw [Bool.and_eq_true] at hq
    have hok : okE me x = true := by
      have := hq.1
      unfold okP2 at this
      rw [Bool.and_eq_true] at this
      exact this.2
    cases hr : lexp me x l with
    | none => rw [hr] at h1; exact absurd h1 (by decide)
    | some r =>
      rw [hr] at h3
      unfold hexR at h2 ⊢
      split at h2
      · rename_i hq2
        rw [if_pos hq2]
        split at h2
        · exact absurd h2 (by decide)
        · rename_i hf
          rw [if_neg hf]
          have := expr_law hl me x hok r hr (by simpa using hf)
          show (exH (varsOf vs l) me x).1 = (linVal r.1 r.2 vs).1
          rw [linVal_ok (r := r) h3, this]
      · exact absurd h2 (by decide)
  · exact absurd h1 (by decide)
theorem means_cond {m n : Nat} {y : CT m n} {l : List Sym} {vs : List Int} (hl : l.all (tldB vs) = true) (h1 : (condR m n y l).2 = 0) (h2 : (hcoR (varsOf vs l) m n y).2 = 0) (h3 : (valR (n + 1) (condR m n y l).1 vs).2 = 0) :
    (hcoR (varsOf vs l) m n y).1 = (valR (n + 1) (condR m n y l).1 vs).1 := by
  have hv : ∀ f : FT (n + 1), (valR (n + 1) f vs).2 = 0 → (valR (n + 1) f vs).1 = truF (n + 1) (valOf vs) f := fun f h => by
    unfold valR at h ⊢
    split at h
    · rename_i h1
      rw [if_pos h1]
      split at h
      · rename_i h2
        rw [if_pos h2]
      · exact absurd h (by decide)
    · rename_i h1
      exact absurd h h1
  rw [hv _ h3]
  unfold condR at h1 ⊢
  split at h1
  · rename_i hq
    rw [if_pos hq]
    rw [Bool.and_eq_true] at hq
    have hok : okC m n y = true := by
      have := hq.1
      unfold okP2 at this
      rw [Bool.and_eq_true] at this
      exact this.2
    have hb : cndB m n y l = false := by
      cases h : cndB m n y l
      · rfl
      · rw [h] at h1; exact absurd h1 (show ¬ (3 : Int) = 0 by decide)
    unfold hcoR at h2 ⊢
    split at h2
    · rename_i hq2
      rw [if_pos hq2]
      split at h2
      · exact absurd h2 (by decide)
      · rename_i hf
        rw [if_neg hf]
        have := cond_law hl m n y hok hb (by simpa using hf)
        show (coH (varsOf vs l) m n y).1 = truF (n + 1) (valOf vs) (ansC m n y l)
        unfold ansC
        rw [hb, if_neg (by decide), this]
    · exact absurd h2 (by decide)
  · exact absurd h1 (show ¬ (5 : Int) = 0 by decide)

set_option maxRecDepth 100000 in
set_option maxHeartbeats 16000000 in
theorem chunkMeans_walk {R R2 Rs0 R' : Nat → Prop} {w : World} (hK : Keys w) {me : Nat} {x : ET me} {cs : List Value} (hx : (exprV me) R w cs x) {m n : Nat} {y : CT m n} {ds : List Value} (hy : (condV m n) R2 w ds y) {As : Option Addr} {l : List Sym} {caps : Nat} (hl0 : Syms Rs0 w As l caps) {A' : Option Addr} {vs : List Int} {cap' : Nat} (hu : Ints R' w A' vs cap') :
    Calls Tryz.prog 4 #[.agg cs.toArray, .agg ds.toArray, .slice As l.length caps, .slice A' vs.length cap'] w fun e w' => e = .returned (.bool true) ∧ Chg No w w' := by
  have hb1 := hl0.big
  have hb2 := hu.big
  unfold big at hb1 hb2
  have hl := hl0.mono symE_good (R' := fun q => q < w.heap.size) (fun q hq _ => hq)
  clear hl0
  obtain ⟨ek, en, es, eB, ekl, eck, rfl⟩ := expr_shape hx
  obtain ⟨ck, cA, cel, cca, cB, ckl, cck, rfl⟩ := cond_shape hy
  have HU := Lib.hid (fun W (hW : Chg No w W) => up20_any (hK.no hW))
  have HSM := Lib.hid (fun W (hW : Chg No w W) => small20_any ((exprV_good me).no hx hW) ((condV_good m n).no hy hW) As l.length caps (by omega))
  have HVL := Lib.hid (fun (h50 : l.length < 50) W (hW : Chg No w W) => values20_any (hl.no symE_good hW) (by omega) (hu.no intE_good hW))
  have HX1 := Lib.hid (fun W (hW : Chg No w W) => chunkExpr_any (hK.no hW) ((exprV_good me).no hx hW) (hl.no symE_good hW) (fun k hk => Nat.lt_of_lt_of_le hk hW.size))
  have HX2 : Hid (∀ W (hW : Chg No w W) (Rv : Nat → Prop) A cap, Vars Rv W A (varsOf vs l) cap → Calls Tryz.prog 16 #[.agg #[.int .i64 ek, .int .i64 en, .string es, .slice eB ekl eck], .slice A (varsOf vs l).length cap] W fun e w' => e = .returned (.tuple #[.int .i64 (hexR (varsOf vs l) me x).1, errV 83 (hexR (varsOf vs l) me x).2]) ∧ Chg No W w') := fun W hW Rv A cap hv => hexprF_any (hK.no hW) ((exprV_good me).no hx hW) hv
  have HX4 := Lib.hid (fun W (hW : Chg No w W) => chunkCond_any (hK.no hW) ((condV_good m n).no hy hW) (hl.no symE_good hW) (fun k hk => Nat.lt_of_lt_of_le hk hW.size))
  have HX5 : Hid (∀ W (hW : Chg No w W) (Rv : Nat → Prop) A cap, Vars Rv W A (varsOf vs l) cap → Calls Tryz.prog 18 #[.agg #[.int .i64 ck, .slice cA cel cca, .slice cB ckl cck], .slice A (varsOf vs l).length cap] W fun e w' => e = .returned (.tuple #[.bool (hcoR (varsOf vs l) m n y).1, errV 83 (hcoR (varsOf vs l) m n y).2]) ∧ Chg No W w') := fun W hW Rv A cap hv => hcondF_any (hK.no hW) ((condV_good m n).no hy hW) hv
  have HUU := Lib.hid (fun W (hW : Chg No w W) => hu.no intE_good hW)
  have HL1 := Lib.hid (fun h => means_expr (me := me) (x := x) (l := l) (vs := vs) h)
  have HL2 := Lib.hid (fun h => means_cond (m := m) (n := n) (y := y) (l := l) (vs := vs) h)
  obtain ⟨w3, hw3⟩ : ∃ w3, w3 = (w.alloc (.cells #[.int .i64 ek, .int .i64 en, .string es, .slice eB ekl eck] 53)).alloc (.cells #[.int .i64 ck, .slice cA cel cca, .slice cB ckl cck] 56) := ⟨_, rfl⟩
  obtain ⟨g, hg⟩ : ∃ g, g = w.heap.size + 1 := ⟨_, rfl⟩
  have h3 : Hid (Chg No w w3 ∧ w3.heap[w.heap.size]? = some (.cells #[.int .i64 ek, .int .i64 en, .string es, .slice eB ekl eck] 53 (0, 0)) ∧ w3.heap[g]? = some (.cells #[.int .i64 ck, .slice cA cel cca, .slice cB ckl cck] 56 (0, 0))) := by
    rw [hw3, hg]; exact ⟨((Chg.refl _ _).alloc _).alloc _, at_old (heap_alloc_new _ _), at_new (by simp)⟩
  have HO := Lib.hid (fun W (hW : Chg No w3 W) => And.intro (obj_4 (hW.obj h3.out.2.1 id)) (obj_3 (hW.obj h3.out.2.2 id)))
  clear hx hy hl hu hK
  go_enter Tryz.func4, Tryz.ntmps4
  go_upto_region 1 with fail
  rw [← hw3, ← hg]
  clear hw3 hg
  go_upto_region 2 with (go_at_call 5; (with_reducible refine (HU.out _ h3.out.1).mono ?_); rintro e w4 ⟨rfl, h4⟩; have H4 := Lib.hid h4; clear h4)
  obtain ⟨⟨p0, p1, p2, p3⟩, q0, q1, q2⟩ := HO.out _ H4.out
  have HSM4 := Lib.hid (HSM.out w4 (h3.out.1.thenNo H4.out))
  go_upto_region 3 with (go_at_call 13; (refine HSM4.out.mono ?_); rintro e w5 ⟨q, rfl, hq5, h5⟩; have HQ5 := Lib.hid hq5; have H5 : Hid (Chg No w3 w5) := H4.out.thenNo h5; clear h5 hq5)
  clear p0 p1 p2 p3 q0 q1 q2 HSM4 HSM HU
  cases q
  · clear HL1 HL2 HVL HX1 HX2 HX4 HX5 HUU
    go_wp2_with fail
    go_ret
    exact ⟨rfl, h3.out.1.thenNo H5.out⟩
  have HVL5 := Lib.hid (HVL.out (HQ5.out rfl) w5 (h3.out.1.thenNo H5.out))
  clear HVL HQ5 H4
  unfold VlsRet at HVL5
  cases hall : l.all (tldB vs)
  · rw [hall] at HVL5
    clear HL1 HL2 HX1 HX2 HX4 HX5 HUU hall
    have HV : Hid (Calls Tryz.prog 14 #[.slice As l.length caps, .slice A' vs.length cap'] w5 fun e w' => e = .returned (.tuple #[.slice none 0 0, .bool false]) ∧ Chg No w5 w') := HVL5.out.mono fun e w' h => by
      rcases h with ⟨h, _⟩ | ⟨_, h1, h2⟩
      · cases h
      · exact ⟨h1, h2⟩
    clear HVL5
    go_wp2_with (go_at_call 14; (refine HV.out.mono ?_); rintro e w6 ⟨rfl, h6⟩; have H6 : Hid (Chg No w3 w6) := H5.out.thenNo h6; clear h6)
    go_ret
    exact ⟨rfl, h3.out.1.thenNo H6.out⟩
  rw [hall] at HVL5
  have HV : Hid (Calls Tryz.prog 14 #[.slice As l.length caps, .slice A' vs.length cap'] w5 fun e w' => ∃ A cap, e = .returned (.tuple #[.slice A (varsOf vs l).length cap, .bool true]) ∧ Vars (fun k => w5.heap.size ≤ k) w' A (varsOf vs l) cap ∧ Chg No w5 w') := HVL5.out.mono fun e w' h => by
    rcases h with ⟨_, A, cap, h1, h2, h3⟩ | ⟨h, _⟩
    · exact ⟨A, cap, h1, h2, h3⟩
    · cases h
  have HLE := Lib.hid (HL1.out hall)
  have HLC := Lib.hid (HL2.out hall)
  clear HVL5 HL1 HL2 hall
  generalize exprR me x l = er at *
  generalize hexR (varsOf vs l) me x = hr at *
  generalize condR m n y l = cr at *
  generalize hcoR (varsOf vs l) m n y = kr at *
  generalize varsOf vs l = V at *
  obtain ⟨⟨eC, eT⟩, ee⟩ := er
  obtain ⟨hv, he⟩ := hr
  obtain ⟨cF, ce⟩ := cr
  obtain ⟨kv, ke⟩ := kr
  unfold XRetE at HX1
  unfold CdRet at HX4
  simp only at HX1 HX2 HX4 HX5 HLE HLC
  go_upto_region 6 with (go_at_call 14; (refine HV.out.mono ?_); rintro e w6 ⟨A6, c6, rfl, g6, h6⟩; have G6 := Lib.hid g6; have H6 : Hid (Chg No w3 w6) := H5.out.thenNo h6; clear h6 g6)
  clear HV
  obtain ⟨⟨p0, p1, p2, p3⟩, q0, q1, q2⟩ := HO.out _ H6.out
  have K1 := Lib.hid (HX1.out w6 (h3.out.1.thenNo H6.out))
  clear HX1
  obtain ⟨E1, hE1⟩ : ∃ E1, E1 = errV 83 ee := ⟨_, rfl⟩
  rw [← hE1] at K1
  have HE1 : Hid ((ee = 0 ∧ E1 = .nilIface) ∨ (ee ≠ 0 ∧ E1 = .iface 83 (.int .i64 ee))) := by rw [hE1]; exact errV_two ee
  clear hE1
  go_upto_region 9 with (go_at_call 15; (refine K1.out.mono ?_); rintro e w7 ⟨A7, c7, rfl, g7, h7⟩; have G7 := Lib.hid g7; have H7 := Lib.hid h7; clear h7 g7)
  obtain ⟨w8, hw8⟩ : ∃ w8, w8 = w7.alloc (.cells #[.int .i64 eC, .slice A7 eT.length c7] 32) := ⟨_, rfl⟩
  rw [← hw8]
  obtain ⟨b8, hb8⟩ : ∃ b8, b8 = w7.heap.size := ⟨_, rfl⟩
  rw [← hb8]
  have C8 : Hid (Chg No w3 w8 ∧ w8.heap[b8]? = some (.cells #[.int .i64 eC, .slice A7 eT.length c7] 32 (0, 0)) ∧ Monos (fun _ => True) w8 A7 eT c7 ∧ Vars (fun k => w5.heap.size ≤ k) w8 A6 V c6) := by
    rw [hw8, hb8]; exact ⟨H6.out.thenNo (H7.out.alloc _), heap_alloc_new _ _, (G7.out.no monoE_good ((Chg.refl _ _).alloc _)).mono monoE_good (fun _ _ _ => trivial), G6.out.no varE_good (H7.out.alloc _)⟩
  clear hw8 hb8 p0 p1 p2 p3 q0 q1 q2 K1 G7 G6 H7
  obtain ⟨⟨p0, p1, p2, p3⟩, q0, q1, q2⟩ := HO.out _ C8.out.1
  have K2 := Lib.hid (HX2.out w8 (h3.out.1.thenNo C8.out.1) _ _ _ C8.out.2.2.2)
  clear HX2
  obtain ⟨E2, hE2⟩ : ∃ E2, E2 = errV 83 he := ⟨_, rfl⟩
  rw [← hE2] at K2
  have HE2 : Hid ((he = 0 ∧ E2 = .nilIface) ∨ (he ≠ 0 ∧ E2 = .iface 83 (.int .i64 he))) := by rw [hE2]; exact errV_two he
  clear hE2
  go_upto_region 10 with (go_at_call 16; (with_reducible refine K2.out.mono ?_); rintro e w9 ⟨rfl, h9⟩; have H89 := Lib.hid h9; clear h9)
  clear p0 p1 p2 p3 q0 q1 q2 K2
  have C9 : Hid (Chg No w3 w9 ∧ Vars (fun k => w5.heap.size ≤ k) w9 A6 V c6) := ⟨C8.out.1.thenNo H89.out, C8.out.2.2.2.no varE_good H89.out⟩
  obtain ⟨p0, p1, _, _⟩ := obj_2 (H89.out.obj C8.out.2.1 id)
  have K3 := Lib.hid (ref01Value_any (w := w9) eC (C8.out.2.2.1.no monoE_good H89.out) (HUU.out w9 (h3.out.1.thenNo C9.out.1)))
  clear C8 H89
  generalize linVal eC eT vs = lr at *
  obtain ⟨lv, le⟩ := lr
  simp only at K3 HLE
  go_upto_region 11 with (go_at_call 7; (with_reducible refine K3.out.mono ?_); rintro e w10 ⟨rfl, h10⟩; have H10 := Lib.hid h10; clear h10)
  clear p0 p1 K3
  have C10 : Hid (Chg No w3 w10 ∧ Vars (fun k => w5.heap.size ≤ k) w10 A6 V c6) := ⟨C9.out.1.thenNo H10.out, C9.out.2.no varE_good H10.out⟩
  clear C9 H10
  go_cut [74] (fun s74 wx => s74 = .bool false ∧ w10 = wx)
  case first =>
    clear HX4 HX5 HLC HUU C10
    rename_i K hK J K' hJ hM
    clear hK
    have HJ := Lib.hid hJ
    clear hJ
    rcases HE1.out with ⟨e1, rfl⟩ | ⟨e1, rfl⟩
    · rcases HE2.out with ⟨e2, rfl⟩ | ⟨e2, rfl⟩
      · by_cases e3 : le = 0
        · have hv2 := HLE.out e1 e2 e3
          have m1 : (hv != lv) = false := by simp [hv2]
          clear HLE HE1 HE2 e1 e2 hv2
          subst e3
          go_wp2_with fail
          have hJ := HJ.out
          go_meet
          exact ⟨by simp, rfl⟩
        · have m1 : (le == 0) = false := by simp [e3]
          clear HLE HE1 HE2 e1 e2
          go_wp2_with fail
          have hJ := HJ.out
          go_meet
          exact ⟨rfl, rfl⟩
      · clear HLE HE1 HE2 e1
        go_wp2_with fail
        have hJ := HJ.out
        go_meet
        exact ⟨rfl, rfl⟩
    · clear HLE HE1 HE2
      go_wp2_with fail
      have hJ := HJ.out
      go_meet
      exact ⟨rfl, rfl⟩
  case rest =>
    obtain ⟨rfl, rfl⟩ := hcut
    clear HLE HE1 HE2
    go_upto_region 13 with fail
    obtain ⟨⟨p0, p1, p2, p3⟩, q0, q1, q2⟩ := HO.out _ C10.out.1
    have K4 := Lib.hid (HX4.out w10 (h3.out.1.thenNo C10.out.1))
    clear HX4
    obtain ⟨E3, hE3⟩ : ∃ E3, E3 = errV 83 ce := ⟨_, rfl⟩
    rw [← hE3] at K4
    have HE3 : Hid ((ce = 0 ∧ E3 = .nilIface) ∨ (ce ≠ 0 ∧ E3 = .iface 83 (.int .i64 ce))) := by rw [hE3]; exact errV_two ce
    clear hE3
    go_upto_region 14 with (go_at_call 17; (refine K4.out.mono ?_); rintro e w11 ⟨k7, c7, A7, l7, a7, B7, m7, b7, rfl, g7, h7⟩; have G7 := Lib.hid g7; have H7 := Lib.hid h7; clear h7 g7)
    obtain ⟨w12, hw12⟩ : ∃ w12, w12 = w11.alloc (.cells #[.int .i64 k7, .int .i64 c7, .slice A7 l7 a7, .slice B7 m7 b7] 49) := ⟨_, rfl⟩
    rw [← hw12]
    obtain ⟨b12, hb12⟩ : ∃ b12, b12 = w11.heap.size := ⟨_, rfl⟩
    rw [← hb12]
    have C12 : Hid (Chg No w3 w12 ∧ w12.heap[b12]? = some (.cells #[.int .i64 k7, .int .i64 c7, .slice A7 l7 a7, .slice B7 m7 b7] 49 (0, 0)) ∧ (formV (n + 1)) (fun _ => True) w12 [.int .i64 k7, .int .i64 c7, .slice A7 l7 a7, .slice B7 m7 b7] cF ∧ Vars (fun k => w5.heap.size ≤ k) w12 A6 V c6) := by
      rw [hw12, hb12]; exact ⟨C10.out.1.thenNo (H7.out.alloc _), heap_alloc_new _ _, (formV_good _).mono ((formV_good _).no G7.out ((Chg.refl _ _).alloc _)) (fun _ _ _ => trivial), C10.out.2.no varE_good (H7.out.alloc _)⟩
    clear hw12 hb12 p0 p1 p2 p3 q0 q1 q2 K4 G7 H7
    obtain ⟨⟨p0, p1, p2, p3⟩, q0, q1, q2⟩ := HO.out _ C12.out.1
    have K5 := Lib.hid (HX5.out w12 (h3.out.1.thenNo C12.out.1) _ _ _ C12.out.2.2.2)
    clear HX5
    obtain ⟨E4, hE4⟩ : ∃ E4, E4 = errV 83 ke := ⟨_, rfl⟩
    rw [← hE4] at K5
    have HE4 : Hid ((ke = 0 ∧ E4 = .nilIface) ∨ (ke ≠ 0 ∧ E4 = .iface 83 (.int .i64 ke))) := by rw [hE4]; exact errV_two ke
    clear hE4
    go_upto_region 15 with (go_at_call 18; (with_reducible refine K5.out.mono ?_); rintro e w13 ⟨rfl, h13⟩; have H13 := Lib.hid h13; clear h13)
    clear p0 p1 p2 p3 q0 q1 q2 K5
    obtain ⟨⟨p0, p1, p2, p3⟩, _⟩ := obj_4f (H13.out.obj C12.out.2.1 id)
    have K6 := Lib.hid (formValue_any (vs := vs) ((formV_good _).no C12.out.2.2.1 H13.out) (HUU.out w13 (h3.out.1.thenNo (C12.out.1.thenNo H13.out))))
    have C13 := Lib.hid (C12.out.1.thenNo H13.out)
    clear C12 H13 C10
    generalize valR (n + 1) cF vs = fr at *
    obtain ⟨fv, fe⟩ := fr
    simp only at K6 HLC
    obtain ⟨E5, hE5⟩ : ∃ E5, E5 = errV 83 fe := ⟨_, rfl⟩
    rw [← hE5] at K6
    have HE5 : Hid ((fe = 0 ∧ E5 = .nilIface) ∨ (fe ≠ 0 ∧ E5 = .iface 83 (.int .i64 fe))) := by rw [hE5]; exact errV_two fe
    clear hE5
    go_upto_region 16 with (go_at_call 12; (with_reducible refine K6.out.mono ?_); rintro e w14 ⟨rfl, h14⟩; have H14 := Lib.hid (h3.out.1.thenNo (C13.out.thenNo h14)); clear h14)
    clear p0 p1 p2 p3 K6
    rcases HE3.out with ⟨e1, rfl⟩ | ⟨e1, rfl⟩
    · rcases HE4.out with ⟨e2, rfl⟩ | ⟨e2, rfl⟩
      · rcases HE5.out with ⟨e3, rfl⟩ | ⟨e3, rfl⟩
        · have hv2 : kv = fv := HLC.out e1 e2 e3
          subst hv2
          clear HLC HE3 HE4 HE5 e1 e2 e3
          cases kv <;> (go_wp2_with fail; go_ret; exact ⟨rfl, H14.out⟩)
        · clear HLC HE3 HE4 HE5 e1 e2
          go_wp2_with fail
          go_ret
          exact ⟨rfl, H14.out⟩
      · clear HLC HE3 HE4 HE5 e1
        go_wp2_with fail
        go_ret
        exact ⟨rfl, H14.out⟩
    · clear HLC HE3 HE4 HE5
      go_wp2_with fail
      go_ret
      exact ⟨rfl, H14.out⟩
end Go.Proofs.YtpmndblakmobdaaGreatDoor
