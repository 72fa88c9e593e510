/-
  The walks over NormForms and NormStays.
-/
import Derived.Test.YtobkihmmdlacnaaNfF
namespace Go.Proofs.Ytobkihmmdlacnaa
open Go Go.RowKit

set_option maxRecDepth 100000 in
set_option maxHeartbeats 2000000 in
theorem normForms_walk {n : Nat} {f : FT n} {R : Nat → Prop} {w : World} {cs : List Value} (h : (formV n) R w cs f) :
    Calls Try.prog 5 #[.agg cs.toArray] w fun e w' => e = .returned (.bool true) ∧ Chg No w w' := by
  have hg := formV_good n
  obtain ⟨kd, c, A, tl, cap, B, kl, capk, rfl⟩ := shape4 h
  have HU := Lib.hid (fun W => shown_any W)
  have HS := Lib.hid (fun W (hc : Chg No w W) => small3_any (hg.no h hc))
  have HN := Lib.hid (fun W (hc : Chg No w W) => (normNorm_any (hg.no h hc)).mono (fun _ _ g => g.shape))
  have HR := Lib.hid (fun W (hc : Chg No w W) => (refNormNorm_any (hg.no h hc)).mono (fun _ _ g => g.shape))
  have HCd := Lib.hid (fun W => code_any W (resE n f) (resE_range n f).1 (resE_range n f).2)
  clear h
  generalize resE n f = er at *
  generalize resF n f = xf at *
  have h0 : Hid (Chg No w (w.alloc (.cells #[.int .i64 kd, .int .i64 c, .slice A tl cap, .slice B kl capk] 28)) ∧ (w.alloc (.cells #[.int .i64 kd, .int .i64 c, .slice A tl cap, .slice B kl capk] 28)).heap[w.heap.size]? = some (.cells #[.int .i64 kd, .int .i64 c, .slice A tl cap, .slice B kl capk] 28 (0, 0))) := ⟨(Chg.refl _ _).alloc _, heap_alloc_new _ _⟩
  go_enter Try.func5, Try.ntmps5
  go_upto_region 3 with (first
    | (go_at_call 9; refine (HU.out _).mono ?_; rintro e w1 ⟨rfl, h1⟩; have O1 := Lib.hid (h1.obj h0.out.2 id); obtain ⟨p0, p1, p2, p3⟩ := obj_four O1.out; have H1 := Lib.hid (h0.out.1.thenNo h1); clear h1)
    | (go_at_call 14; refine (HS.out _ H1.out).mono ?_; rintro e w2 ⟨q, rfl, h2⟩; have O2 := Lib.hid (h2.obj O1.out id); clear p0 p1 p2 p3; obtain ⟨p0, p1, p2, p3⟩ := obj_four O2.out; have H2 := Lib.hid (H1.out.thenNo h2); clear h2))
  cases q
  · go_wp2_with fail
    go_ret
    exact ⟨rfl, H2.out⟩
  have N1 := Lib.hid (HN.out w2 H2.out)
  go_upto_region 6 with (go_at_call 17; (with_reducible refine N1.out.mono ?_); rintro e w3 ⟨k1, c1, A1, l1, a1, B1, m1, b1, rfl, g_, h_⟩; have G1 := Lib.hid g_; have I1 := Lib.hid h_; clear g_ h_)
  have K1 : Hid (Chg No w2 (w3.alloc (.cells #[.int .i64 k1, .int .i64 c1, .slice A1 l1 a1, .slice B1 m1 b1] 28)) ∧ (w3.alloc (.cells #[.int .i64 k1, .int .i64 c1, .slice A1 l1 a1, .slice B1 m1 b1] 28)).heap[w3.heap.size]? = some (.cells #[.int .i64 k1, .int .i64 c1, .slice A1 l1 a1, .slice B1 m1 b1] 28 (0, 0)) ∧ (formV (3 + n)) (fun k => R k ∨ w2.heap.size ≤ k) (w3.alloc (.cells #[.int .i64 k1, .int .i64 c1, .slice A1 l1 a1, .slice B1 m1 b1] 28)) [.int .i64 k1, .int .i64 c1, .slice A1 l1 a1, .slice B1 m1 b1] xf) := ⟨I1.out.alloc _, heap_alloc_new _ _, (formV_good _).no G1.out ((Chg.refl _ _).alloc _)⟩
  generalize w3.alloc (.cells #[.int .i64 k1, .int .i64 c1, .slice A1 l1 a1, .slice B1 m1 b1] 28) = w4 at *
  clear p0 p1 p2 p3
  obtain ⟨p0, p1, p2, p3⟩ := obj_four (K1.out.1.obj O2.out id)
  have N2 := Lib.hid (HR.out w4 (H2.out.thenNo K1.out.1))
  go_upto_region 7 with (go_at_call 18; (with_reducible refine N2.out.mono ?_); rintro e w5 ⟨k2, c2, A2, l2, a2, B2, m2, b2, rfl, g_, h_⟩; have G2 := Lib.hid g_; have I2 := Lib.hid h_; clear g_ h_)
  have K2 : Hid (Chg No w4 (w5.alloc (.cells #[.int .i64 k2, .int .i64 c2, .slice A2 l2 a2, .slice B2 m2 b2] 28)) ∧ (w5.alloc (.cells #[.int .i64 k2, .int .i64 c2, .slice A2 l2 a2, .slice B2 m2 b2] 28)).heap[w5.heap.size]? = some (.cells #[.int .i64 k2, .int .i64 c2, .slice A2 l2 a2, .slice B2 m2 b2] 28 (0, 0)) ∧ (formV (3 + n)) (fun k => R k ∨ w4.heap.size ≤ k) (w5.alloc (.cells #[.int .i64 k2, .int .i64 c2, .slice A2 l2 a2, .slice B2 m2 b2] 28)) [.int .i64 k2, .int .i64 c2, .slice A2 l2 a2, .slice B2 m2 b2] xf) := ⟨I2.out.alloc _, heap_alloc_new _ _, (formV_good _).no G2.out ((Chg.refl _ _).alloc _)⟩
  generalize w5.alloc (.cells #[.int .i64 k2, .int .i64 c2, .slice A2 l2 a2, .slice B2 m2 b2] 28) = w6 at *
  obtain ⟨r0, r1, r2, r3⟩ := obj_four (K2.out.1.obj K1.out.2.1 id)
  obtain ⟨s0, s1, s2, s3⟩ := obj_four K2.out.2.1
  have HSm : Hid (Calls Try.prog 12 #[.agg #[.int .i64 k1, .int .i64 c1, .slice A1 l1 a1, .slice B1 m1 b1], .agg #[.int .i64 k2, .int .i64 c2, .slice A2 l2 a2, .slice B2 m2 b2]] w6 fun e w' => e = .returned (.bool true) ∧ Chg No w6 w') :=
    refSame_any (3 + n) xf _ _ w6 _ _ ((formV_good _).no K1.out.2.2 K2.out.1) K2.out.2.2
  clear p0 p1 p2 p3
  go_wp2_with (first
    | (go_at_call 12; (with_reducible refine HSm.out.mono ?_); rintro e w7 ⟨rfl, h7⟩; have H7 := Lib.hid h7; clear h7)
    | (go_at_call 13; (with_reducible refine (HCd.out _).mono ?_); rintro e w8 ⟨rfl, rfl⟩))
  go_ret
  exact ⟨rfl, ((H2.out.thenNo K1.out.1).thenNo K2.out.1).thenNo H7.out⟩

set_option maxRecDepth 100000 in
set_option maxHeartbeats 2000000 in
theorem normStays_walk {n : Nat} {f : FT n} {R : Nat → Prop} {w : World} {cs : List Value} (h : (formV n) R w cs f) :
    Calls Try.prog 7 #[.agg cs.toArray] w fun e w' => e = .returned (.bool true) ∧ Chg No w w' := by
  have hg := formV_good n
  obtain ⟨kd, c, A, tl, cap, B, kl, capk, rfl⟩ := shape4 h
  have HU := Lib.hid (fun W => shown_any W)
  have HS := Lib.hid (fun W (hc : Chg No w W) => small3_any (hg.no h hc))
  have HC := Lib.hid (fun W (hc : Chg No w W) => refCopy_any n f R W _ (hg.no h hc))
  have HN := Lib.hid (fun (W : World) R' cs' (hf : (formV n) R' W cs' f) => (normNorm_any hf).mono (fun _ _ g => g.shape))
  have HIs := Lib.hid (fun (W : World) R' cs' (hf : (formV n) R' W cs' f) => normIs_any hf)
  have HCd := Lib.hid (fun W => code_any W (resE n f) (resE_range n f).1 (resE_range n f).2)
  have HH := Lib.hid (fun W (hc : Chg No w W) => hg.no h hc)
  clear h
  generalize resE n f = er at *
  generalize resF n f = xf at *
  have h0 : Hid (Chg No w (w.alloc (.cells #[.int .i64 kd, .int .i64 c, .slice A tl cap, .slice B kl capk] 28)) ∧ (w.alloc (.cells #[.int .i64 kd, .int .i64 c, .slice A tl cap, .slice B kl capk] 28)).heap[w.heap.size]? = some (.cells #[.int .i64 kd, .int .i64 c, .slice A tl cap, .slice B kl capk] 28 (0, 0))) := ⟨(Chg.refl _ _).alloc _, heap_alloc_new _ _⟩
  go_enter Try.func7, Try.ntmps7
  go_upto_region 3 with (first
    | (go_at_call 9; refine (HU.out _).mono ?_; rintro e w1 ⟨rfl, h1⟩; have O1 := Lib.hid (h1.obj h0.out.2 id); obtain ⟨p0, p1, p2, p3⟩ := obj_four O1.out; have H1 := Lib.hid (h0.out.1.thenNo h1); clear h1)
    | (go_at_call 14; refine (HS.out _ H1.out).mono ?_; rintro e w2 ⟨q, rfl, h2⟩; have O2 := Lib.hid (h2.obj O1.out id); clear p0 p1 p2 p3; obtain ⟨p0, p1, p2, p3⟩ := obj_four O2.out; have H2 := Lib.hid (H1.out.thenNo h2); clear h2))
  cases q
  · go_wp2_with fail
    go_ret
    exact ⟨rfl, H2.out⟩
  have N0 : Hid (Calls Try.prog 20 #[.agg #[.int .i64 kd, .int .i64 c, .slice A tl cap, .slice B kl capk]] w2 fun e w' => ∃ k0 c0 A0 l0 a0 B0 m0 b0, e = .returned (.agg #[.int .i64 k0, .int .i64 c0, .slice A0 l0 a0, .slice B0 m0 b0]) ∧ (formV n) (fun k => w2.heap.size ≤ k) w' [.int .i64 k0, .int .i64 c0, .slice A0 l0 a0, .slice B0 m0 b0] f ∧ Chg No w2 w') := (HC.out w2 H2.out).mono (by
    rintro e w' ⟨cs', rfl, g, hc⟩
    obtain ⟨k0, c0, A0, l0, a0, B0, m0, b0, rfl⟩ := shape4 g
    exact ⟨k0, c0, A0, l0, a0, B0, m0, b0, rfl, g, hc⟩)
  go_upto_region 6 with (go_at_call 20; (with_reducible refine N0.out.mono ?_); rintro e w3 ⟨k0, c0, A0, l0, a0, B0, m0, b0, rfl, g_, h_⟩; have G0 := Lib.hid g_; have I0 := Lib.hid h_; clear g_ h_)
  have K0 : Hid (Chg No w2 (w3.alloc (.cells #[.int .i64 k0, .int .i64 c0, .slice A0 l0 a0, .slice B0 m0 b0] 28)) ∧ (w3.alloc (.cells #[.int .i64 k0, .int .i64 c0, .slice A0 l0 a0, .slice B0 m0 b0] 28)).heap[w3.heap.size]? = some (.cells #[.int .i64 k0, .int .i64 c0, .slice A0 l0 a0, .slice B0 m0 b0] 28 (0, 0)) ∧ (formV n) (fun k => w2.heap.size ≤ k) (w3.alloc (.cells #[.int .i64 k0, .int .i64 c0, .slice A0 l0 a0, .slice B0 m0 b0] 28)) [.int .i64 k0, .int .i64 c0, .slice A0 l0 a0, .slice B0 m0 b0] f) := ⟨I0.out.alloc _, heap_alloc_new _ _, (formV_good _).no G0.out ((Chg.refl _ _).alloc _)⟩
  generalize w3.alloc (.cells #[.int .i64 k0, .int .i64 c0, .slice A0 l0 a0, .slice B0 m0 b0] 28) = w4 at *
  clear p0 p1 p2 p3
  obtain ⟨p0, p1, p2, p3⟩ := obj_four K0.out.2.1
  have N1 := Lib.hid (HN.out w4 _ _ K0.out.2.2)
  go_upto_region 7 with (go_at_call 17; (with_reducible refine N1.out.mono ?_); rintro e w5 ⟨k1, c1, A1, l1, a1, B1, m1, b1, rfl, g_, h_⟩; have G1 := Lib.hid g_; have I1 := Lib.hid h_; clear g_ h_)
  have K1 : Hid (Chg No w4 (w5.alloc (.cells #[.int .i64 k1, .int .i64 c1, .slice A1 l1 a1, .slice B1 m1 b1] 28)) ∧ (w5.alloc (.cells #[.int .i64 k1, .int .i64 c1, .slice A1 l1 a1, .slice B1 m1 b1] 28)).heap[w5.heap.size]? = some (.cells #[.int .i64 k1, .int .i64 c1, .slice A1 l1 a1, .slice B1 m1 b1] 28 (0, 0)) ∧ (formV (3 + n)) (fun k => w2.heap.size ≤ k ∨ w4.heap.size ≤ k) (w5.alloc (.cells #[.int .i64 k1, .int .i64 c1, .slice A1 l1 a1, .slice B1 m1 b1] 28)) [.int .i64 k1, .int .i64 c1, .slice A1 l1 a1, .slice B1 m1 b1] xf) := ⟨I1.out.alloc _, heap_alloc_new _ _, (formV_good _).no G1.out ((Chg.refl _ _).alloc _)⟩
  generalize w5.alloc (.cells #[.int .i64 k1, .int .i64 c1, .slice A1 l1 a1, .slice B1 m1 b1] 28) = w6 at *
  clear p0 p1 p2 p3
  obtain ⟨p0, p1, p2, p3⟩ := obj_four (K1.out.1.obj K0.out.2.1 id)
  have N2 := Lib.hid (HIs.out w6 _ _ (hg.no K0.out.2.2 K1.out.1))
  go_upto_region 8 with (go_at_call 15; (with_reducible refine N2.out.mono ?_); rintro e w7 ⟨rfl, h7⟩; have H7 := Lib.hid h7; clear h7)
  clear p0 p1 p2 p3
  have K7 := Lib.hid (K1.out.1.thenNo H7.out)
  obtain ⟨p0, p1, p2, p3⟩ := obj_four (K7.out.obj K0.out.2.1 id)
  have N3 := Lib.hid (HN.out w7 _ _ (hg.no K0.out.2.2 K7.out))
  go_upto_region 9 with (go_at_call 17; (with_reducible refine N3.out.mono ?_); rintro e w8 ⟨k2, c2, A2, l2, a2, B2, m2, b2, rfl, g_, h_⟩; have G2 := Lib.hid g_; have I2 := Lib.hid h_; clear g_ h_)
  have K2 : Hid (Chg No w7 (w8.alloc (.cells #[.int .i64 k2, .int .i64 c2, .slice A2 l2 a2, .slice B2 m2 b2] 28)) ∧ (w8.alloc (.cells #[.int .i64 k2, .int .i64 c2, .slice A2 l2 a2, .slice B2 m2 b2] 28)).heap[w8.heap.size]? = some (.cells #[.int .i64 k2, .int .i64 c2, .slice A2 l2 a2, .slice B2 m2 b2] 28 (0, 0)) ∧ (formV (3 + n)) (fun k => w2.heap.size ≤ k ∨ w7.heap.size ≤ k) (w8.alloc (.cells #[.int .i64 k2, .int .i64 c2, .slice A2 l2 a2, .slice B2 m2 b2] 28)) [.int .i64 k2, .int .i64 c2, .slice A2 l2 a2, .slice B2 m2 b2] xf) := ⟨I2.out.alloc _, heap_alloc_new _ _, (formV_good _).no G2.out ((Chg.refl _ _).alloc _)⟩
  generalize w8.alloc (.cells #[.int .i64 k2, .int .i64 c2, .slice A2 l2 a2, .slice B2 m2 b2] 28) = w9 at *
  clear p0 p1 p2 p3
  have K9 := Lib.hid (K7.out.thenNo K2.out.1)
  have L9 := Lib.hid (K0.out.1.thenNo K9.out)
  obtain ⟨p0, p1, p2, p3⟩ := obj_four (K9.out.obj K0.out.2.1 id)
  obtain ⟨o0, o1, o2, o3⟩ := obj_four (L9.out.obj O2.out id)
  obtain ⟨r0, r1, r2, r3⟩ := obj_four ((H7.out.thenNo K2.out.1).obj K1.out.2.1 id)
  obtain ⟨s0, s1, s2, s3⟩ := obj_four K2.out.2.1
  have HSa : Hid (Calls Try.prog 12 #[.agg #[.int .i64 k0, .int .i64 c0, .slice A0 l0 a0, .slice B0 m0 b0], .agg #[.int .i64 kd, .int .i64 c, .slice A tl cap, .slice B kl capk]] w9 fun e w' => e = .returned (.bool true) ∧ (w'.cell? ⟨w5.heap.size, 0, none⟩ = some (.int .i64 k1) ∧ w'.cell? ⟨w5.heap.size, 1, none⟩ = some (.int .i64 c1) ∧ w'.cell? ⟨w5.heap.size, 2, none⟩ = some (.slice A1 l1 a1) ∧ w'.cell? ⟨w5.heap.size, 3, none⟩ = some (.slice B1 m1 b1)) ∧ (w'.cell? ⟨w8.heap.size, 0, none⟩ = some (.int .i64 k2) ∧ w'.cell? ⟨w8.heap.size, 1, none⟩ = some (.int .i64 c2) ∧ w'.cell? ⟨w8.heap.size, 2, none⟩ = some (.slice A2 l2 a2) ∧ w'.cell? ⟨w8.heap.size, 3, none⟩ = some (.slice B2 m2 b2)) ∧ Chg No w9 w') :=
    (refSame_any n f _ _ w9 _ _ (hg.no K0.out.2.2 K9.out) (HH.out w9 (H2.out.thenNo L9.out))).mono (fun e w' g => ⟨g.1, obj_four (g.2.obj ((H7.out.thenNo K2.out.1).obj K1.out.2.1 id) id), obj_four (g.2.obj K2.out.2.1 id), g.2⟩)
  have HSb : Hid (∀ W, Chg No w9 W → Calls Try.prog 12 #[.agg #[.int .i64 k1, .int .i64 c1, .slice A1 l1 a1, .slice B1 m1 b1], .agg #[.int .i64 k2, .int .i64 c2, .slice A2 l2 a2, .slice B2 m2 b2]] W fun e w' => e = .returned (.bool true) ∧ Chg No W w') := fun W hW =>
    refSame_any (3 + n) xf _ _ W _ _ ((formV_good _).no K1.out.2.2 ((H7.out.thenNo K2.out.1).thenNo hW)) ((formV_good _).no K2.out.2.2 hW)
  clear r0 r1 r2 r3 s0 s1 s2 s3
  go_wp2_with (first
    | (go_at_call 12; (with_reducible refine HSa.out.mono ?_); rintro e wa ⟨rfl, ⟨r0, r1, r2, r3⟩, ⟨s0, s1, s2, s3⟩, ha⟩; have Ha := Lib.hid ha; clear ha; have HSc := Lib.hid (HSb.out wa Ha.out))
    | (go_at_call 12; (with_reducible refine HSc.out.mono ?_); rintro e wb ⟨rfl, hb⟩; have Hb := Lib.hid hb; clear hb)
    | (go_at_call 13; (with_reducible refine (HCd.out _).mono ?_); rintro e wz ⟨rfl, rfl⟩))
  go_ret
  exact ⟨by simp, ((H2.out.thenNo L9.out).thenNo Ha.out).thenNo Hb.out⟩
end Go.Proofs.Ytobkihmmdlacnaa
