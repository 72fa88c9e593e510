/-
  The walk over NormTwice.
-/
import Derived.Test.YtobkihmmdlacnaaNfH
import Derived.Test.YtobkihmmdlacnaaNfG
namespace Go.Proofs.Ytobkihmmdlacnaa
open Go Go.RowKit

set_option maxRecDepth 100000 in
set_option maxHeartbeats 2000000 in
theorem normTwice_walk {n : Nat} {f : FT n} {R : Nat → Prop} {w : World} {cs : List Value} (h : (formV n) R w cs f) :
    Calls Try.prog 6 #[.agg cs.toArray] w fun e w' => e = .returned (.bool true) ∧ Chg No w w' := by
  have hg := formV_good n
  obtain ⟨kd, c, A, tl, cap, B, kl, capk, rfl⟩ := shape4 h
  have HU := Lib.hid (fun W => shown_any W)
  have HLt := Lib.hid (fun W (hc : Chg No w W) => lightF_any n f R W _ (hg.no h hc) 800 60 (by omega) (by omega) (by omega) (by omega))
  have HN := Lib.hid (fun (N : Nat) (g : FT N) (W : World) R' cs' (hf : (formV N) R' W cs' g) => (normNorm_any hf).mono (fun _ _ g => g.shape))
  have HH := Lib.hid (fun W (hc : Chg No w W) => hg.no h hc)
  have HLW := Lib.hid (@twice_law n f)
  clear h
  obtain ⟨xf, hxf⟩ : ∃ xf, xf = resF n f := ⟨_, rfl⟩
  obtain ⟨yf, hyf⟩ : ∃ yf, yf = resF (3 + n) xf := ⟨_, rfl⟩
  obtain ⟨e1, he1⟩ : ∃ e1, e1 = resE n f := ⟨_, rfl⟩
  obtain ⟨e2, he2⟩ : ∃ e2, e2 = resE (3 + n) xf := ⟨_, rfl⟩
  have HX := Lib.hid (And.intro hxf (And.intro hyf (And.intro he1 he2)))
  have HLW2 : Hid (e1 = 0 → e2 = 0 → yf = toF (3 + (3 + n)) (3 + n) xf) := fun h1 h2 => by
    obtain ⟨q1, q2, q3, q4⟩ := HX.out
    rw [q2, q1]
    exact HLW.out (q3.symm.trans h1) (by rw [← q1]; exact q4.symm.trans h2)
  have HN1 : Hid (∀ (W : World) R' cs', (formV n) R' W cs' f → Calls Try.prog 17 #[.agg cs'.toArray] W fun e w' => ∃ k c A l ca B m cb, e = .returned (.tuple #[.agg #[.int .i64 k, .int .i64 c, .slice A l ca, .slice B m cb], errV 60 e1]) ∧ (formV (3 + n)) (fun k => R' k ∨ W.heap.size ≤ k) w' [.int .i64 k, .int .i64 c, .slice A l ca, .slice B m cb] xf ∧ Chg No W w') := fun W R' cs' hf => by
    have := HN.out n f W R' cs' hf
    rw [← hxf, ← he1] at this
    exact this
  have HN2 : Hid (∀ (W : World) R' cs', (formV (3 + n)) R' W cs' xf → Calls Try.prog 17 #[.agg cs'.toArray] W fun e w' => ∃ k c A l ca B m cb, e = .returned (.tuple #[.agg #[.int .i64 k, .int .i64 c, .slice A l ca, .slice B m cb], errV 60 e2]) ∧ (formV (3 + (3 + n))) (fun k => R' k ∨ W.heap.size ≤ k) w' [.int .i64 k, .int .i64 c, .slice A l ca, .slice B m cb] yf ∧ Chg No W w') := fun W R' cs' hf => by
    have := HN.out (3 + n) xf W R' cs' hf
    rw [← hyf, ← he2] at this
    exact this
  clear hxf hyf he1 he2 HX HLW HN
  have h0 : Hid (Chg No w (w.alloc (.cells #[.int .i64 kd, .int .i64 c, .slice A tl cap, .slice B kl capk] 28)) ∧ (w.alloc (.cells #[.int .i64 kd, .int .i64 c, .slice A tl cap, .slice B kl capk] 28)).heap[w.heap.size]? = some (.cells #[.int .i64 kd, .int .i64 c, .slice A tl cap, .slice B kl capk] 28 (0, 0))) := ⟨(Chg.refl _ _).alloc _, heap_alloc_new _ _⟩
  go_enter Try.func6, Try.ntmps6
  go_upto_region 2 with (go_at_call 9; refine (HU.out _).mono ?_; rintro e w1 ⟨rfl, h1⟩; have O1 := Lib.hid (h1.obj h0.out.2 id); obtain ⟨p0, p1, p2, p3⟩ := obj_four O1.out; have H1 := Lib.hid (h0.out.1.thenNo h1); clear h1)
  go_upto_region 3 with (go_at_call 19; refine (HLt.out _ H1.out).mono ?_; rintro e w2 ⟨q, rfl, q1, q2, h2⟩; have O2 := Lib.hid (h2.obj O1.out id); clear p0 p1 p2 p3; obtain ⟨p0, p1, p2, p3⟩ := obj_four O2.out; have H2 := Lib.hid (H1.out.thenNo h2); clear h2)
  · go_wp2_with fail
    go_ret
    exact ⟨rfl, H2.out⟩
  have N1 := Lib.hid (HN1.out w2 _ _ (HH.out w2 H2.out))
  (with_reducible refine N1.out.mono ?_)
  rintro e w3 ⟨k1, c1, A1, l1, a1, B1, m1, b1, rfl, g_, h_⟩
  have G1 := Lib.hid g_
  have I1 := Lib.hid h_
  clear g_ h_
  go_upto_region 5 with fail
  have K1 : Hid (Chg No w2 (w3.alloc (.cells #[.int .i64 k1, .int .i64 c1, .slice A1 l1 a1, .slice B1 m1 b1] 28)) ∧ (w3.alloc (.cells #[.int .i64 k1, .int .i64 c1, .slice A1 l1 a1, .slice B1 m1 b1] 28)).heap[w3.heap.size]? = some (.cells #[.int .i64 k1, .int .i64 c1, .slice A1 l1 a1, .slice B1 m1 b1] 28 (0, 0)) ∧ (formV (3 + n)) (fun k => R k ∨ w2.heap.size ≤ k) (w3.alloc (.cells #[.int .i64 k1, .int .i64 c1, .slice A1 l1 a1, .slice B1 m1 b1] 28)) [.int .i64 k1, .int .i64 c1, .slice A1 l1 a1, .slice B1 m1 b1] xf) := ⟨I1.out.alloc _, heap_alloc_new _ _, (formV_good _).no G1.out ((Chg.refl _ _).alloc _)⟩
  generalize w3.alloc (.cells #[.int .i64 k1, .int .i64 c1, .slice A1 l1 a1, .slice B1 m1 b1] 28) = w4 at *
  clear p0 p1 p2 p3
  obtain ⟨p0, p1, p2, p3⟩ := obj_four K1.out.2.1
  have N2 := Lib.hid (HN2.out w4 _ _ K1.out.2.2)
  go_upto_region 6 with (go_at_call 17; (with_reducible refine N2.out.mono ?_); rintro e w5 ⟨k2, c2, A2, l2, a2, B2, m2, b2, rfl, g_, h_⟩; have G2 := Lib.hid g_; have I2 := Lib.hid h_; clear g_ h_)
  have K2 : Hid (Chg No w4 (w5.alloc (.cells #[.int .i64 k2, .int .i64 c2, .slice A2 l2 a2, .slice B2 m2 b2] 28)) ∧ (w5.alloc (.cells #[.int .i64 k2, .int .i64 c2, .slice A2 l2 a2, .slice B2 m2 b2] 28)).heap[w5.heap.size]? = some (.cells #[.int .i64 k2, .int .i64 c2, .slice A2 l2 a2, .slice B2 m2 b2] 28 (0, 0)) ∧ (formV (3 + (3 + n))) (fun k => (R k ∨ w2.heap.size ≤ k) ∨ w4.heap.size ≤ k) (w5.alloc (.cells #[.int .i64 k2, .int .i64 c2, .slice A2 l2 a2, .slice B2 m2 b2] 28)) [.int .i64 k2, .int .i64 c2, .slice A2 l2 a2, .slice B2 m2 b2] yf) := ⟨I2.out.alloc _, heap_alloc_new _ _, (formV_good _).no G2.out ((Chg.refl _ _).alloc _)⟩
  generalize w5.alloc (.cells #[.int .i64 k2, .int .i64 c2, .slice A2 l2 a2, .slice B2 m2 b2] 28) = w6 at *
  clear p0 p1 p2 p3
  have HE := Lib.hid ((H2.out.thenNo K1.out.1).thenNo K2.out.1)
  by_cases z1 : e1 = 0
  · subst z1
    rw [errV_zero]
    by_cases z2 : e2 = 0
    · subst z2
      rw [errV_zero]
      obtain rfl := HLW2.out rfl rfl
      obtain ⟨r0, r1, r2, r3⟩ := obj_four (K2.out.1.obj K1.out.2.1 id)
      obtain ⟨s0, s1, s2, s3⟩ := obj_four K2.out.2.1
      have HSm : Hid (Calls Try.prog 12 #[.agg #[.int .i64 k1, .int .i64 c1, .slice A1 l1 a1, .slice B1 m1 b1], .agg #[.int .i64 k2, .int .i64 c2, .slice A2 l2 a2, .slice B2 m2 b2]] w6 fun e w' => e = .returned (.bool true) ∧ Chg No w6 w') :=
        refSame_any _ _ _ _ w6 _ _ (formV_to _ _ _ _ _ _ (by omega) ((formV_good _).no K1.out.2.2 K2.out.1)) K2.out.2.2
      clear N1 N2 HN1 HN2 HLW2 G1 G2 I1 I2
      go_wp2_with (go_at_call 12; (with_reducible refine HSm.out.mono ?_); rintro e w7 ⟨rfl, h7⟩; have H7 := Lib.hid h7; clear h7)
      go_ret
      exact ⟨rfl, HE.out.thenNo H7.out⟩
    · rw [errV_of _ z2]
      clear N1 N2 HN1 HN2 HLW2 G1 G2 I1 I2 z2
      go_wp2_with fail
      go_ret
      exact ⟨rfl, HE.out⟩
  · rw [errV_of _ z1]
    clear N1 N2 HN1 HN2 HLW2 G1 G2 I1 I2 z1
    go_wp2_with fail
    go_ret
    exact ⟨rfl, HE.out⟩
end Go.Proofs.Ytobkihmmdlacnaa
