/-
  The walk over NormLiterals.
-/
import Derived.Test.YtobkihmmdlacnaaNrmG
namespace Go.Proofs.Ytobkihmmdlacnaa
open Go Go.RowKit

theorem LitRet.shape {w w' : World} {f : FT 2} {E : Value} {e : Ending} (h : LitRet w f E e w') : ∃ k c A l ca B m cb, e = .returned (.tuple #[.agg #[.int .i64 k, .int .i64 c, .slice A l ca, .slice B m cb], E]) ∧ (formV 2) (fun k => w.heap.size ≤ k) w' [.int .i64 k, .int .i64 c, .slice A l ca, .slice B m cb] f ∧ Chg No w w' := by
  obtain ⟨cs, rfl, hf, hc⟩ := h
  obtain ⟨k, c, A, l, ca, B, m, cb, rfl⟩ := shape4 hf
  exact ⟨k, c, A, l, ca, B, m, cb, rfl, hf, hc⟩
theorem litErr_range (c : Int) (t : List Mono) : 0 ≤ litErr c t ∧ litErr c t ≤ 16 := by
  unfold litErr
  split
  · split
    · omega
    · split
      · omega
      · split <;> omega
  · omega

set_option maxRecDepth 100000 in
set_option maxHeartbeats 2000000 in
theorem normLiterals_walk {R : Nat → Prop} {w : World} (c : Int) {A : Option Addr} {t : List Mono} {cap : Nat} (ht : Monos R w A t cap) :
    Calls Try.prog 3 #[.agg #[.int .i64 c, .slice A t.length cap]] w fun e w' => e = .returned (.bool true) ∧ Chg No w w' := by
  have HU := Lib.hid (fun W => shown_any W)
  have HL := Lib.hid (fun W (h : Chg No w W) => (normLiteral_any c (ht.no monoE_good h)).mono (fun _ _ g => g.shape))
  have HR := Lib.hid (fun W (h : Chg No w W) => (refLiteral_any c (ht.no monoE_good h)).mono (fun _ _ g => g.shape))
  have HCd := Lib.hid (fun W => code_any W (litErr c t) (litErr_range c t).1 (litErr_range c t).2)
  clear ht
  generalize litErr c t = er at *
  generalize litForm c t = ff at *
  generalize t.length = tl at *
  have h0 : Hid (Chg No w (w.alloc (.cells #[.int .i64 c, .slice A tl cap] 24)) ∧ (w.alloc (.cells #[.int .i64 c, .slice A tl cap] 24)).heap[w.heap.size]? = some (.cells #[.int .i64 c, .slice A tl cap] 24 (0, 0))) := ⟨(Chg.refl _ _).alloc _, heap_alloc_new _ _⟩
  go_enter Try.func3, Try.ntmps3
  go_upto_region 3 with (first
    | (go_at_call 9; refine (HU.out _).mono ?_; rintro e w1 ⟨rfl, h1⟩; have O1 := Lib.hid (h1.obj h0.out.2 id); obtain ⟨p0, p1⟩ := objtwo O1.out; have H1 := Lib.hid (h0.out.1.thenNo h1); clear h1)
    | (go_at_call 10; refine (HL.out _ H1.out).mono ?_; rintro e w2 ⟨k1, c1, A1, l1, a1, B1, m1, b1, rfl, g2, h2⟩; have G2 := Lib.hid g2; have C2 := Lib.hid h2; clear g2 h2))
  obtain ⟨w3, hw3⟩ : ∃ w3, w3 = w2.alloc (.cells #[.int .i64 k1, .int .i64 c1, .slice A1 l1 a1, .slice B1 m1 b1] 28) := ⟨_, rfl⟩
  rw [← hw3]
  have C3 : Hid (Chg No w2 w3 ∧ w3.heap[w2.heap.size]? = some (.cells #[.int .i64 k1, .int .i64 c1, .slice A1 l1 a1, .slice B1 m1 b1] 28 (0, 0))) := by rw [hw3]; exact ⟨(Chg.refl _ _).alloc _, heap_alloc_new _ _⟩
  clear hw3 p0 p1
  have C13 := Lib.hid (C2.out.thenNo C3.out.1)
  obtain ⟨p0, p1⟩ := objtwo (C13.out.obj O1.out id)
  go_upto_region 4 with (go_at_call 11; refine (HR.out _ (H1.out.thenNo C13.out)).mono ?_; rintro e w4 ⟨k2, c2, A2, l2, a2, B2, m2, b2, rfl, g4, h4⟩; have G4 := Lib.hid g4; have C4 := Lib.hid h4; clear g4 h4)
  obtain ⟨w5, hw5⟩ : ∃ w5, w5 = w4.alloc (.cells #[.int .i64 k2, .int .i64 c2, .slice A2 l2 a2, .slice B2 m2 b2] 28) := ⟨_, rfl⟩
  rw [← hw5]
  have C5 : Hid (Chg No w4 w5 ∧ w5.heap[w4.heap.size]? = some (.cells #[.int .i64 k2, .int .i64 c2, .slice A2 l2 a2, .slice B2 m2 b2] 28 (0, 0))) := by rw [hw5]; exact ⟨(Chg.refl _ _).alloc _, heap_alloc_new _ _⟩
  clear hw5 p0 p1
  have C35 := Lib.hid (C4.out.thenNo C5.out.1)
  obtain ⟨a0, a1', a2', a3⟩ := obj_four (C35.out.obj C3.out.2 id)
  obtain ⟨b0, b1', b2', b3⟩ := obj_four C5.out.2
  have HSm : Hid (Calls Try.prog 12 #[.agg #[.int .i64 k1, .int .i64 c1, .slice A1 l1 a1, .slice B1 m1 b1], .agg #[.int .i64 k2, .int .i64 c2, .slice A2 l2 a2, .slice B2 m2 b2]] w5 fun e w' => e = .returned (.bool true) ∧ Chg No w5 w') :=
    refSame_any 2 ff _ _ w5 _ _ ((formV_good 2).no G2.out (C3.out.1.thenNo C35.out)) ((formV_good 2).no G4.out C5.out.1)
  go_wp2_with (first
    | (go_at_call 12; refine HSm.out.mono ?_; rintro e w6 ⟨rfl, h6⟩; have H6 := Lib.hid h6; clear h6)
    | (go_at_call 13; refine (HCd.out _).mono ?_; rintro e w7 ⟨rfl, rfl⟩))
  go_ret
  exact ⟨rfl, ((H1.out.thenNo C13.out).thenNo C35.out).thenNo H6.out⟩
end Go.Proofs.Ytobkihmmdlacnaa
