/-
  The walk over LinSpreads: it returns true and changes nothing.
-/
import Derived.Test.YtdljgclaccahaaaLinVls
import Derived.Test.YtdljgclaccahaaaLinG
namespace Go.Proofs.Ytdljgclaccahaaa
open Go Go.RowKit

theorem mulS {x k : Int} (h1 : -256 ≤ x) (h2 : x ≤ 256) (h3 : -1125899906842624 ≤ k) (h4 : k ≤ 1125899906842624) : -288230376151711744 ≤ x * k ∧ x * k ≤ 288230376151711744 := by
  have h : (x * k).natAbs ≤ 256 * 1125899906842624 := by
    rw [Int.natAbs_mul]
    exact Nat.mul_le_mul (by omega) (by omega)
  omega

set_option maxRecDepth 100000 in
set_option maxHeartbeats 4000000 in
theorem linSpreads_walk {w : World} (ca : Int) {A : Option Addr} {ta : List Mono} {cap : Nat} (ht : Monos (Old w) w A ta cap) (cb : Int) {A' : Option Addr} {tb : List Mono} {cap' : Nat} (ht' : Monos (Old w) w A' tb cap') (x : Int) (_ : I64 x) (y : Int) (_ : I64 y) {B : Option Addr} {vs : List Int} {cap2 : Nat} (hv : Ints (Old w) w B vs cap2) :
    Calls Try.prog 7 #[.agg #[.int .i64 ca, .slice A ta.length cap], .agg #[.int .i64 cb, .slice A' tb.length cap'], .int .i64 x, .int .i64 y, .slice B vs.length cap2] w fun e w' => e = .returned (.bool true) ∧ Chg No w w' := by
  have HU := Lib.hid (fun W => up_any W)
  have HM := Lib.hid (fun W (h : Chg No w W) => linAdd_any (ca, ta) (cb, tb) (ht.no monoE_good h) (ht'.no monoE_good h) x y)
  have HVa := Lib.hid (fun W (h : Chg No w W) => linValue_any ca (ht.no monoE_good h) (hv.no intE_good h))
  have HVb := Lib.hid (fun W (h : Chg No w W) => linValue_any cb (ht'.no monoE_good h) (hv.no intE_good h))
  have HL := spread_law (a := (ca, ta)) (b := (cb, tb)) (x := x) (y := y) (vs := vs)
  simp only at HM HL
  have HVs := Lib.hid (fun W A1 cap1 (M : Nat → Prop) (h : Chg No w W) (hm : Monos M W A1 (addLin (ca, ta) (cb, tb) x y).2 cap1) => linValue_any (addLin (ca, ta) (cb, tb) x y).1 hm (hv.no intE_good h))
  clear ht ht' hv
  generalize addLin (ca, ta) (cb, tb) x y = r at *
  generalize addErr (ca, ta) (cb, tb) x y = e0 at *
  generalize linVal ca ta vs = ra at *
  generalize linVal cb tb vs = rb at *
  generalize linVal r.1 r.2 vs = rs at *
  obtain ⟨va, ea⟩ := ra
  obtain ⟨vb, eb⟩ := rb
  obtain ⟨vs', es⟩ := rs
  simp only at HVa HVb HVs HL
  obtain ⟨w3, hw3⟩ : ∃ w3, w3 = (w.alloc (.cells #[.int .i64 ca, .slice A ta.length cap] 25)).alloc (.cells #[.int .i64 cb, .slice A' tb.length cap'] 25) := ⟨_, rfl⟩
  have h3 : Hid (Chg No w w3 ∧ w3.heap[w.heap.size]? = some (.cells #[.int .i64 ca, .slice A ta.length cap] 25 (0, 0)) ∧ w3.heap[w.heap.size + 1]? = some (.cells #[.int .i64 cb, .slice A' tb.length cap'] 25 (0, 0))) := by
    rw [hw3]
    exact ⟨((Chg.refl _ _).alloc _).alloc _, at_old (heap_alloc_new _ _), at_new (by simp)⟩
  have HB3 : Hid (∀ W, Chg No w3 W → W.heap[w.heap.size]? = some (.cells #[.int .i64 ca, .slice A ta.length cap] 25 (0, 0)) ∧ W.heap[w.heap.size + 1]? = some (.cells #[.int .i64 cb, .slice A' tb.length cap'] 25 (0, 0))) := fun W h =>
    ⟨h.obj h3.out.2.1 id, h.obj h3.out.2.2 id⟩
  have H30 := Lib.hid h3.out.1
  clear h3
  by_cases h1 : e0 ≠ 0
  · rw [errV_of _ h1] at HM
    clear HL HVs
    go_enter Try.func7, Try.ntmps7
    go_wp2_with fail
    rw [← hw3]
    clear hw3
    refine (HU.out _).mono ?_
    rintro e w4 ⟨rfl, h4⟩
    have H4 := Lib.hid h4
    clear h4
    obtain ⟨p0, p1, _, _⟩ := obj_two (HB3.out w4 H4.out).1; obtain ⟨q0, q1, _, _⟩ := obj_two (HB3.out w4 H4.out).2
    go_wp2_with (first
      | (go_at_call 21; refine (HM.out _ (H30.out.thenNo H4.out)).mono ?_; rintro e w5 ⟨A1, cap1, rfl, h5, c5⟩; have M5 := Lib.hid (h5.no monoE_good ((Chg.refl No w5).alloc (.cells #[.int .i64 r.1, .slice A1 r.2.length cap1] 25))); have H5 := Lib.hid ((H4.out.thenNo c5).alloc (.cells #[.int .i64 r.1, .slice A1 r.2.length cap1] 25)); have B5 := Lib.hid (heap_alloc_new w5 (.cells #[.int .i64 r.1, .slice A1 r.2.length cap1] 25)); clear h5 c5 p0 p1 q0 q1; obtain ⟨p0, p1, _, _⟩ := obj_two (HB3.out _ H5.out).1; obtain ⟨q0, q1, _, _⟩ := obj_two (HB3.out _ H5.out).2)
      | (go_at_call 14; with_reducible refine (HVa.out _ (H30.out.thenNo H5.out)).mono ?_; rintro e w6 ⟨rfl, c6⟩; have M6 := Lib.hid (M5.out.no monoE_good c6); have H6 := Lib.hid (H5.out.thenNo c6); have B6 := Lib.hid (c6.obj B5.out id); clear c6 p0 p1 q0 q1; obtain ⟨q0, q1, _, _⟩ := obj_two (HB3.out _ H6.out).2)
      | (go_at_call 14; with_reducible refine (HVb.out _ (H30.out.thenNo H6.out)).mono ?_; rintro e w7 ⟨rfl, c7⟩; have M7 := Lib.hid (M6.out.no monoE_good c7); have H7 := Lib.hid (H6.out.thenNo c7); obtain ⟨b0, b1, bf0, bf1⟩ := obj_two (c7.obj B6.out id); clear c7 q0 q1))
    go_ret
    exact ⟨rfl, H30.out.thenNo H7.out⟩
  obtain rfl : e0 = 0 := by omega
  clear h1
  rw [errV_zero] at HM
  by_cases h2 : ea ≠ 0
  · rw [errV_of _ h2] at HVa
    clear HL HVs
    go_enter Try.func7, Try.ntmps7
    go_wp2_with fail
    rw [← hw3]
    clear hw3
    refine (HU.out _).mono ?_
    rintro e w4 ⟨rfl, h4⟩
    have H4 := Lib.hid h4
    clear h4
    obtain ⟨p0, p1, _, _⟩ := obj_two (HB3.out w4 H4.out).1; obtain ⟨q0, q1, _, _⟩ := obj_two (HB3.out w4 H4.out).2
    go_wp2_with (first
      | (go_at_call 21; refine (HM.out _ (H30.out.thenNo H4.out)).mono ?_; rintro e w5 ⟨A1, cap1, rfl, h5, c5⟩; have M5 := Lib.hid (h5.no monoE_good ((Chg.refl No w5).alloc (.cells #[.int .i64 r.1, .slice A1 r.2.length cap1] 25))); have H5 := Lib.hid ((H4.out.thenNo c5).alloc (.cells #[.int .i64 r.1, .slice A1 r.2.length cap1] 25)); have B5 := Lib.hid (heap_alloc_new w5 (.cells #[.int .i64 r.1, .slice A1 r.2.length cap1] 25)); clear h5 c5 p0 p1 q0 q1; obtain ⟨p0, p1, _, _⟩ := obj_two (HB3.out _ H5.out).1; obtain ⟨q0, q1, _, _⟩ := obj_two (HB3.out _ H5.out).2)
      | (go_at_call 14; with_reducible refine (HVa.out _ (H30.out.thenNo H5.out)).mono ?_; rintro e w6 ⟨rfl, c6⟩; have M6 := Lib.hid (M5.out.no monoE_good c6); have H6 := Lib.hid (H5.out.thenNo c6); have B6 := Lib.hid (c6.obj B5.out id); clear c6 p0 p1 q0 q1; obtain ⟨q0, q1, _, _⟩ := obj_two (HB3.out _ H6.out).2)
      | (go_at_call 14; with_reducible refine (HVb.out _ (H30.out.thenNo H6.out)).mono ?_; rintro e w7 ⟨rfl, c7⟩; have M7 := Lib.hid (M6.out.no monoE_good c7); have H7 := Lib.hid (H6.out.thenNo c7); obtain ⟨b0, b1, bf0, bf1⟩ := obj_two (c7.obj B6.out id); clear c7 q0 q1))
    go_ret
    exact ⟨rfl, H30.out.thenNo H7.out⟩
  obtain rfl : ea = 0 := by omega
  clear h2
  rw [errV_zero] at HVa
  by_cases h3 : eb ≠ 0
  · rw [errV_of _ h3] at HVb
    clear HL HVs
    go_enter Try.func7, Try.ntmps7
    go_wp2_with fail
    rw [← hw3]
    clear hw3
    refine (HU.out _).mono ?_
    rintro e w4 ⟨rfl, h4⟩
    have H4 := Lib.hid h4
    clear h4
    obtain ⟨p0, p1, _, _⟩ := obj_two (HB3.out w4 H4.out).1; obtain ⟨q0, q1, _, _⟩ := obj_two (HB3.out w4 H4.out).2
    go_wp2_with (first
      | (go_at_call 21; refine (HM.out _ (H30.out.thenNo H4.out)).mono ?_; rintro e w5 ⟨A1, cap1, rfl, h5, c5⟩; have M5 := Lib.hid (h5.no monoE_good ((Chg.refl No w5).alloc (.cells #[.int .i64 r.1, .slice A1 r.2.length cap1] 25))); have H5 := Lib.hid ((H4.out.thenNo c5).alloc (.cells #[.int .i64 r.1, .slice A1 r.2.length cap1] 25)); have B5 := Lib.hid (heap_alloc_new w5 (.cells #[.int .i64 r.1, .slice A1 r.2.length cap1] 25)); clear h5 c5 p0 p1 q0 q1; obtain ⟨p0, p1, _, _⟩ := obj_two (HB3.out _ H5.out).1; obtain ⟨q0, q1, _, _⟩ := obj_two (HB3.out _ H5.out).2)
      | (go_at_call 14; with_reducible refine (HVa.out _ (H30.out.thenNo H5.out)).mono ?_; rintro e w6 ⟨rfl, c6⟩; have M6 := Lib.hid (M5.out.no monoE_good c6); have H6 := Lib.hid (H5.out.thenNo c6); have B6 := Lib.hid (c6.obj B5.out id); clear c6 p0 p1 q0 q1; obtain ⟨q0, q1, _, _⟩ := obj_two (HB3.out _ H6.out).2)
      | (go_at_call 14; with_reducible refine (HVb.out _ (H30.out.thenNo H6.out)).mono ?_; rintro e w7 ⟨rfl, c7⟩; have M7 := Lib.hid (M6.out.no monoE_good c7); have H7 := Lib.hid (H6.out.thenNo c7); obtain ⟨b0, b1, bf0, bf1⟩ := obj_two (c7.obj B6.out id); clear c7 q0 q1))
    go_ret
    exact ⟨rfl, H30.out.thenNo H7.out⟩
  obtain rfl : eb = 0 := by omega
  clear h3
  rw [errV_zero] at HVb
  obtain ⟨rfl, rfl⟩ := HL rfl rfl rfl
  rw [errV_zero] at HVs
  go_enter Try.func7, Try.ntmps7
  go_wp2_with fail
  rw [← hw3]
  clear hw3
  refine (HU.out _).mono ?_
  rintro e w4 ⟨rfl, h4⟩
  have H4 := Lib.hid h4
  clear h4
  obtain ⟨p0, p1, _, _⟩ := obj_two (HB3.out w4 H4.out).1; obtain ⟨q0, q1, _, _⟩ := obj_two (HB3.out w4 H4.out).2
  go_wp2_with (first
    | (go_at_call 21; refine (HM.out _ (H30.out.thenNo H4.out)).mono ?_; rintro e w5 ⟨A1, cap1, rfl, h5, c5⟩; have M5 := Lib.hid (h5.no monoE_good ((Chg.refl No w5).alloc (.cells #[.int .i64 r.1, .slice A1 r.2.length cap1] 25))); have H5 := Lib.hid ((H4.out.thenNo c5).alloc (.cells #[.int .i64 r.1, .slice A1 r.2.length cap1] 25)); have B5 := Lib.hid (heap_alloc_new w5 (.cells #[.int .i64 r.1, .slice A1 r.2.length cap1] 25)); clear h5 c5 p0 p1 q0 q1; obtain ⟨p0, p1, _, _⟩ := obj_two (HB3.out _ H5.out).1; obtain ⟨q0, q1, _, _⟩ := obj_two (HB3.out _ H5.out).2)
    | (go_at_call 14; with_reducible refine (HVa.out _ (H30.out.thenNo H5.out)).mono ?_; rintro e w6 ⟨rfl, c6⟩; have M6 := Lib.hid (M5.out.no monoE_good c6); have H6 := Lib.hid (H5.out.thenNo c6); have B6 := Lib.hid (c6.obj B5.out id); clear c6 p0 p1 q0 q1; obtain ⟨q0, q1, _, _⟩ := obj_two (HB3.out _ H6.out).2)
    | (go_at_call 14; with_reducible refine (HVb.out _ (H30.out.thenNo H6.out)).mono ?_; rintro e w7 ⟨rfl, c7⟩; have M7 := Lib.hid (M6.out.no monoE_good c7); have H7 := Lib.hid (H6.out.thenNo c7); obtain ⟨b0, b1, bf0, bf1⟩ := obj_two (c7.obj B6.out id); clear c7 q0 q1)
    | (go_at_call 14; with_reducible refine (HVs.out _ _ _ _ (H30.out.thenNo H7.out) M7.out).mono ?_; rintro e w8 ⟨rfl, c8⟩; have H8 := Lib.hid (H7.out.thenNo c8); clear c8))
  all_goals first
    | (go_ret; exact ⟨rfl, H30.out.thenNo H8.out⟩)
    | (have m1 := mulS (x := x) (k := va) (by omega) (by omega) (by omega) (by omega)
       have m2 := mulS (x := y) (k := vb) (by omega) (by omega) (by omega) (by omega)
       have f1 : wrap64 (x * va) = x * va := IntWalk.wrap64_in _ ⟨by omega, by omega⟩
       have f2 : wrap64 (y * vb) = y * vb := IntWalk.wrap64_in _ ⟨by omega, by omega⟩
       have f3 : wrap64 (x * va + y * vb) = x * va + y * vb := IntWalk.wrap64_in _ ⟨by omega, by omega⟩
       refine bodyPost_ret (v := .bool true) ?_ rfl ⟨rfl, H30.out.thenNo H8.out⟩
       simp [results, Try.results7, go_sem, f1, f2, f3])
end Go.Proofs.Ytdljgclaccahaaa
