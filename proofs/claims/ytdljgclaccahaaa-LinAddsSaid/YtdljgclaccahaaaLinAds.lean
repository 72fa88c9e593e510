/-
  The walk over LinAdds: it returns true and changes nothing.
-/
import Derived.Test.YtdljgclaccahaaaLinMks
import Derived.Test.YtdljgclaccahaaaLinD
import Derived.Test.YtdljgclaccahaaaLinF
namespace Go.Proofs.Ytdljgclaccahaaa
open Go Go.RowKit

set_option maxRecDepth 100000 in
set_option maxHeartbeats 2000000 in
theorem linAdds_walk {w : World} (ca : Int) {A : Option Addr} {ta : List Mono} {cap : Nat} (ht : Monos (Old w) w A ta cap) (cb : Int) {A' : Option Addr} {tb : List Mono} {cap' : Nat} (ht' : Monos (Old w) w A' tb cap') (x : Int) (_ : I64 x) (y : Int) (_ : I64 y) :
    Calls Try.prog 6 #[.agg #[.int .i64 ca, .slice A ta.length cap], .agg #[.int .i64 cb, .slice A' tb.length cap'], .int .i64 x, .int .i64 y] w fun e w' => e = .returned (.bool true) ∧ Chg No w w' := by
  have HU := Lib.hid (fun W => up_any W)
  have HM := Lib.hid (fun W (h : Chg No w W) => linAdd_any (ca, ta) (cb, tb) (ht.no monoE_good h) (ht'.no monoE_good h) x y)
  have HR := Lib.hid (fun W (h : Chg No w W) => ref01Add_any (ca, ta) (cb, tb) (ht.no monoE_good h) (ht'.no monoE_good h) x y)
  have HCd := Lib.hid (fun W => code_any W (addErr (ca, ta) (cb, tb) x y) (addErr_range _ _ x y).1 (addErr_range _ _ x y).2)
  simp only at HM HR
  clear ht ht'
  generalize addLin (ca, ta) (cb, tb) x y = r at *
  generalize addErr (ca, ta) (cb, tb) x y = e0 at *
  obtain ⟨w3, hw3⟩ : ∃ w3, w3 = (w.alloc (.cells #[.int .i64 ca, .slice A ta.length cap] 25)).alloc (.cells #[.int .i64 cb, .slice A' tb.length cap'] 25) := ⟨_, rfl⟩
  have h3 : Hid (Chg No w w3 ∧ w3.heap[w.heap.size]? = some (.cells #[.int .i64 ca, .slice A ta.length cap] 25 (0, 0)) ∧ w3.heap[w.heap.size + 1]? = some (.cells #[.int .i64 cb, .slice A' tb.length cap'] 25 (0, 0))) := by
    rw [hw3]
    exact ⟨((Chg.refl _ _).alloc _).alloc _, at_old (heap_alloc_new _ _), at_new (by simp)⟩
  have HB3 : Hid (∀ W, Chg No w3 W → W.heap[w.heap.size]? = some (.cells #[.int .i64 ca, .slice A ta.length cap] 25 (0, 0)) ∧ W.heap[w.heap.size + 1]? = some (.cells #[.int .i64 cb, .slice A' tb.length cap'] 25 (0, 0))) := fun W h =>
    ⟨h.obj h3.out.2.1 id, h.obj h3.out.2.2 id⟩
  have H30 := Lib.hid h3.out.1
  clear h3
  go_enter Try.func6, Try.ntmps6
  go_wp2_with fail
  rw [← hw3]
  clear hw3
  refine (HU.out _).mono ?_
  rintro e w4 ⟨rfl, h4⟩
  have H4 := Lib.hid h4
  clear h4
  obtain ⟨p0, p1, _, _⟩ := obj_two (HB3.out w4 H4.out).1; obtain ⟨q0, q1, _, _⟩ := obj_two (HB3.out w4 H4.out).2
  go_wp2_with (first
    | (go_at_call 21; refine (HM.out _ (H30.out.thenNo H4.out)).mono ?_; rintro e w5 ⟨A1, cap1, rfl, h5, c5⟩; have M2 := Lib.hid h5; have H5 := Lib.hid ((H4.out.thenNo c5).alloc (.cells #[.int .i64 r.1, .slice A1 r.2.length cap1] 25)); clear h5 c5 p0 p1 q0 q1; obtain ⟨p0, p1, _, _⟩ := obj_two (HB3.out _ H5.out).1; obtain ⟨q0, q1, _, _⟩ := obj_two (HB3.out _ H5.out).2)
    | (go_at_call 22; refine (HR.out _ (H30.out.thenNo H5.out)).mono ?_; rintro e w6 ⟨A2, cap2, rfl, h6, c6⟩; have M3 := Lib.hid h6; have H6 := Lib.hid ((H5.out.thenNo c6).alloc (.cells #[.int .i64 r.1, .slice A2 r.2.length cap2] 25)); obtain ⟨b0, b1, bf0, bf1⟩ := obj_two (at_old (o := .cells #[.int .i64 r.1, .slice A2 r.2.length cap2] 25) (c6.obj (heap_alloc_new w5 _) id)); have M2' := Lib.hid (M2.out.no monoE_good (((Chg.refl No w5).alloc (.cells #[.int .i64 r.1, .slice A1 r.2.length cap1] 25)).thenNo c6)); clear h6 c6)
    | (go_at_call 12; refine (ref01Same_self (M2'.out.no monoE_good ((Chg.refl _ _).alloc _)) (M3.out.no monoE_good ((Chg.refl _ _).alloc _))).mono ?_; rintro e w7 ⟨rfl, h7⟩; have H7 := Lib.hid (H6.out.thenNo h7); clear h7)
    | (go_at_call 13; refine (HCd.out _).mono ?_; rintro e w8 ⟨rfl, rfl⟩))
  go_ret
  exact ⟨rfl, H30.out.thenNo H7.out⟩
end Go.Proofs.Ytdljgclaccahaaa
