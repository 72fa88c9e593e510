/-
  The walk over LinMakes: it returns true and changes nothing.
-/
import Derived.Test.YtdljgclaccahaaaLinC
namespace Go.Proofs.Ytdljgclaccahaaa
open Go Go.RowKit

/-- The same form twice. -/
theorem ref01Same_self {R R' : Nat → Prop} {w : World} {A A' : Option Addr} {r : Lin} {cap cap' : Nat} (hx : Monos R w A r.2 cap) (hy : Monos R' w A' r.2 cap') :
    Calls Try.prog 12 #[.agg #[.int .i64 r.1, .slice A r.2.length cap], .agg #[.int .i64 r.1, .slice A' r.2.length cap']] w fun e w' => e = .returned (.bool true) ∧ Chg No w w' := by
  have := ref01Same_any (c := r.1) (c' := r.1) hx hy
  simpa using this

set_option maxRecDepth 100000 in
set_option maxHeartbeats 2000000 in
theorem linMakes_walk {w : World} (c : Int) (_ : I64 c) {A : Option Addr} {t : List Mono} {cap : Nat} (ht : Monos (Old w) w A t cap) :
    Calls Try.prog 3 #[.int .i64 c, .slice A t.length cap] w fun e w' => e = .returned (.bool true) ∧ Chg No w w' := by
  have HU := Lib.hid (fun W => up_any W)
  have HM := Lib.hid (fun W (h : Chg No w W) => linMake_any c (ht.no monoE_good h))
  have HR := Lib.hid (fun W (h : Chg No w W) => ref01Make_any c (ht.no monoE_good h))
  have HCd := Lib.hid (fun W => code_any W (makeErr c t) (makeErr_range c t).1 (makeErr_range c t).2)
  clear ht
  generalize makeLin c t = r at *
  generalize makeErr c t = e0 at *
  go_enter Try.func3, Try.ntmps3
  go_wp2_with (first
    | (go_at_call 9; refine (HU.out _).mono ?_; rintro e w1 ⟨rfl, h1⟩; have H1 := Lib.hid h1; clear h1)
    | (go_at_call 10; refine (HM.out _ H1.out).mono ?_; rintro e w2 ⟨A1, cap1, rfl, h2, c2⟩; have M2 := Lib.hid h2; have H2 := Lib.hid ((H1.out.thenNo c2).alloc (.cells #[.int .i64 r.1, .slice A1 r.2.length cap1] 25)); clear h2 c2)
    | (go_at_call 11; refine (HR.out _ H2.out).mono ?_; rintro e w3 ⟨A2, cap2, rfl, h3, c3⟩; have M3 := Lib.hid h3; have H3 := Lib.hid ((H2.out.thenNo c3).alloc (.cells #[.int .i64 r.1, .slice A2 r.2.length cap2] 25)); obtain ⟨b0, b1, bf0, bf1⟩ := obj_two (at_old (o := .cells #[.int .i64 r.1, .slice A2 r.2.length cap2] 25) (c3.obj (heap_alloc_new w2 _) id)); have M2' := Lib.hid (M2.out.no monoE_good (((Chg.refl No w2).alloc (.cells #[.int .i64 r.1, .slice A1 r.2.length cap1] 25)).thenNo c3)); clear h3 c3)
    | (go_at_call 12; refine (ref01Same_self (M2'.out.no monoE_good ((Chg.refl _ _).alloc _)) (M3.out.no monoE_good ((Chg.refl _ _).alloc _))).mono ?_; rintro e w4 ⟨rfl, h4⟩; have H4 := Lib.hid (H3.out.thenNo h4); clear h4)
    | (go_at_call 13; refine (HCd.out _).mono ?_; rintro e w5 ⟨rfl, rfl⟩))
  go_ret
  exact ⟨rfl, H4.out⟩
end Go.Proofs.Ytdljgclaccahaaa
