/-
  The walk over PropChecks.
-/
import Derived.Test.YtcapcghaihmfeaaPropLaws
namespace Go.Proofs.Ytcapcghaihmfeaa
open Go Go.RowKit

set_option maxHeartbeats 1000000 in
theorem propChecks_walk {w : World} (n : Int) (_ : I64 n) {A : Option Addr} {cl : List (List Int)} {cap : Nat} (hcl : Rows2 (Old w) w A cl cap) {A' : Option Addr} {values : List Bool} {cap' : Nat} (hv : Bools (Old w) w A' values cap') :
    Calls Try.prog 7 #[.int .i64 n, .slice A cl.length cap, .slice A' values.length cap'] w fun e w' => e = .returned (.bool true) ∧ Chg No w w' := by
  have HU := Lib.hid (up_any w)
  have HCL := Lib.hid (fun W (h : Chg No w W) => hcl.no rowE_good h)
  have HV := Lib.hid (fun W (h : Chg No w W) => hv.no boolE_good h)
  have hcv := chk_vals n cl
  have HC := Lib.hid (fun W (h : Chg No w W) => check_any n _ W A cl cap (HCL.out W h))
  have HR := Lib.hid (fun W (h : Chg No w W) => refCheck_any n _ W A cl cap (HCL.out W h))
  have HCd := Lib.hid (fun W => code_any W (chk n cl) (by omega) (by omega))
  have HVa := Lib.hid (fun W (h : Chg No w W) => value_any (HCL.out W h) (HV.out W h))
  have HVr := Lib.hid (fun W (h : Chg No w W) => refValue_any (HCL.out W h) (HV.out W h))
  clear hcl hv hcv
  generalize chk n cl = c at *
  generalize allB cl values = v at *
  go_enter Try.func7, Try.ntmps7
  go_wp2_with (first
    | (go_at_call 9; refine HU.out.mono ?_; rintro e w1 ⟨rfl, h1⟩)
    | (go_at_call 11; refine (light_any n _ w1 A cl cap (HCL.out w1 h1)).mono ?_; rintro e w2 ⟨b, rfl, rfl⟩)
    | (go_at_call 10; refine (HC.out w1 h1).mono ?_; rintro e w3 ⟨rfl, h3⟩; have h4 := h1.thenNo h3)
    | (go_at_call 15; refine (HCd.out w3).mono ?_; rintro e w5 ⟨rfl, rfl⟩)
    | (go_at_call 13; refine (HR.out w3 h4).mono ?_; rintro e w5 ⟨rfl, rfl⟩)
    | (go_at_call 17; refine (HVa.out w3 h4).mono ?_; rintro e w6 ⟨rfl, h6⟩; have h7 := h4.thenNo h6)
    | (go_at_call 18; refine (HVr.out w6 h7).mono ?_; rintro e w5 ⟨rfl, rfl⟩))
  · go_ret
    exact ⟨rfl, h1⟩
  · go_ret
    exact ⟨rfl, h7⟩
end Go.Proofs.Ytcapcghaihmfeaa
