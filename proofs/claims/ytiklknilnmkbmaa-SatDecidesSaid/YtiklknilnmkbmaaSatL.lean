/-
  The walk over SatNever.
-/
import Derived.Test.YtiklknilnmkbmaaSatK
namespace Go.Proofs.Ytiklknilnmkbmaa
open Go Go.RowKit

theorem bound_le (f : Int) : (if 3000 < f then 3000 else f) ≤ 20000 := by split <;> omega
theorem bound_pos {f : Int} (h : 1 ≤ (if 3000 < f then (3000 : Int) else f)) : 0 < f := by split at h <;> omega

set_option maxRecDepth 100000 in
set_option maxHeartbeats 4000000 in
theorem satNever_walk {w : World} (n : Int) (_ : I64 n) {A : Option Addr} {cl : List (List Int)} {cap : Nat} (hcl : Rows2 (Old w) w A cl cap) {A' : Option Addr} {values : List Bool} {cap' : Nat} (hv : Bools (Old w) w A' values cap') (f : Int) (_ : I64 f) :
    Calls Try.prog 5 #[.int .i64 n, .slice A cl.length cap, .slice A' values.length cap', .int .i64 f] w fun e w' => e = .returned (.bool true) ∧ Chg No w w' := by
  have HU := Lib.hid (up_any w)
  have HCL := Lib.hid (fun W (h : Chg No w W) => hcl.no rowE_good h)
  have HV := Lib.hid (fun W (h : Chg No w W) => hv.no boolE_good h)
  have hvb := hv.big
  unfold big at hvb
  have HL := Lib.hid (fun W (h : Chg No w W) => light8 n _ W A cl cap (HCL.out W h))
  have HVr := Lib.hid (fun W (h : Chg No w W) => refValue_any (HCL.out W h) (HV.out W h))
  have HB := Lib.hid (bounded8 f)
  have HSol := Lib.hid (fun W (h : Chg No w W) => solve_any n (HCL.out W h) _ (bound_le f))
  clear hcl hv
  cases ha : allB cl values
  · rw [ha] at HVr
    clear HB HSol
    go_enter Try.func5, Try.ntmps5
    go_wp2_with (first
      | (go_at_call 6; refine HU.out.mono ?_; rintro e w1 ⟨rfl, h1⟩)
      | (go_at_call 7; refine (HL.out w1 h1).mono ?_; rintro e w2 ⟨b, rfl, hb8, rfl⟩; have HB8 := Lib.hid hb8; clear hb8)
      | (go_at_call 13; refine (HVr.out w1 h1).mono ?_; rintro e w2 ⟨rfl, rfl⟩))
    all_goals
      go_ret
      exact ⟨rfl, h1⟩
  by_cases hn : (values.length : Int) < n
  · rw [ha] at HVr
    clear HB HSol
    go_enter Try.func5, Try.ntmps5
    go_wp2_with (first
      | (go_at_call 6; refine HU.out.mono ?_; rintro e w1 ⟨rfl, h1⟩)
      | (go_at_call 7; refine (HL.out w1 h1).mono ?_; rintro e w2 ⟨b, rfl, hb8, rfl⟩; have HB8 := Lib.hid hb8; clear hb8)
      | (go_at_call 13; refine (HVr.out w1 h1).mono ?_; rintro e w2 ⟨rfl, rfl⟩))
    all_goals
      go_ret
      exact ⟨rfl, h1⟩
  have HS : Hid (∀ W, Chg No w W → Calls Try.prog 8 #[.int .i64 n, .slice A cl.length cap, .int .i64 (if 3000 < f then 3000 else f)] W fun e w' => ∃ kind A1 n1 c1 A2 n2 c2 v, e = .returned (.tuple #[.agg #[.int .i64 kind, .slice A1 n1 c1, .slice A2 n2 c2], v]) ∧ Hid ((∃ c, v = .iface 49 (.int .i64 c)) ∨ (v = .nilIface ∧ (kind = 0 ∨ kind = 1))) ∧ Hid (Chg No w w')) := fun W h =>
    (HSol.out W h).mono (by
      rintro e w' ⟨kind, st, vs, c, AS, cs, AV, cv, hs, rfl, _, _, hch⟩
      refine ⟨_, _, _, _, _, _, _, _, rfl, ?_, h.thenNo hch⟩
      rcases hs with ⟨h, rfl, _⟩ | ⟨_, rfl, rfl, _⟩ | ⟨_, rfl, _, rfl, _⟩ | ⟨_, _, _, _, _, h, _⟩
      · exact .inl ⟨_, errV_of _ h⟩
      · exact .inr ⟨errV_zero _, .inl rfl⟩
      · exact .inr ⟨errV_zero _, .inr rfl⟩
      · exact absurd h (never ha (by omega)))
  rw [ha] at HVr
  clear HSol ha
  generalize (if 3000 < f then 3000 else f) = g at *
  go_enter Try.func5, Try.ntmps5
  go_upto_region 4 with (first
    | (go_at_call 6; refine HU.out.mono ?_; rintro e w1 ⟨rfl, h1⟩)
    | (go_at_call 7; refine (HL.out w1 h1).mono ?_; rintro e w2 ⟨b, rfl, hb8, rfl⟩; clear hb8)
    | (go_at_call 13; refine (HVr.out w1 h1).mono ?_; rintro e w2 ⟨rfl, rfl⟩))
  clear HU HL HVr
  have H1 := Lib.hid h1
  clear h1
  cases b
  · go_wp2
    go_ret
    exact ⟨rfl, H1.out⟩
  go_upto_region 7 with (first
    | (go_at_call 9; refine (HB.out w1).mono ?_; rintro e w2 ⟨rfl, rfl⟩)
    | (go_at_call 8; refine (HS.out w1 H1.out).mono ?_; rintro e w2 ⟨kind, A1, n1, c1, A2, n2, c2, v, rfl, HK, HC2⟩))
  clear HB HS
  obtain ⟨w3, hw3⟩ : ∃ w3, w3 = w2.alloc (.cells #[.int .i64 kind, .slice A1 n1 c1, .slice A2 n2 c2] 27) := ⟨_, rfl⟩
  obtain ⟨q, hq⟩ : ∃ q, q = w2.heap.size := ⟨_, rfl⟩
  have HC3 : Hid (Chg No w w3) := by rw [hw3]; exact HC2.out.alloc _
  have ho : w3.heap[q]? = some (.cells #[.int .i64 kind, .slice A1 n1 c1, .slice A2 n2 c2] 27 (0, 0)) := by rw [hw3, hq]; exact heap_alloc_new _ _
  obtain ⟨⟨r0, r1, r2⟩, rf⟩ := obj_three ho
  rw [← hw3, ← hq]
  clear hw3 hq ho HC2
  rcases HK.out with ⟨c, rfl⟩ | ⟨rfl, rfl | rfl⟩
  all_goals
    clear HK
    go_wp2
    go_ret
    exact ⟨rfl, HC3.out⟩
end Go.Proofs.Ytiklknilnmkbmaa
