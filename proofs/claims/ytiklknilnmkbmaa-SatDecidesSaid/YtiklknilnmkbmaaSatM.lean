/-
  The walk over SatSolves.
-/
import Derived.Test.YtiklknilnmkbmaaCode
import Derived.Test.YtiklknilnmkbmaaSatL
namespace Go.Proofs.Ytiklknilnmkbmaa
open Go Go.RowKit

theorem rup_zero {n : Int} {cl st : List (List Int)} {c p : Int} (h : RupIs n cl st 0 (-1)) (g : RupIs n cl st c p) : c = 0 := by
  have e8 : (if (cl ++ st).any (fun r => decide (r.length = 0)) = true then (0 : Int) else 8) = 0 ∨ (if (cl ++ st).any (fun r => decide (r.length = 0)) = true then (0 : Int) else 8) = 8 := by split <;> simp
  rcases h with ⟨h1, h2, _⟩ | ⟨_, h1, h2, _⟩ | ⟨_, _, i, _, h2, _⟩ | ⟨hk, hk2, hch, _, hc⟩
  · exact absurd h2.symm h1
  · exact absurd h2.symm h1
  · omega
  · rcases g with ⟨g1, _⟩ | ⟨_, g1, _⟩ | ⟨_, _, i, hi, _, _, g1, _⟩ | ⟨_, _, _, _, g1⟩
    · exact absurd hk g1
    · exact absurd hk2 g1
    · exact absurd (hch i hi) g1
    · rw [g1, ← hc]

set_option maxRecDepth 100000 in
set_option maxHeartbeats 4000000 in
theorem satSolves_walk {w : World} (n : Int) (_ : I64 n) {A : Option Addr} {cl : List (List Int)} {cap : Nat} (hcl : Rows2 (Old w) w A cl cap) (f : Int) (_ : I64 f) :
    Calls Try.prog 3 #[.int .i64 n, .slice A cl.length cap, .int .i64 f] w fun e w' => e = .returned (.bool true) ∧ Chg No w w' := by
  have HU := Lib.hid (up_any w)
  have HCL := Lib.hid (fun W (h : Chg No w W) => hcl.no rowE_good h)
  have HL := Lib.hid (fun W (h : Chg No w W) => light8 n _ W A cl cap (HCL.out W h))
  have HB := Lib.hid (bounded8 f)
  have HSol := Lib.hid (fun W (h : Chg No w W) => solve_any n (HCL.out W h) _ (bound_le f))
  have HR := Lib.hid (fun W (h : Chg No w W) => refCheck_any n _ W A cl cap (HCL.out W h))
  have hcv := chk_vals n cl
  have HCd := Lib.hid (fun W => code_any W (chk n cl) (by omega) (by omega))
  have HPOS := Lib.hid (fun (h : 1 ≤ (if 3000 < f then (3000 : Int) else f)) => bound_pos h)
  clear hcl hcv
  have HS : Hid (∀ W, Chg No w W → Calls Try.prog 8 #[.int .i64 n, .slice A cl.length cap, .int .i64 (if 3000 < f then 3000 else f)] W fun e w' => ∃ kind AS ns cs AV nv cv v, e = .returned (.tuple #[.agg #[.int .i64 kind, .slice AS ns cs, .slice AV nv cv], v]) ∧
      Hid (∃ st vs c, SolveIs n cl (if 3000 < f then 3000 else f) kind st vs c ∧ ns = st.length ∧ nv = vs.length ∧ v = errV 49 c ∧ Rows2 (fun _ => True) w' AS st cs ∧ Bools (fun _ => True) w' AV vs cv) ∧ Hid (Chg No w w')) := fun W h =>
    (HSol.out W h).mono (by
      rintro e w' ⟨kind, st, vs, c, AS, cs, AV, cv, hs, rfl, h1, h2, hch⟩
      exact ⟨kind, AS, _, cs, AV, _, cv, _, rfl, ⟨st, vs, c, hs, rfl, rfl, rfl, h1, h2⟩, h.thenNo hch⟩)
  clear HSol
  generalize (if 3000 < f then 3000 else f) = g at *
  go_enter Try.func3, Try.ntmps3
  go_upto_region 3 with (first
    | (go_at_call 6; refine HU.out.mono ?_; rintro e w1 ⟨rfl, h1⟩)
    | (go_at_call 7; refine (HL.out w1 h1).mono ?_; rintro e w2 ⟨b, rfl, hb8, rfl⟩; clear hb8))
  clear HU HL
  have H1 := Lib.hid h1
  clear h1
  cases b
  · go_wp2
    go_ret
    exact ⟨rfl, H1.out⟩
  go_upto_region 6 with (first
    | (go_at_call 9; refine (HB.out w1).mono ?_; rintro e w2 ⟨rfl, rfl⟩)
    | (go_at_call 8; refine (HS.out w1 H1.out).mono ?_; rintro e w2 ⟨kind, AS, ns, cs, AV, nv, cv, v, rfl, HK, HC2⟩))
  clear HB HS
  obtain ⟨w3, hw3⟩ : ∃ w3, w3 = w2.alloc (.cells #[.int .i64 kind, .slice AS ns cs, .slice AV nv cv] 27) := ⟨_, rfl⟩
  obtain ⟨q, hq⟩ : ∃ q, q = w2.heap.size := ⟨_, rfl⟩
  have HC3 : Hid (Chg No w w3) := by rw [hw3]; exact HC2.out.alloc _
  have h23 : Chg No w2 w3 := by rw [hw3]; exact (Chg.refl _ _).alloc _
  have ho : w3.heap[q]? = some (.cells #[.int .i64 kind, .slice AS ns cs, .slice AV nv cv] 27 (0, 0)) := by rw [hw3, hq]; exact heap_alloc_new _ _
  have HO := Lib.hid ho
  rw [← hw3, ← hq]
  obtain ⟨st, vs, c, hs, rfl, rfl, rfl, hst, hvs⟩ := HK.out
  have HST := Lib.hid (hst.no rowE_good h23)
  have HVS := Lib.hid (hvs.no boolE_good h23)
  clear hw3 hq ho HC2 HK hst hvs h23
  by_cases hk : chk n cl = 0
  rotate_left
  · rcases hs with ⟨_, rfl, rfl, rfl, rfl⟩ | ⟨h, _⟩ | ⟨h, _⟩ | ⟨h, _⟩
    · rw [errV_of _ hk] at *
      obtain ⟨⟨r0, r1, r2⟩, rf⟩ := obj_three HO.out
      clear HST HVS HO
      generalize chk n cl = ck at *
      have hck : (ck != 0) = true := by simpa using hk
      clear hk
      go_wp2_with (first
        | (go_at_call 10; refine (HR.out w3 HC3.out).mono ?_; rintro e w5 ⟨rfl, rfl⟩)
        | (go_at_call 11; refine (HCd.out w3).mono ?_; rintro e w5 ⟨rfl, rfl⟩))
      go_ret
      exact ⟨rfl, HC3.out⟩
    all_goals exact absurd h hk
  rw [hk] at HR
  clear HCd
  obtain ⟨⟨r0, r1, r2⟩, rf⟩ := obj_three HO.out
  rcases hs with ⟨h, _⟩ | ⟨_, rfl, rfl, rfl, rfl, _⟩ | ⟨_, rfl, h1, rfl, rfl, ha, hl⟩ | ⟨_, rfl, h1, rfl, rfl, hr, hl⟩
  · exact absurd hk h
  · rw [errV_zero] at *
    clear hk HST HVS HO HPOS
    go_wp2_with (go_at_call 10; refine (HR.out w3 HC3.out).mono ?_; rintro e w5 ⟨rfl, rfl⟩)
    go_ret
    exact ⟨rfl, HC3.out⟩
  · rw [errV_zero] at *
    have hp := HPOS.out h1
    have HVA : Hid (Calls Try.prog 13 #[.slice A cl.length cap, .slice AV vs.length cv] w3 fun e w' => e = .returned (.bool true) ∧ w3 = w') := by
      have := refValue_any (HCL.out w3 HC3.out) HVS.out
      rw [ha] at this
      exact this
    clear hk HST HVS HO HPOS h1 ha
    obtain rfl : n = (vs.length : Int) := hl.symm
    clear hl
    generalize vs.length = m at *
    go_wp2_with (first
      | (go_at_call 10; refine (HR.out w3 HC3.out).mono ?_; rintro e w5 ⟨rfl, rfl⟩)
      | (go_at_call 13; refine HVA.out.mono ?_; rintro e w5 ⟨rfl, rfl⟩))
    go_ret
    exact ⟨rfl, HC3.out⟩
  · rw [errV_zero] at *
    have hp := HPOS.out h1
    have HRU : Hid (Calls Try.prog 12 #[.int .i64 n, .slice A cl.length cap, .slice AS st.length cs] w3 fun e w' => ∃ p, e = .returned (.tuple #[.int .i64 0, .int .i64 p]) ∧ w'.cell? ⟨q, 2, none⟩ = some (.slice AV 0 cv) ∧ Hid (Chg No w w')) :=
      (refRup_any n (HCL.out w3 HC3.out) HST.out (by omega)).mono (by
        rintro e w' ⟨c, p, hi, rfl, hch⟩
        rw [rup_zero hr hi]
        exact ⟨p, rfl, hch.cell r2 id, HC3.out.thenNo hch⟩)
    clear hk HST HVS HO HPOS h1 hr hl r2
    go_wp2_with (first
      | (go_at_call 10; refine (HR.out w3 HC3.out).mono ?_; rintro e w5 ⟨rfl, rfl⟩)
      | (go_at_call 12; refine HRU.out.mono ?_; rintro e w5 ⟨p, rfl, r2, HC5⟩))
    go_ret
    exact ⟨rfl, HC5.out⟩
end Go.Proofs.Ytiklknilnmkbmaa
