/-
  The walks over RupChecks and RupRight.
-/
import Derived.Test.YtbbcodpoiikkdaaDoorRupB
namespace Go.Proofs.YtbbcodpoiikkdaaDoor
open Go Go.RowKit

theorem ref_is {R R' : Nat → Prop} {w : World} (n : Int) {A B : Option Addr} {cl st : List (List Int)} {ca cb : Nat} (hcl : Rows2 R w A cl ca) (hst : Rows2 R' w B st cb) (hlen : st.length ≤ 1000000) {c p : Int} (h : RupIs n cl st c p) :
    Calls Tryd.prog 10 #[.int .i64 n, .slice A cl.length ca, .slice B st.length cb] w fun e w' => e = .returned (.tuple #[.int .i64 c, .int .i64 p]) ∧ Chg No w w' :=
  (refRup_any n hcl hst hlen).mono (by
    rintro e w' ⟨c', p', hi, rfl, hch⟩
    obtain ⟨rfl, rfl⟩ := rupIs_unique h hi
    exact ⟨rfl, hch⟩)
theorem rup_place {n : Int} {cl st : List (List Int)} {c p : Int} (h : RupIs n cl st c p) : p = -1 ∨ ∃ i : Nat, p = i := by
  rcases h with ⟨_, _, h⟩ | ⟨_, _, _, h⟩ | ⟨_, _, i, _, _, h, _⟩ | ⟨_, _, _, h, _⟩
  · exact .inl h
  · exact .inl h
  · exact .inr ⟨i, h⟩
  · exact .inl h

set_option maxRecDepth 100000 in
set_option maxHeartbeats 4000000 in
theorem rupChecks_walk {w : World} (hg : Handle w) (n : Int) (_ : I64 n) {A : Option Addr} {cl : List (List Int)} {cap : Nat} (hcl : Rows2 (Old w) w A cl cap) {B : Option Addr} {st : List (List Int)} {cb : Nat} (hst : Rows2 (Old w) w B st cb) :
    Calls Tryd.prog 3 #[.int .i64 n, .slice A cl.length cap, .slice B st.length cb] w fun e w' => e = .returned (.bool true) ∧ Chg No w w' := by
  have HG := Lib.hid hg
  have HU := Lib.hid (up_any w hg)
  have HCL := Lib.hid (fun W (h : Chg No w W) => hcl.no rowE_good h)
  have HST := Lib.hid (fun W (h : Chg No w W) => hst.no rowE_good h)
  have HL := Lib.hid (fun W (h : Chg No w W) => light7 n W (HCL.out W h) (HST.out W h))
  clear hg hcl hst
  go_enter Tryd.func3, Tryd.ntmps3
  go_upto_region 3 with (first
    | (go_at_call 7; refine HU.out.mono ?_; rintro e w1 ⟨rfl, h1⟩)
    | (go_at_call 8; refine (HL.out w1 h1).mono ?_; rintro e w2 ⟨b, rfl, hb8, rfl⟩; have HB8 := Lib.hid hb8; clear hb8))
  clear HU HL
  have H1 := Lib.hid h1
  clear h1
  cases b
  · go_wp2
    go_ret
    exact ⟨rfl, H1.out⟩
  have HS100 : Hid (st.length ≤ 1000000) := by have := (HB8.out rfl).2; show _ ≤ _; omega
  obtain ⟨c, p, hi⟩ := rupIs_ex n cl st
  have HI := Lib.hid hi
  have hp := rup_place hi
  clear hi HB8
  have HREF : Hid (∀ W, Chg No w W → Calls Tryd.prog 10 #[.int .i64 n, .slice A cl.length cap, .slice B st.length cb] W fun e w' => e = .returned (.tuple #[.int .i64 c, .int .i64 p]) ∧ Hid (Chg No W w')) :=
    fun W h => ref_is n (HCL.out W h) (HST.out W h) HS100.out HI.out
  rcases hp with rfl | ⟨i, rfl⟩
  · have HRUP : Hid (∀ W, Chg No w W → Calls Tryd.prog 9 #[.int .i64 n, .slice A cl.length cap, .slice B st.length cb] W fun e w' => e = .returned (errV 36 c) ∧ 0 ≤ c ∧ c ≤ 16 ∧ Hid (Chg No w w')) :=
      fun W h => (rup_code n (HCL.out W h) (HST.out W h) HS100.out HI.out).mono (fun e w' ⟨a, b, d, f⟩ => ⟨a, b, d, h.thenNo f⟩)
    have HT : Hid (∀ W, 0 ≤ c → c ≤ 16 → Calls Tryd.prog 11 #[errV 36 c, .int .i64 c, .int .i64 (-1)] W fun e w' => e = .returned (.bool true) ∧ Hid (Chg No W w')) := fun W a b => told_code c W a b
    clear HI HS100
    generalize errV 36 c = v at *
    go_wp2_with (first
      | (go_at_call 9; refine (HRUP.out w1 H1.out).mono ?_; rintro e w2 ⟨rfl, hc0, hc16, HC2⟩)
      | (go_at_call 10; refine (HREF.out w2 HC2.out).mono ?_; rintro e w3 ⟨rfl, HC3⟩)
      | (go_at_call 11; refine (HT.out w3 hc0 hc16).mono ?_; rintro e w4 ⟨rfl, HC4⟩))
    go_ret
    exact ⟨rfl, (HC2.out.thenNo HC3.out).thenNo HC4.out⟩
  · have HRUP : Hid (∀ W, Chg No w W → Calls Tryd.prog 9 #[.int .i64 n, .slice A cl.length cap, .slice B st.length cb] W fun e w' => ∃ q, e = .returned (.iface 42 (.pointer (some ⟨q, 0, none⟩))) ∧ Hid (c = 9 ∧ w'.heap[q]? = some (.cells #[.int .i64 i, .iface 36 (.int .i64 9)] 44 (0, 0))) ∧ Hid (Chg No w w')) :=
      fun W h => (rup_spot n (HCL.out W h) (HST.out W h) HS100.out HI.out (by omega)).mono (fun e w' ⟨q, a, _, b, d, f⟩ => ⟨q, a, ⟨b, d⟩, h.thenNo f⟩)
    clear HI HS100
    go_upto_region 7 with (first
      | (go_at_call 9; refine (HRUP.out w1 H1.out).mono ?_; rintro e w2 ⟨q, rfl, HQ, HC2⟩)
      | (go_at_call 10; refine (HREF.out w2 HC2.out).mono ?_; rintro e w3 ⟨rfl, HC3⟩))
    clear HRUP HREF
    obtain ⟨rfl, hb⟩ := HQ.out
    have hb3 := HC3.out.obj hb id
    have HT : Hid (Calls Tryd.prog 11 #[.iface 42 (.pointer (some ⟨q, 0, none⟩)), .int .i64 9, .int .i64 i] w3 fun e w' => e = .returned (.bool true) ∧ Hid (Chg No w3 w')) :=
      told_spot q 0 i 9 w3 ((HG.out.no HC2.out).no HC3.out) (by simp [World.cell?, hb3]) (by simp [World.cell?, hb3])
    clear hb hb3 HQ
    go_wp2_with (go_at_call 11; refine HT.out.mono ?_; rintro e w4 ⟨rfl, HC4⟩)
    go_ret
    exact ⟨rfl, (HC2.out.thenNo HC3.out).thenNo HC4.out⟩

set_option maxRecDepth 100000 in
set_option maxHeartbeats 4000000 in
theorem rupRight_walk {w : World} (hg : Handle w) (n : Int) (_ : I64 n) {A : Option Addr} {cl : List (List Int)} {cap : Nat} (hcl : Rows2 (Old w) w A cl cap) {B : Option Addr} {st : List (List Int)} {cb : Nat} (hst : Rows2 (Old w) w B st cb) {D : Option Addr} {values : List Bool} {cd : Nat} (hv : Bools (Old w) w D values cd) :
    Calls Tryd.prog 6 #[.int .i64 n, .slice A cl.length cap, .slice B st.length cb, .slice D values.length cd] w fun e w' => e = .returned (.bool true) ∧ Chg No w w' := by
  have HU := Lib.hid (up_any w hg)
  have HCL := Lib.hid (fun W (h : Chg No w W) => hcl.no rowE_good h)
  have HST := Lib.hid (fun W (h : Chg No w W) => hst.no rowE_good h)
  have HV := Lib.hid (fun W (h : Chg No w W) => hv.no boolE_good h)
  have hvb := hv.big
  unfold big at hvb
  have HL := Lib.hid (fun W (h : Chg No w W) => light7 n W (HCL.out W h) (HST.out W h))
  clear hg hcl hst hv
  go_enter Tryd.func6, Tryd.ntmps6
  go_upto_region 3 with (first
    | (go_at_call 7; refine HU.out.mono ?_; rintro e w1 ⟨rfl, h1⟩)
    | (go_at_call 8; refine (HL.out w1 h1).mono ?_; rintro e w2 ⟨b, rfl, hb8, rfl⟩; have HB8 := Lib.hid hb8; clear hb8))
  clear HU HL
  have H1 := Lib.hid h1
  clear h1
  cases b
  · go_wp2
    go_ret
    exact ⟨rfl, H1.out⟩
  by_cases hlt : (values.length : Int) < n
  · go_wp2
    go_ret
    exact ⟨rfl, H1.out⟩
  have HN : Hid (n ≤ (values.length : Int)) := by show _ ≤ _; omega
  have HS100 : Hid (st.length ≤ 1000000) := by have := (HB8.out rfl).2; show _ ≤ _; omega
  have HRUP : Hid (∀ W, Chg No w W → Calls Tryd.prog 9 #[.int .i64 n, .slice A cl.length cap, .slice B st.length cb] W fun e w' => ∃ v, e = .returned v ∧ Hid ((∃ t x, v = .iface t x) ∨ (v = .nilIface ∧ allB cl values = false)) ∧ Hid (Chg No w w')) := fun W h =>
    (rupCheck_any n (HCL.out W h) (HST.out W h) HS100.out).mono (by
      rintro e w' ⟨hch, c, p, hi, ⟨rfl, _, _, rfl⟩ | ⟨_, _, q, _, rfl, _⟩⟩
      · by_cases hc : c = 0
        · subst hc
          refine ⟨_, rfl, .inr ⟨errV_zero _, ?_⟩, h.thenNo hch⟩
          cases ha : allB cl values
          · rfl
          · exact absurd hi (never ha HN.out)
        · exact ⟨_, rfl, .inl ⟨_, _, errV_of _ hc⟩, h.thenNo hch⟩
      · exact ⟨_, rfl, .inl ⟨_, _, rfl⟩, h.thenNo hch⟩)
  have HVA := Lib.hid (fun W (h : Chg No w W) => value_any (HCL.out W h) (HV.out W h))
  clear HB8 HN HS100
  go_upto_region 6 with (go_at_call 9; refine (HRUP.out w1 H1.out).mono ?_; rintro e w2 ⟨v, rfl, HK, HC2⟩)
  clear HRUP
  rcases HK.out with ⟨t, x, rfl⟩ | ⟨rfl, ha⟩
  · clear HK
    go_wp2
    go_ret
    exact ⟨rfl, HC2.out⟩
  · rw [ha] at HVA
    clear HK ha
    go_wp2_with (go_at_call 13; refine (HVA.out w2 HC2.out).mono ?_; rintro e w3 ⟨rfl, h3⟩)
    go_ret
    exact ⟨rfl, HC2.out.thenNo h3⟩
end Go.Proofs.YtbbcodpoiikkdaaDoor
