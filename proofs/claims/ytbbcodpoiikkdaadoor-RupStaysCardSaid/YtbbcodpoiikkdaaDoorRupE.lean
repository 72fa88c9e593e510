/-
  The walk over RupStays.
-/
import Derived.Test.YtbbcodpoiikkdaaDoorRupC
import Derived.Test.YtbbcodpoiikkdaaDoorLater
namespace Go.Proofs.YtbbcodpoiikkdaaDoor
open Go Go.RowKit

theorem take_next {α : Type} (l : List α) (k : Nat) (h : k < l.length) : l.take (k + 1) = l.take k ++ [l[k]] := List.take_succ_eq_append_getElem h

set_option maxRecDepth 100000 in
set_option maxHeartbeats 4000000 in
theorem rupStays_walk {w : World} (hg : Handle w) (n : Int) (_ : I64 n) {A : Option Addr} {cl : List (List Int)} {cap : Nat} (hcl : Rows2 (Old w) w A cl cap) {B : Option Addr} {st : List (List Int)} {cb : Nat} (hst : Rows2 (Old w) w B st cb) :
    Calls Tryd.prog 5 #[.int .i64 n, .slice A cl.length cap, .slice B st.length cb] w fun e w' => e = .returned (.bool true) ∧ Chg No w w' := by
  have HU := Lib.hid (up_any w hg)
  have HCL := Lib.hid (fun W (h : Chg No w W) => hcl.no rowE_good h)
  have HST := Lib.hid (fun W (h : Chg No w W) => hst.no rowE_good h)
  have HL := Lib.hid (fun W (h : Chg No w W) => light7 n W (HCL.out W h) (HST.out W h))
  have hcb := hcl.room
  unfold big at hcb
  simp only [RowE, SlE, IntE] at hcb
  clear hg hcl hst
  go_enter Tryd.func5, Tryd.ntmps5
  go_upto_region 3 with (first
    | (go_at_call 7; refine HU.out.mono ?_; rintro e w1 ⟨rfl, h1⟩)
    | (go_at_call 8; refine (HL.out w1 h1).mono ?_; rintro e w2 ⟨b, rfl, hb8, rfl⟩; have HB8 := Lib.hid hb8; clear hb8))
  clear HU HL
  have H1 := Lib.hid h1
  clear h1
  cases b
  · go_wp2
    go_ret
    exact ⟨rfl, H1.out⟩
  have HS100 : Hid (st.length ≤ 1000000) := by have := (HB8.out rfl).2; show _ ≤ _; omega
  clear HB8
  obtain ⟨c, p, hi⟩ := rupIs_ex n cl st
  have HR : Hid (∀ W A2 cap2, Rows2 (fun k => w.heap.size ≤ k) W A2 cl cap2 → Chg No w W → Calls Tryd.prog 9 #[.int .i64 n, .slice A2 cl.length cap2, .slice B st.length cb] W fun e w' => ∃ v, e = .returned v ∧ Hid ((v = .nilIface ∧ c = 0) ∨ (∃ t x, v = .iface t x ∧ c ≠ 0)) ∧ Hid (Chg No W w')) := fun W A2 cap2 h2 h =>
    (rupCheck_any n h2 (HST.out W h) HS100.out).mono (by
      rintro e w' ⟨hch, c', p', hi', hc⟩
      obtain ⟨rfl, rfl⟩ := rupIs_unique hi hi'
      rcases hc with ⟨_, _, _, rfl⟩ | ⟨_, h9, q, _, rfl, _⟩
      · by_cases hc : c = 0
        · subst hc; exact ⟨_, rfl, .inl ⟨errV_zero _, rfl⟩, hch⟩
        · exact ⟨_, rfl, .inr ⟨_, _, errV_of _ hc, hc⟩, hch⟩
      · exact ⟨_, rfl, .inr ⟨_, _, rfl, by omega⟩, hch⟩)
  clear hi HS100
  go_upto_region 7 with fail
  go_loopw [9, 10] (fun v i wr => ∃ (k : Nat) (V : List Value) (v9 : Value), v9 = v ∧ k ≤ cl.length ∧ i = .int .i64 k ∧ Hid (Chg No w1 wr) ∧ Hid (OwnRows 33 w1.heap.size wr v9 (cl.take k) V)) (fun _ i _ => cl.length - (intOf i).toNat)
  case atStart => exact ⟨0, [], _, rfl, Nat.zero_le _, by go_num, Chg.refl _ _, OwnRows.nil _ _ _⟩
  case round =>
    obtain ⟨k, V, v9, rfl, hk, rfl, hch, hown⟩ := hrel
    by_cases hlt : k < cl.length
    · obtain ⟨b, o, A2, cap2, rfl, hrow, hints⟩ := (HCL.out wr (H1.out.thenNo hch.out)).row_at k hlt
      have Hnx := Lib.hid (take_next cl k hlt)
      have hul : Hid ((cl.take k).length = k) := by unfold Hid; simp; omega
      have Hints := Lib.hid hints
      have hrow2 : (wr.alloc (.cells #[] 3)).cell? ⟨b, o + k, none⟩ = _ := ((Chg.refl No wr).alloc (.cells #[] 3)).cell hrow id
      generalize cl[k] = r at *
      have hsz : Hid (w1.heap.size ≤ wr.heap.size) := hch.out.size
      clear hints
      go_wp2_with (first
        | (at_builtin; refine wpList_copy_ints intsTyC rfl (.tmp 30) (.tmp 34) rfl rfl rfl Hints.out rfl ?_; intro A3 cap3 w4 ho4 hc4; have Hown4 := Lib.hid (hown.out.no hc4); have Hc4 := Lib.hid (hch.out.thenNo hc4); have Ho4 : Hid (Ints (fun k => w1.heap.size ≤ k ∧ v9.ownBlock ≠ some k) w4 A3 r cap3) := ho4.mono intE_good (fun k _ hk => ⟨Nat.le_trans hsz.out hk, fun e => by have := (hown.out.own.mine k e).2; omega⟩); clear ho4 hc4)
        | (at_builtin; refine wpList_push_row rowsTyC rfl (.tmp 29) (.tmp 36) rfl (B := w1.heap.size) Hc4.out.size Hown4.out rfl rfl Ho4.out rfl (by rw [hul.out]; omega) ?_; intro A4 cap4 w5 ho5 hc5; rw [hul.out] at ho5; have Ho5 := Lib.hid ho5; have Hc5 := Lib.hid (Hc4.out.trans hc5 (fun j hj hlt => by have := (Hown4.out.own.mine j hj).1; omega)); clear ho5 hc5))
      go_roundw
      case rel => exact ⟨k + 1, _, _, rfl, hlt, by go_num, Hc5, by rw [Hnx.out]; exact Ho5.out⟩
      case measure => first | (simp [intOf]; done) | (simp [intOf]; omega)
    · obtain rfl : k = cl.length := by omega
      rw [List.take_length] at hown
      obtain ⟨A3, cap3, rfl, hin3⟩ := hown.out.rows (by unfold big; omega)
      have hcw : Hid (Chg No w wr) := H1.out.thenNo hch.out
      have hw1 : Hid (w.heap.size ≤ w1.heap.size) := H1.out.size
      have Hrows : Hid (Rows2 (fun k => w.heap.size ≤ k) wr A3 cl cap3) := hin3.mono rowE_good (fun k _ hk => Nat.le_trans hw1.out hk)
      clear hin3 hown hch
      go_upto_region 11 with (go_at_call 9; refine (HR.out wr A3 cap3 Hrows.out hcw.out).mono ?_; rintro e w5 ⟨v5, rfl, HV5, H5⟩)
      have HW5 : Hid (Chg No w w5) := hcw.out.thenNo H5.out
      have HR5 : Hid (Rows2 (fun k => w.heap.size ≤ k) w5 A3 cl cap3) := Hrows.out.no rowE_good H5.out
      go_upto_region 13 with (go_at_call 9; refine (HR.out w5 A3 cap3 HR5.out HW5.out).mono ?_; rintro e w6 ⟨v6, rfl, HV6, H6⟩)
      have HW6 : Hid (Chg No w w6) := HW5.out.thenNo H6.out
      have HR6 := Lib.hid (fun W (h : Chg No w6 W) => (HR5.out.no rowE_good H6.out).no rowE_good h)
      clear HR HW5 HR5 Hrows hcw H5 H6 H1
      go_loopw [13] (fun i wr => ∃ k : Nat, k ≤ cl.length ∧ i = .int .i64 k ∧ Hid (Chg No w6 wr)) (fun i _ => cl.length - (intOf i).toNat)
      case atStart => exact ⟨0, Nat.zero_le _, rfl, Chg.refl _ _⟩
      case round =>
        obtain ⟨m, hm, rfl, hcm⟩ := hrel
        by_cases hlm : m < cl.length
        · obtain ⟨b1, o1, A5, cap5, rfl, hrow1, hin1⟩ := (HCL.out wr (HW6.out.thenNo hcm.out)).row_at m hlm
          obtain ⟨b2, o2, A6, cap6, rfl, hrow2, hin2⟩ := (HR6.out wr hcm.out).row_at m hlm
          have hib := hin1.big
          unfold big at hib
          generalize cl[m] = r at *
          have HN1 := Lib.hid (fun W (h : Chg No wr W) => hin1.no intE_good h)
          have HN2 := Lib.hid (fun W (h : Chg No wr W) => hin2.no intE_good h)
          clear hin1 hin2
          go_wp2
          obtain ⟨wp, rfl⟩ : ∃ wp : World, wp = wr := ⟨_, rfl⟩
          go_loopw [14] (fun i wr => ∃ k : Nat, k ≤ r.length ∧ i = .int .i64 k ∧ Hid (Chg No wp wr)) (fun i _ => r.length - (intOf i).toNat)
          case atStart => exact ⟨0, Nat.zero_le _, rfl, Chg.refl _ _⟩
          case round =>
            obtain ⟨j, hj, rfl, hcj⟩ := hrel
            have hr1 := hcj.out.cell hrow1 id
            have hr2 := hcj.out.cell hrow2 id
            by_cases hlj : j < r.length
            · obtain ⟨b3, o3, rfl, hx1⟩ := (HN1.out wr hcj.out).int_at j hlj
              obtain ⟨b4, o4, rfl, hx2⟩ := (HN2.out wr hcj.out).int_at j hlj
              generalize r[j] = x at *
              have hm1 : (m : Int) < (cl.length : Int) := by omega
              have hm0 : (0 : Int) ≤ (m : Int) := by omega
              have hj1 : (j : Int) < (r.length : Int) := by omega
              have hj0 : (0 : Int) ≤ (j : Int) := by omega
              go_wp2
              go_quiet (fail)
              go_wp2
              go_roundw
              case rel => exact ⟨j + 1, hlj, by go_num, hcj.out.drewN _⟩
              case measure => first | (simp [intOf]; done) | (simp [intOf]; omega)
            · go_wp2
              go_roundw
              case rel => exact ⟨m + 1, hlm, by go_num, hcm.out.thenNo hcj.out⟩
              case measure => first | (simp [intOf]; done) | (simp [intOf]; omega)
        · have HWR : Hid (∀ k, Chg No w (wr.drewN k)) := fun k => (HW6.out.thenNo hcm.out).drewN k
          have HWR0 : Hid (Chg No w wr) := HW6.out.thenNo hcm.out
          rcases HV5.out with ⟨rfl, hc⟩ | ⟨t, x, rfl, hc⟩ <;> rcases HV6.out with ⟨rfl, hc'⟩ | ⟨t', x', rfl, hc'⟩
          · clear HV5 HV6 hc hc'
            go_wp2
            go_quiet (fail)
            go_wp2
            go_ret
            exact ⟨rfl, HWR.out _⟩
          · exact absurd hc hc'
          · exact absurd hc' hc
          · clear HV5 HV6 hc hc'
            go_wp2
            go_quiet (fail)
            go_wp2
            go_ret
            exact ⟨rfl, HWR.out _⟩
end Go.Proofs.YtbbcodpoiikkdaaDoor
