/-
  The walk over CnfStays: it returns true and changes nothing of what was handed in.
-/
import Derived.Test.YtlejcnbpodmleaaCnfMks
import Derived.Test.YtlejcnbpodmleaaFrmC
namespace Go.Proofs.Ytlejcnbpodmleaa
open Go Go.RowKit

/-- Ints stay ints, and what may be written stays so. -/
structure IntKeep (w w' : World) : Prop where
  int : ∀ b j x, w.cell? ⟨b, j, none⟩ = some (.int .i64 x) → ∃ y, w'.cell? ⟨b, j, none⟩ = some (.int .i64 y)
  frz : ∀ b j, b < w.heap.size → w.frozen? ⟨b, j, none⟩ = false → w'.frozen? ⟨b, j, none⟩ = false
theorem IntKeep.refl (w : World) : IntKeep w w := ⟨fun _ _ x h => ⟨x, h⟩, fun _ _ _ h => h⟩
theorem IntKeep.drew {w w' : World} (h : IntKeep w w') : IntKeep w w'.drew := ⟨h.int, h.frz⟩
theorem IntKeep.no {w w' : World} (h : Chg No w w') : IntKeep w w' := ⟨fun _ _ x hx => ⟨x, h.cell hx id⟩, fun b j hb hf => by rw [frozen_of_heap (h.block b hb id)]; exact hf⟩
theorem IntKeep.put {w w' : World} (h : IntKeep w w') {g o : Nat} {y : Int} (hc : w'.cell? ⟨g, o, none⟩ = some (.int .i64 y)) (z : Int) : IntKeep w (w'.setCell ⟨g, o, none⟩ (.int .i64 z)) := by
  refine ⟨fun b j x hx => ?_, fun b j hb hf => by rw [World.frozen?_setCell]; exact h.frz b j hb hf⟩
  obtain ⟨u, hu⟩ := h.int b j x hx
  by_cases hbj : b = g ∧ j = o
  · obtain ⟨rfl, rfl⟩ := hbj
    refine ⟨z, ?_⟩
    exact World.cell?_setCell_same _ _ _ hu
  · refine ⟨u, ?_⟩
    rw [World.cell?_setCell_other _ _ _ _ (by intro e; injection e with e1 e2; exact hbj ⟨e1.symm, e2.symm⟩)]
    exact hu

/-- What stays while the answer's rows are written. -/
structure Rest9 (w4 w5 w6 : World) (v1 v2 : Value) (W : World) : Prop where
  ch : Chg (fun q => w4.heap.size ≤ q ∧ q < w5.heap.size ∧ v1.ownBlock ≠ some q ∧ v2.ownBlock ≠ some q) w6 W
  keep : IntKeep w6 W

set_option maxRecDepth 100000 in
set_option maxHeartbeats 8000000 in
theorem cnfStays_walk {n : Nat} {f : FT n} {R : Nat → Prop} {w : World} {cs : List Value} (h : (formV n) R w cs f) :
    Calls Try.prog 5 #[.agg cs.toArray] w fun e w' => e = .returned (.bool true) ∧ Chg No w w' := by
  have hg := formV_good n
  obtain ⟨kd, c, A, tl, cap, B, kl, capk, rfl⟩ := form_shape h
  have HU := Lib.hid (fun W => up9_any W)
  have HS := Lib.hid (fun W (hc : Chg No w W) => small_any (hg.no h hc))
  have HCO := Lib.hid (fun W (hc : Chg No w W) => refCopy_any n f R W _ (hg.no h hc))
  have HMK : Hid (∀ (W : World) (R1 : Nat → Prop) cs1, (formV n) R1 W cs1 f → Calls Try.prog 9 #[.agg cs1.toArray] W (MakeRet9 W (cnfErr n f) (cnfOut n f))) := fun W R1 cs1 h1 => make9_any h1
  have HSA : Hid (∀ (W : World) (R1 : Nat → Prop) cs1, Chg No w W → (formV n) R1 W cs1 f → Calls Try.prog 15 #[.agg cs1.toArray, .agg #[.int .i64 kd, .int .i64 c, .slice A tl cap, .slice B kl capk]] W fun e w' => e = .returned (.bool true) ∧ Chg No W w') := fun W R1 cs1 hc h1 => refSame_any n f R1 R W cs1 _ h1 (hg.no h hc)
  have HR := Lib.hid (fun W (hc : Chg No w W) => refMake_any (hg.no h hc))
  have her := cnfErr_range n f
  obtain ⟨l1, l2⟩ := cnfOut_len n f
  clear h
  generalize cnfErr n f = er at *
  generalize cnfOut n f = o at *
  obtain ⟨oN, oA, oC⟩ := o
  simp only at l1 l2
  have h0 : Hid (Chg No w (w.alloc (.cells #[.int .i64 kd, .int .i64 c, .slice A tl cap, .slice B kl capk] 27)) ∧ (w.alloc (.cells #[.int .i64 kd, .int .i64 c, .slice A tl cap, .slice B kl capk] 27)).heap[w.heap.size]? = some (.cells #[.int .i64 kd, .int .i64 c, .slice A tl cap, .slice B kl capk] 27 (0, 0))) := ⟨(Chg.refl _ _).alloc _, heap_alloc_new _ _⟩
  go_enter Try.func5, Try.ntmps5
  go_upto_region 3 with (first
    | (go_at_call 7; refine (HU.out _).mono ?_; rintro e w1 ⟨rfl, h1⟩; have O1 := Lib.hid (h1.obj h0.out.2 id); obtain ⟨p0, p1, p2, p3⟩ := obj_four O1.out; have H1 := Lib.hid (h0.out.1.thenNo h1); clear h1)
    | (go_at_call 8; refine (HS.out _ H1.out).mono ?_; rintro e w2 ⟨q, rfl, h2⟩; have O2 := Lib.hid (h2.obj O1.out id); clear p0 p1 p2 p3; obtain ⟨p0, p1, p2, p3⟩ := obj_four O2.out; have H2 := Lib.hid (H1.out.thenNo h2); clear h2))
  cases q
  · go_wp2_with fail
    go_ret
    exact ⟨rfl, H2.out⟩
  go_upto_region 6 with (go_at_call 14; (with_reducible refine (HCO.out _ H2.out).mono ?_); rintro e w3 ⟨cs3, rfl, g1, h3⟩; have G1 := Lib.hid g1; have H3 := Lib.hid (H2.out.thenNo h3); have O3 := Lib.hid (h3.obj O2.out id); clear h3; obtain ⟨kd3, c3, A3, tl3, cap3, B3, kl3, capk3, rfl⟩ := form_shape g1; clear g1)
  obtain ⟨w4, hw4⟩ : ∃ w4, w4 = w3.alloc (.cells #[.int .i64 kd3, .int .i64 c3, .slice A3 tl3 cap3, .slice B3 kl3 capk3] 27) := ⟨_, rfl⟩
  obtain ⟨p5, hp5⟩ : ∃ p5, p5 = w3.heap.size := ⟨_, rfl⟩
  have C4 : Hid (Chg No w w4 ∧ w4.heap[p5]? = some (.cells #[.int .i64 kd3, .int .i64 c3, .slice A3 tl3 cap3, .slice B3 kl3 capk3] 27 (0, 0)) ∧ w4.heap[w.heap.size]? = some (.cells #[.int .i64 kd, .int .i64 c, .slice A tl cap, .slice B kl capk] 27 (0, 0)) ∧ (formV n) (fun k => w.heap.size ≤ k ∧ k < w4.heap.size) w4 [.int .i64 kd3, .int .i64 c3, .slice A3 tl3 cap3, .slice B3 kl3 capk3] f ∧ w.heap.size ≤ p5) := by
    rw [hw4, hp5]
    refine ⟨H3.out.alloc _, heap_alloc_new _ _, at_old O3.out, ?_, H3.out.size⟩
    have g2 := (formV_good n).mono G1.out (R' := fun k => w.heap.size ≤ k ∧ k < (w3.alloc (.cells #[.int .i64 kd3, .int .i64 c3, .slice A3 tl3 cap3, .slice B3 kl3 capk3] 27)).heap.size) (fun k hk hR => ⟨Nat.le_trans H2.out.size hR, by simp; omega⟩)
    exact (formV_good n).no g2 ((Chg.refl _ _).alloc _)
  rw [← hw4, ← hp5]
  clear hw4 hp5 p0 p1 p2 p3 G1 H3 O3 O2 H2 O1 H1 h0
  obtain ⟨p0, p1, p2, p3⟩ := obj_four C4.out.2.2.1
  obtain ⟨q0, q1, q2, q3⟩ := obj_four C4.out.2.1
  go_upto_region 7 with (go_at_call 9; (with_reducible refine (HMK.out _ _ _ C4.out.2.2.2.1).mono ?_); rintro e w5 ⟨A1, c1, B1, d1, Z, rfl, hZ, g1, g2, h5⟩; have HZ := Lib.hid hZ; have G1 := Lib.hid g1; have G2 := Lib.hid g2; have C5 := Lib.hid h5; clear hZ g1 g2 h5)
  obtain ⟨w6, hw6⟩ : ∃ w6, w6 = w5.alloc (.cells #[.int .i64 oN, .slice A1 oA.length c1, .slice B1 oC.length d1] 33) := ⟨_, rfl⟩
  obtain ⟨p6, hp6⟩ : ∃ p6, p6 = w5.heap.size := ⟨_, rfl⟩
  have C6 : Hid (Chg No w5 w6 ∧ w6.heap[p6]? = some (.cells #[.int .i64 oN, .slice A1 oA.length c1, .slice B1 oC.length d1] 33 (0, 0)) ∧ p6 = w5.heap.size ∧ w4.heap.size ≤ w5.heap.size) := by
    rw [hw6, hp6]
    exact ⟨(Chg.refl _ _).alloc _, heap_alloc_new _ _, rfl, C5.out.size⟩
  rw [← hw6, ← hp6]
  clear hw6 hp6 p0 p1 p2 p3 q0 q1 q2 q3
  have H6 := Lib.hid (C4.out.1.thenNo (C5.out.thenNo C6.out.1))
  have C46 := Lib.hid (C5.out.thenNo C6.out.1)
  have HS1 : Hid (∀ q, (Value.slice B1 oC.length d1).ownBlock = some q → w4.heap.size ≤ q ∧ q < Z) := fun q hq => (G1.out.mine q hq).1
  have HS2 : Hid (∀ q, (Value.slice A1 oA.length c1).ownBlock = some q → Z ≤ q) := fun q hq => (G2.out.mine q hq).1
  have HROW : Hid (∀ i (h : i < oC.length), ∃ b o Ai ci, B1 = some ⟨b, o, none⟩ ∧ w6.cell? ⟨b, o + i, none⟩ = some (.slice Ai oC[i].length ci) ∧ oC[i].length ≤ 140737488355328 ∧ ∀ k, k < oC[i].length → ∃ g oo y, Ai = some ⟨g, oo, none⟩ ∧ (w4.heap.size ≤ g ∧ g < w5.heap.size ∧ (Value.slice B1 oC.length d1).ownBlock ≠ some g ∧ (Value.slice A1 oA.length c1).ownBlock ≠ some g) ∧ w6.cell? ⟨g, oo + k, none⟩ = some (.int .i64 y) ∧ w6.frozen? ⟨g, oo + k, none⟩ = false) := fun i hi => by
    obtain ⟨b, o, cap, cs, e, _, _, hv, hc⟩ := G1.out.at_ rowV_good i hi
    injection e with e1 _ _
    obtain ⟨Ai, ci, rfl, hs⟩ := hv
    have h1 := hc 0 _ rfl
    have h2 : w5.cell? ⟨b, o + i, none⟩ = some (.slice Ai oC[i].length ci) := by
      have e2 : o + i * rowV.sz + 0 = o + i := by show o + i * 1 + 0 = o + i; omega
      rw [e2] at h1
      exact h1
    refine ⟨b, o, Ai, ci, e1, C6.out.1.cell h2 id, hs.big, fun k hk => ?_⟩
    obtain ⟨g, oo, e3, ⟨⟨⟨hg1, hg2⟩, hg3⟩, hx, _⟩, hfz⟩ := hs.at_ k hk
    have hx' : w5.cell? ⟨g, oo + k, none⟩ = some (.int .i64 oC[i][k]) := by simpa using hx
    have hlt := cell_lt hx'
    refine ⟨g, oo, _, e3, ⟨hg1, hlt, hg3, fun e4 => by have := HS2.out g e4; omega⟩, C6.out.1.cell hx' id, ?_⟩
    rw [frozen_of_heap (C6.out.1.block g hlt id)]
    exact hfz _
  have HATM : Hid (∀ i (h : i < oA.length), ∃ b o Ai ci, A1 = some ⟨b, o, none⟩ ∧ w6.cell? ⟨b, o + i * 2 + 1, none⟩ = some (.slice Ai oA[i].2.length ci) ∧ oA[i].2.length ≤ 140737488355328 ∧ ∀ k, k < oA[i].2.length → ∃ g oo y, Ai = some ⟨g, oo, none⟩ ∧ (w4.heap.size ≤ g ∧ g < w5.heap.size ∧ (Value.slice B1 oC.length d1).ownBlock ≠ some g ∧ (Value.slice A1 oA.length c1).ownBlock ≠ some g) ∧ w6.cell? ⟨g, oo + k * 2 + 1, none⟩ = some (.int .i64 y) ∧ w6.frozen? ⟨g, oo + k * 2 + 1, none⟩ = false) := fun i hi => by
    obtain ⟨b, o, cap, cs, e, _, _, hv, hc⟩ := G2.out.at_ linW_good i hi
    injection e with e1 _ _
    obtain ⟨d1', d2', rfl, hl1, ⟨rfl, _⟩, Ai, ci, rfl, hs⟩ := hv
    have h1 := hc 1 _ rfl
    have h2 : w5.cell? ⟨b, o + i * 2 + 1, none⟩ = some (.slice Ai oA[i].2.length ci) := h1
    refine ⟨b, o, Ai, ci, e1, C6.out.1.cell h2 id, hs.big, fun k hk => ?_⟩
    obtain ⟨g, oo, e3, hm, hfz⟩ := hs.at_ k hk
    obtain ⟨⟨hg1, hg3⟩, cs2, _, hcc, hmv⟩ := hm
    obtain ⟨rfl, _, _⟩ := mono_cells hmv
    have hx := hcc 1 _ rfl
    have hx' : w5.cell? ⟨g, oo + k * 2 + 1, none⟩ = some (.int .i64 oA[i].2[k].2) := hx
    have hlt := cell_lt hx'
    have hZ := HZ.out
    refine ⟨g, oo, _, e3, ⟨by omega, hlt, fun e4 => by have := HS1.out g e4; omega, hg3⟩, C6.out.1.cell hx' id, ?_⟩
    rw [frozen_of_heap (C6.out.1.block g hlt id)]
    exact hfz _
  have HFM : Hid (∀ W, Chg (fun q => w4.heap.size ≤ q ∧ q < w5.heap.size ∧ (Value.slice B1 oC.length d1).ownBlock ≠ some q ∧ (Value.slice A1 oA.length c1).ownBlock ≠ some q) w6 W → Chg No w W ∧ (formV n) (fun k => w.heap.size ≤ k ∧ k < w4.heap.size) W [.int .i64 kd3, .int .i64 c3, .slice A3 tl3 cap3, .slice B3 kl3 capk3] f ∧ W.heap[p5]? = some (.cells #[.int .i64 kd3, .int .i64 c3, .slice A3 tl3 cap3, .slice B3 kl3 capk3] 27 (0, 0)) ∧ W.heap[w.heap.size]? = some (.cells #[.int .i64 kd, .int .i64 c, .slice A tl cap, .slice B kl capk] 27 (0, 0)) ∧ W.heap[p6]? = some (.cells #[.int .i64 oN, .slice A1 oA.length c1, .slice B1 oC.length d1] 33 (0, 0))) := fun W hW => by
    have hp5 : p5 < w4.heap.size := (Array.getElem?_eq_some_iff.1 C4.out.2.1).1
    have hq1 : w.heap.size < w4.heap.size := (Array.getElem?_eq_some_iff.1 C4.out.2.2.1).1
    have h5 := C6.out.2.2.1
    refine ⟨H6.out.trans hW (fun k hk hlt => by have := hk.1; omega), ?_, hW.obj (C46.out.obj C4.out.2.1 id) (fun h => by have := h.1; omega), hW.obj (C46.out.obj C4.out.2.2.1 id) (fun h => by have := h.1; omega), hW.obj C6.out.2.1 (fun h => by have := h.2.1; omega)⟩
    exact (formV_good n).chg ((formV_good n).no C4.out.2.2.2.1 C46.out) hW (fun k hk h => by have := h.1; have := hk.2; omega)
  have HHD : Hid (∀ b o, B1 = some ⟨b, o, none⟩ → ¬ (w4.heap.size ≤ b ∧ b < w5.heap.size ∧ (Value.slice B1 oC.length d1).ownBlock ≠ some b ∧ (Value.slice A1 oA.length c1).ownBlock ≠ some b)) := fun b o e h => h.2.2.1 (by rw [e]; rfl)
  have HHA : Hid (∀ b o, A1 = some ⟨b, o, none⟩ → ¬ (w4.heap.size ≤ b ∧ b < w5.heap.size ∧ (Value.slice B1 oC.length d1).ownBlock ≠ some b ∧ (Value.slice A1 oA.length c1).ownBlock ≠ some b)) := fun b o e h => h.2.2.2 (by rw [e]; rfl)
  generalize (Value.slice B1 oC.length d1).ownBlock = ob at *
  generalize (Value.slice A1 oA.length c1).ownBlock = oa at *
  obtain ⟨p0, p1, p2, p3⟩ := obj_four (HFM.out w6 (Chg.refl _ _)).2.2.2.1
  obtain ⟨q0, q1, q2, q3⟩ := obj_four (HFM.out w6 (Chg.refl _ _)).2.2.1
  have H6' := Lib.hid (HFM.out w6 (Chg.refl _ _)).2.1
  go_upto_region 8 with (go_at_call 15; (with_reducible refine (HSA.out _ _ _ H6.out H6'.out).mono ?_); rintro e w7 ⟨rfl, h7⟩; have C7 := Lib.hid h7; clear h7)
  have RS7 : Hid (Chg (fun q => w4.heap.size ≤ q ∧ q < w5.heap.size ∧ ob ≠ some q ∧ oa ≠ some q) w6 w7 ∧ IntKeep w6 w7) := ⟨C7.out.no, IntKeep.no C7.out⟩
  clear p0 p1 p2 p3 q0 q1 q2 q3 C7 H6' HS1 HS2 G1 G2 HZ C5 C46
  go_wp2_with fail
  go_loopw [9] (fun s9 wr => ∃ i : Nat, i ≤ oC.length ∧ s9 = .int .i64 i ∧ Hid (Chg (fun q => w4.heap.size ≤ q ∧ q < w5.heap.size ∧ ob ≠ some q ∧ oa ≠ some q) w6 wr ∧ IntKeep w6 wr)) (fun s9 _ => oC.length - (intOf s9).toNat)
  case atStart => exact ⟨0, Nat.zero_le _, rfl, RS7⟩
  case round =>
    clear RS7
    obtain ⟨i, hi, rfl, RS⟩ := hrel
    obtain ⟨r0, r1, r2, _⟩ := obj_three (HFM.out wr RS.out.1).2.2.2.2
    by_cases hlt : i < oC.length
    · obtain ⟨b, o, Ai, ci, e1, hrow, hil, hcells⟩ := HROW.out i hlt
      have HROWX := Lib.hid (fun W (h : Chg (fun q => w4.heap.size ≤ q ∧ q < w5.heap.size ∧ ob ≠ some q ∧ oa ≠ some q) w6 W) => h.cell hrow (HHD.out b o e1))
      have HCX := Lib.hid hcells
      subst e1
      generalize oC[i].length = m at *
      clear hcells hrow
      obtain ⟨wo, rfl⟩ : ∃ wo, wo = wr := ⟨_, rfl⟩
      go_wp2_with fail
      go_loopw [10] (fun s10 wr => ∃ j : Nat, j ≤ m ∧ s10 = .int .i64 j ∧ Hid (Chg (fun q => w4.heap.size ≤ q ∧ q < w5.heap.size ∧ ob ≠ some q ∧ oa ≠ some q) w6 wr ∧ IntKeep w6 wr)) (fun s10 _ => m - (intOf s10).toNat)
      case atStart => exact ⟨0, Nat.zero_le _, rfl, RS⟩
      case round =>
        clear RS r0 r1 r2
        obtain ⟨j, hj, rfl, RS⟩ := hrel
        obtain ⟨r0, r1, r2, _⟩ := obj_three (HFM.out wr RS.out.1).2.2.2.2
        have hx := HROWX.out wr RS.out.1
        by_cases hjl : j < m
        · obtain ⟨g, oo, y, rfl, hS, hc, hf⟩ := HCX.out j hjl
          obtain ⟨y', hc'⟩ := RS.out.2.int _ _ _ hc
          have hf' := RS.out.2.frz _ _ (cell_lt hc) hf
          have RS2 : Hid (Chg (fun q => w4.heap.size ≤ q ∧ q < w5.heap.size ∧ ob ≠ some q ∧ oa ≠ some q) w6 (wr.setCell ⟨g, oo + j, none⟩ (.int .i64 1)) ∧ IntKeep w6 (wr.setCell ⟨g, oo + j, none⟩ (.int .i64 1))) := ⟨RS.out.1.setCell _ _ (fun _ => hS), RS.out.2.put hc' 1⟩
          clear hc hf hS RS
          go_wp2_with fail
          go_roundw
          case rel => exact ⟨j + 1, hjl, by go_num, RS2⟩
          case measure => simp [intOf]; omega
        · go_wp2_with fail
          go_roundw
          case rel => exact ⟨i + 1, hlt, by go_num, RS⟩
          case measure => simp [intOf]; omega
    · go_wp2_with fail
      go_loopw [11] (fun s11 wr => ∃ i : Nat, i ≤ oA.length ∧ s11 = .int .i64 i ∧ Hid (Chg (fun q => w4.heap.size ≤ q ∧ q < w5.heap.size ∧ ob ≠ some q ∧ oa ≠ some q) w6 wr ∧ IntKeep w6 wr)) (fun s11 _ => oA.length - (intOf s11).toNat)
      case atStart => exact ⟨0, Nat.zero_le _, rfl, RS⟩
      case round =>
        clear RS hlt hi r0 r1 r2
        obtain ⟨i, hi, rfl, RS⟩ := hrel
        obtain ⟨r0, r1, r2, _⟩ := obj_three (HFM.out wr RS.out.1).2.2.2.2
        by_cases hlt : i < oA.length
        · obtain ⟨b, o, Ai, ci, e1, hrow, hil, hcells⟩ := HATM.out i hlt
          have HROWX := Lib.hid (fun W (h : Chg (fun q => w4.heap.size ≤ q ∧ q < w5.heap.size ∧ ob ≠ some q ∧ oa ≠ some q) w6 W) => h.cell hrow (HHA.out b o e1))
          have HCX := Lib.hid hcells
          subst e1
          generalize oA[i].2.length = m at *
          clear hcells hrow
          obtain ⟨wo, rfl⟩ : ∃ wo, wo = wr := ⟨_, rfl⟩
          go_wp2_with fail
          go_loopw [12] (fun s12 wr => ∃ j : Nat, j ≤ m ∧ s12 = .int .i64 j ∧ Hid (Chg (fun q => w4.heap.size ≤ q ∧ q < w5.heap.size ∧ ob ≠ some q ∧ oa ≠ some q) w6 wr ∧ IntKeep w6 wr)) (fun s12 _ => m - (intOf s12).toNat)
          case atStart => exact ⟨0, Nat.zero_le _, rfl, RS⟩
          case round =>
            clear RS r0 r1 r2
            obtain ⟨j, hj, rfl, RS⟩ := hrel
            obtain ⟨r0, r1, r2, _⟩ := obj_three (HFM.out wr RS.out.1).2.2.2.2
            have hx := HROWX.out wr RS.out.1
            by_cases hjl : j < m
            · obtain ⟨g, oo, y, rfl, hS, hc, hf⟩ := HCX.out j hjl
              obtain ⟨y', hc'⟩ := RS.out.2.int _ _ _ hc
              have hf' := RS.out.2.frz _ _ (cell_lt hc) hf
              have RS2 : Hid (Chg (fun q => w4.heap.size ≤ q ∧ q < w5.heap.size ∧ ob ≠ some q ∧ oa ≠ some q) w6 (wr.setCell ⟨g, oo + j * 2 + 1, none⟩ (.int .i64 9)) ∧ IntKeep w6 (wr.setCell ⟨g, oo + j * 2 + 1, none⟩ (.int .i64 9))) := ⟨RS.out.1.setCell _ _ (fun _ => hS), RS.out.2.put hc' 9⟩
              clear hc hf hS RS
              go_wp2_with fail
              go_roundw
              case rel => exact ⟨j + 1, hjl, by go_num, RS2⟩
              case measure => simp [intOf]; omega
            · go_wp2_with fail
              go_roundw
              case rel => exact ⟨i + 1, hlt, by go_num, RS⟩
              case measure => simp [intOf]; omega
        · clear HROW HATM HHD HHA
          obtain ⟨H8, F8, P8, Q8, _⟩ := HFM.out wr RS.out.1
          obtain ⟨p0, p1, p2, p3⟩ := obj_four Q8
          obtain ⟨q0, q1, q2, q3⟩ := obj_four P8
          have HH8 := Lib.hid H8
          have HF8 := Lib.hid F8
          have HP8 := Lib.hid P8
          have HQ8 := Lib.hid Q8
          clear H8 F8 P8 Q8 RS HFM
          go_upto_region 23 with (go_at_call 15; (with_reducible refine (HSA.out _ _ _ HH8.out HF8.out).mono ?_); rintro e w8 ⟨rfl, h8⟩; have C8 := Lib.hid h8; clear h8)
          clear p0 p1 p2 p3 q0 q1 q2 q3
          obtain ⟨q0, q1, q2, q3⟩ := obj_four (C8.out.obj HP8.out id)
          have HF8' := Lib.hid ((formV_good n).no HF8.out C8.out)
          go_upto_region 24 with (go_at_call 9; (with_reducible refine (HMK.out _ _ _ HF8'.out).mono ?_); rintro e w9 ⟨A9, c9, B9, d9, Z9, rfl, _, g1, g2, h9⟩; have G9 := Lib.hid (own_rows g1 l2).2; have C9 := Lib.hid h9; clear g1 g2 h9)
          obtain ⟨w10, hw10⟩ : ∃ w10, w10 = w9.alloc (.cells #[.int .i64 oN, .slice A9 oA.length c9, .slice B9 oC.length d9] 33) := ⟨_, rfl⟩
          rw [← hw10]
          have C10 : Hid (Chg No w9 w10 ∧ w10.heap[w9.heap.size]? = some (.cells #[.int .i64 oN, .slice A9 oA.length c9, .slice B9 oC.length d9] 33 (0, 0))) := by rw [hw10]; exact ⟨(Chg.refl _ _).alloc _, heap_alloc_new _ _⟩
          clear hw10 q0 q1 q2 q3
          have H10 := Lib.hid ((C8.out.thenNo C9.out).thenNo C10.out.1)
          obtain ⟨p0, p1, p2, p3⟩ := obj_four (H10.out.obj HQ8.out id)
          go_upto_region 25 with (go_at_call 10; (with_reducible refine (HR.out _ (HH8.out.thenNo H10.out)).mono ?_); rintro e w11 ⟨A2, c2, B2, d2, rfl, g3, g4, h5⟩; have G4 := Lib.hid g4; have C11 := Lib.hid h5; clear h5 g3 g4)
          obtain ⟨w12, hw12⟩ : ∃ w12, w12 = w11.alloc (.cells #[.int .i64 oN, .slice A2 oA.length c2, .slice B2 oC.length d2] 33) := ⟨_, rfl⟩
          rw [← hw12]
          have C12 : Hid (Chg No w11 w12 ∧ w12.heap[w11.heap.size]? = some (.cells #[.int .i64 oN, .slice A2 oA.length c2, .slice B2 oC.length d2] 33 (0, 0))) := by rw [hw12]; exact ⟨(Chg.refl _ _).alloc _, heap_alloc_new _ _⟩
          clear hw12 p0 p1 p2 p3
          have H12 := Lib.hid ((HH8.out.thenNo H10.out).thenNo (C11.out.thenNo C12.out.1))
          obtain ⟨a0, a1, a2, _⟩ := obj_three (C12.out.1.obj (C11.out.obj C10.out.2 id) id)
          obtain ⟨b0, b1, b2, _⟩ := obj_three C12.out.2
          have L1 := cell_later a1
          have L2 := cell_later a2
          have L3 := cell_later b1
          have L4 := cell_later b2
          have HSRL : Hid (∀ d os, _) := fun d os => Calls.later_of (sameRows_any ((G9.out.no rowE_good (C10.out.1.thenNo (C11.out.thenNo C12.out.1))).no rowE_good (chg_later w12 d os)) ((G4.out.no rowE_good C12.out.1).no rowE_good (chg_later w12 d os)))
          clear a0 a1 a2 b0 b1 b2
          have hE : errV 43 er = .nilIface ∨ errV 43 er = .iface 43 (.int .i64 er) := by unfold errV; split <;> simp
          rcases hE with hE | hE
          all_goals
            rw [hE]
            clear hE
            refine wp_region_later (by kernel_rfl) (by kernel_rfl) ?_
            repeat (go_big_quiet_step ((go_at_call 13; exact HSRL.out _ _)))
            refine wpQuiet_nil ?_
            intro _ hw'
            obtain ⟨⟨dq, osq⟩, hw''⟩ := hw'
            subst hw''
            go_wp2
            go_ret
            exact ⟨rfl, H12.out.thenNo (chg_later w12 dq osq)⟩
end Go.Proofs.Ytlejcnbpodmleaa
