/-
  The reference's Same of atoms and of clauses, at what is the same; the document's example of layer 9.
-/
import Derived.Test.YtlejcnbpodmleaaCnfI
import Derived.Test.YtlejcnbpodmleaaCode
namespace Go.Proofs.Ytlejcnbpodmleaa
open Go Go.RowKit

set_option maxHeartbeats 1000000 in
theorem sameLins_any {R R' : Nat → Prop} {w : World} {A A' : Option Addr} {l : List Lin} {cap cap' : Nat} (hx : Lins R w A l cap) (hy : Lins R' w A' l cap') :
    Calls Try.prog 12 #[.slice A l.length cap, .slice A' l.length cap'] w fun e w' => e = .returned (.bool true) ∧ Chg No w w' := by
  have HX := Lib.hid (fun W (h : Chg No w W) => hx.no linE_good h)
  have HY := Lib.hid (fun W (h : Chg No w W) => hy.no linE_good h)
  have hb := hx.big
  unfold big at hb
  clear hx hy
  go_enter Try.func12, Try.ntmps12
  go_wp2
  go_loopw [5] (fun s5 wr => ∃ k : Nat, k ≤ l.length ∧ s5 = .int .i64 k ∧ Hid (Chg No w wr)) (fun s5 _ => l.length - (intOf s5).toNat)
  case atStart => exact ⟨0, Nat.zero_le _, rfl, Chg.refl _ _⟩
  case round =>
    obtain ⟨k, hk, rfl, hch⟩ := hrel
    by_cases hlt : k < l.length
    · obtain ⟨b, o, Ai, ci, rfl, _, hx0, hx1, _, hm⟩ := lins_at (HX.out wr hch.out) k hlt
      obtain ⟨b', o', Ai', ci', rfl, _, hy0, hy1, _, hm'⟩ := lins_at (HY.out wr hch.out) k hlt
      have i0 : (0 : Int) ≤ (k : Int) := by omega
      have i1 : (k : Int) < (l.length : Int) := by omega
      have HSl : Hid (∀ d os, Calls Try.prog 30 #[.agg #[.int .i64 l[k].1, .slice Ai l[k].2.length ci], .agg #[.int .i64 l[k].1, .slice Ai' l[k].2.length ci']] (later wr d os) fun e w'' => e = .returned (.bool true) ∧ ∃ p : Lat, w'' = later wr p.d p.os) := fun d os => by
        have := ref01Same_any (c := l[k].1) (c' := l[k].1) (hm.no monoE_good (chg_later wr d os)) (hm'.no monoE_good (chg_later wr d os))
        simp only [and_self, decide_true] at this
        exact Calls.later_of this
      clear hm hm'
      generalize l[k].1 = c at *
      generalize l[k].2.length = tl at *
      have l2 := cell_later hx0
      have l3 := cell_later hx1
      have l4 := cell_later hy0
      have l5 := cell_later hy1
      go_wp2_with fail
      refine wp_region_later (by kernel_rfl) (by kernel_rfl) ?_
      repeat (quiet_step ((go_at_call 30; exact HSl.out _ _)))
      refine wpQuiet_nil ?_
      intro _ hw'
      obtain ⟨⟨dq, osq⟩, hw''⟩ := hw'
      subst hw''
      have Hc := Lib.hid (hch.out.thenNo (chg_later wr dq osq))
      go_wp2
      go_roundw
      case rel => exact ⟨k + 1, hlt, by go_num, Hc.out⟩
      case measure => simp [intOf]; omega
    · go_wp2
      go_ret
      exact ⟨rfl, hch.out⟩

set_option maxHeartbeats 2000000 in
theorem sameRows_any {R R' : Nat → Prop} {w : World} {A A' : Option Addr} {l : List (List Int)} {cap cap' : Nat} (hx : Rows2 R w A l cap) (hy : Rows2 R' w A' l cap') :
    Calls Try.prog 13 #[.slice A l.length cap, .slice A' l.length cap'] w fun e w' => e = .returned (.bool true) ∧ Chg No w w' := by
  have HX := Lib.hid (fun W (h : Chg No w W) => hx.no rowE_good h)
  have HY := Lib.hid (fun W (h : Chg No w W) => hy.no rowE_good h)
  have hb := hx.big
  unfold big at hb
  clear hx hy
  go_enter Try.func13, Try.ntmps13
  go_wp2
  go_loopw [5] (fun s5 wr => ∃ k : Nat, k ≤ l.length ∧ s5 = .int .i64 k ∧ Hid (Chg No w wr)) (fun s5 _ => l.length - (intOf s5).toNat)
  case atStart => exact ⟨0, Nat.zero_le _, rfl, Chg.refl _ _⟩
  case round =>
    obtain ⟨k, hk, rfl, hch⟩ := hrel
    by_cases hlt : k < l.length
    · obtain ⟨b, o, Ai, ci, rfl, hx0, hm⟩ := (HX.out wr hch.out).row_at k hlt
      obtain ⟨b', o', Ai', ci', rfl, hy0, hm'⟩ := (HY.out wr hch.out).row_at k hlt
      have i0 : (0 : Int) ≤ (k : Int) := by omega
      have i1 : (k : Int) < (l.length : Int) := by omega
      have HM := Lib.hid (fun W (h : Chg No wr W) => hm.no intE_good h)
      have HM' := Lib.hid (fun W (h : Chg No wr W) => hm'.no intE_good h)
      have HX1 : Hid (∀ W, Chg No wr W → W.cell? ⟨b, o + k, none⟩ = some (.slice Ai l[k].length ci) ∧ W.cell? ⟨b', o' + k, none⟩ = some (.slice Ai' l[k].length ci')) := fun W h => ⟨h.cell hx0 id, h.cell hy0 id⟩
      have hb2 := hm.big
      unfold big at hb2
      clear hm hm'
      generalize l[k] = r at *
      go_wp2
      go_quiet (fail)
      go_wp2
      have HC0 : Hid (Chg No wr (wr.drewN nq)) := (Chg.refl _ _).drewN nq
      obtain ⟨wo, hwo⟩ : ∃ wo, wo = wr.drewN nq := ⟨_, rfl⟩
      rw [← hwo] at HC0 ⊢
      clear hwo hx0 hy0
      obtain ⟨wp, rfl⟩ : ∃ wp, wp = wr := ⟨_, rfl⟩
      go_loopw [6] (fun s6 wr => ∃ j : Nat, j ≤ r.length ∧ s6 = .int .i64 j ∧ Hid (Chg No wp wr)) (fun s6 _ => r.length - (intOf s6).toNat)
      case atStart => exact ⟨0, Nat.zero_le _, rfl, HC0.out⟩
      case round =>
        obtain ⟨j, hj, rfl, hcj⟩ := hrel
        obtain ⟨hx0, hy0⟩ := HX1.out wr hcj.out
        by_cases hlj : j < r.length
        · obtain ⟨c, d, rfl, hz0⟩ := (HM.out wr hcj.out).int_at j hlj
          obtain ⟨c', d', rfl, hz1⟩ := (HM'.out wr hcj.out).int_at j hlj
          have j0 : (0 : Int) ≤ (j : Int) := by omega
          have j1 : (j : Int) < (r.length : Int) := by omega
          generalize r[j] = x at *
          go_wp2
          go_quiet (fail)
          have HC1 : Hid (Chg No wp (wr.drewN nq)) := hcj.out.drewN nq
          go_wp2
          go_roundw
          case rel => exact ⟨j + 1, hlj, by go_num, HC1.out⟩
          case measure => simp [intOf]; omega
        · go_wp2
          go_roundw
          case rel => exact ⟨k + 1, hlt, by go_num, hch.out.thenNo hcj.out⟩
          case measure => simp [intOf]; omega
    · go_wp2
      go_ret
      exact ⟨rfl, hch.out⟩

/-- A formula without parts. -/
def leafF (kd : Int) : FT 1 := ⟨kd, (0, []), []⟩
theorem leaf_form (kd : Int) (h : I64 kd) (w : World) : (formV 1) No w [.int .i64 kd, .int .i64 0, .slice none 0 0, .slice none 0 0] (leafF kd) :=
  ⟨none, 0, none, 0, rfl, h, by show I64 0; unfold I64; decide, Sl.empty, Sl.empty⟩
theorem leaf_true : cnfErr 1 (leafF 0) = 0 ∧ cnfOut 1 (leafF 0) = (1, [], [[1], [1]]) := by decide
theorem leaf_eq : cnfErr 1 (leafF 3) = 5 ∧ cnfOut 1 (leafF 3) = (0, [], []) := by decide

set_option maxHeartbeats 1000000 in
theorem up9_any (w : World) : Calls Try.prog 7 #[] w fun e w' => e = .returned (.bool true) ∧ Chg No w w' := by
  have H1 : Hid (∀ W, Calls Try.prog 9 #[.agg #[.int .i64 0, .int .i64 0, .slice none 0 0, .slice none 0 0]] W fun e w' => ∃ AA ca BB cb, e = .returned (.tuple #[.agg #[.int .i64 1, .slice AA 0 ca, .slice BB 2 cb], .nilIface]) ∧ Chg No W w') := fun W => by
    have h := make9_any (leaf_form 0 (by unfold I64; decide) W)
    rw [leaf_true.1, leaf_true.2] at h
    refine h.mono ?_
    rintro e w' ⟨AA, ca, BB, cb, Z, rfl, _, _, _, hc⟩
    exact ⟨AA, ca, BB, cb, by rw [errV_zero]; rfl, hc⟩
  have H2 : Hid (∀ W, Calls Try.prog 9 #[.agg #[.int .i64 3, .int .i64 0, .slice none 0 0, .slice none 0 0]] W fun e w' => ∃ AA ca BB cb, e = .returned (.tuple #[.agg #[.int .i64 0, .slice AA 0 ca, .slice BB 0 cb], .iface 43 (.int .i64 5)]) ∧ Chg No W w') := fun W => by
    have h := make9_any (leaf_form 3 (by unfold I64; decide) W)
    rw [leaf_eq.1, leaf_eq.2] at h
    refine h.mono ?_
    rintro e w' ⟨AA, ca, BB, cb, Z, rfl, _, _, _, hc⟩
    exact ⟨AA, ca, BB, cb, by rw [errV_of _ (by decide)]; rfl, hc⟩
  obtain ⟨ei, hei, hec⟩ := errInfo
  have heq : ∀ W, (binOp .eql 35 (.iface 43 (.int .i64 5)) (.iface 43 (.int .i64 5))).run Try.prog W = .ok (.bool true) W := fun W => by
    kernel_rfl
  go_enter Try.func7, Try.ntmps7
  go_upto_region 2 with (go_at_call 9; refine (H1.out _).mono ?_; rintro e w1 ⟨A1, c1, B1, d1, rfl, h1⟩; have K1 := Lib.hid h1; clear h1)
  have O1 : Hid ((w1.alloc (.cells #[.int .i64 1, .slice A1 0 c1, .slice B1 2 d1] 33)).heap[w1.heap.size]? = some (.cells #[.int .i64 1, .slice A1 0 c1, .slice B1 2 d1] 33 (0, 0))) := heap_alloc_new _ _
  go_wp2_with (go_at_call 9; refine (H2.out _).mono ?_; rintro e w2 ⟨A2, c2, B2, d2, rfl, h2⟩; obtain ⟨r0, r1, r2, _⟩ := obj_three (((Chg.refl No w2).alloc (.cells #[.int .i64 0, .slice A2 0 c2, .slice B2 0 d2] 33)).obj (h2.obj O1.out id) id); have K2 := Lib.hid h2; clear h2)
  go_ret
  exact ⟨rfl, ((K1.out.alloc _).thenNo K2.out).alloc _⟩

theorem small_any {n : Nat} {f : FT n} {R : Nat → Prop} {w : World} {cs : List Value} (h : (formV n) R w cs f) :
    Calls Try.prog 8 #[.agg cs.toArray] w fun e w' => ∃ q, e = .returned (.bool q) ∧ Chg No w w' := by
  have hg := formV_good n
  obtain ⟨kd, c, A, tl, cap, B, kl, capk, rfl⟩ := form_shape h
  have HL := Lib.hid (fun W (hc : Chg No w W) => lightF_any n f R W _ (hg.no h hc) 1500 200 (by omega) (by omega) (by omega) (by omega))
  clear h
  go_enter Try.func8, Try.ntmps8
  go_wp2_with (go_at_call 20; refine (HL.out _ ((Chg.refl _ _).alloc _)).mono ?_; rintro e w1 ⟨m, rfl, _, _, h1⟩)
  go_ret
  exact ⟨_, rfl, ((Chg.refl _ _).alloc _).thenNo h1⟩
end Go.Proofs.Ytlejcnbpodmleaa
