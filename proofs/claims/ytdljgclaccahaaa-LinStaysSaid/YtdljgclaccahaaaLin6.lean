/-
  The reference's Value.
-/
import Derived.Test.YtdljgclaccahaaaLin5
namespace Go.Proofs.Ytdljgclaccahaaa
open Go Go.RowKit

set_option maxRecDepth 100000 in
set_option maxHeartbeats 2000000 in
theorem ref01Value_any {R R' : Nat → Prop} {w : World} {A A' : Option Addr} (c : Int) {t : List Mono} {vs : List Int} {cap cap' : Nat} (ht : Monos R w A t cap) (hv : Ints R' w A' vs cap') :
    Calls Try.prog 15 #[.agg #[.int .i64 c, .slice A t.length cap], .slice A' vs.length cap'] w fun e w' => e = .returned (.tuple #[.int .i64 (linVal c t vs).1, .int .i64 (linVal c t vs).2]) ∧ Chg No w w' := by
  have HT := Lib.hid (fun W (h : Chg No w W) => ht.no monoE_good h)
  have HO := Lib.hid (fun W (h : Chg No w W) n hn => ref01Of_any (hv.no intE_good h) n hn)
  have HC := Lib.hid (fun W (h : Chg No w W) => ref01Check_any c (ht.no monoE_good h))
  have hb := ht.big
  have hb' := hv.big
  unfold big at hb hb'
  clear ht hv
  cases hB : linB c t
  · rw [hB] at HC
    rw [show linVal c t vs = (0, 5) by unfold linVal; rw [hB]; rfl]
    simp only
    clear hB
    go_enter Try.func15, Try.ntmps15
    go_wp2_with (go_at_call 18; refine (HC.out _ ((Chg.refl _ _).alloc _)).mono ?_; rintro e w1 ⟨rfl, h1⟩)
    go_ret2
    exact ⟨rfl, ((Chg.refl _ _).alloc _).thenNo h1⟩
  · rw [hB] at HC
    have V := Lib.hid (valWay (vs := vs) hB)
    generalize linVal c t vs = r at *
    clear hB
    have hcw : Hid (Chg No w (w.alloc (.cells #[.int .i64 c, .slice A t.length cap] 25))) := (Chg.refl _ _).alloc _
    have hbx : Hid ((w.alloc (.cells #[.int .i64 c, .slice A t.length cap] 25)).cell? ⟨w.heap.size, 1, none⟩ = some (.slice A t.length cap)) := by unfold Hid; simp
    have hbc : Hid ((w.alloc (.cells #[.int .i64 c, .slice A t.length cap] 25)).cell? ⟨w.heap.size, 0, none⟩ = some (.int .i64 c)) := by unfold Hid; simp
    go_enter Try.func15, Try.ntmps15
    go_wp2_with (go_at_call 18; refine (HC.out _ hcw.out).mono ?_; rintro e w1 ⟨rfl, h1⟩; have hbx1 := h1.cell hbx.out id; have hbc1 := h1.cell hbc.out id; have hc1 := Lib.hid (hcw.out.thenNo h1); clear h1 hcw hbx hbc)
    have hbx := Lib.hid hbx1
    clear hbx1 hbc1
    obtain ⟨w0, rfl⟩ : ∃ w0 : World, w0 = w1 := ⟨_, rfl⟩
    go_loopw [7, 8] (fun g s wr => ∃ (k : Nat) (u : Int), k ≤ t.length ∧ g = .int .i64 u ∧ s = .int .i64 k ∧ Hid (u = c + val (valOf vs) (t.take k)) ∧ Hid (Chg No w0 wr) ∧ Hid (∀ i (hi : i < t.length), i < k → farB (valOf vs t[i].1) = false)) (fun _ s _ => t.length - (intOf s).toNat)
    case atStart => exact ⟨0, c, Nat.zero_le _, rfl, rfl, by unfold Hid; simp [val_nil], Chg.refl _ _, fun i _ h => absurd h (Nat.not_lt_zero i)⟩
    case round =>
      obtain ⟨k, u, hkl, rfl, rfl, hu, hch, hgd⟩ := hrel
      have hbx1 := hch.out.cell hbx.out id
      by_cases hlt : k < t.length
      · obtain ⟨b, o, rfl, hx0, hx1⟩ := (HT.out wr (hc1.out.thenNo hch.out)).mono_at k hlt
        have i0 : (0 : Int) ≤ (k : Int) := by omega
        have i1 : (k : Int) < (t.length : Int) := by omega
        obtain ⟨n, hn, hnb⟩ := V.out.var k hlt
        obtain ⟨hk1, hk2⟩ := V.out.k1 k hlt
        have hpb := part_bound V.out hkl hgd.out
        rw [← hu.out] at hpb
        obtain ⟨hu1, hu2⟩ := hpb
        have Hbad := Lib.hid (V.out.bad k hlt)
        have Hst := Lib.hid (val_take (f := valOf vs) hlt)
        have Hnew : Hid (farB (valOf vs t[k].1) = false → ∀ i (hi : i < t.length), i < k + 1 → farB (valOf vs t[i].1) = false) := fun e i h1 h3 => by
          rcases Nat.lt_succ_iff_lt_or_eq.1 h3 with h | rfl
          · exact hgd.out i h1 h
          · exact e
        rw [hn] at Hbad Hst Hnew hx0
        generalize t[k].2 = kk at *
        clear hn
        have HV := Lib.hid (HO.out wr (hc1.out.thenNo hch.out) n (by omega))
        obtain ⟨x, hx⟩ : ∃ x, x = valOf vs (n : Int) := ⟨_, rfl⟩
        rw [← hx] at Hbad Hst Hnew HV
        have HMB := Lib.hid (fun h3 h4 => mul_bound (b := x) hk1 hk2 h3 h4)
        clear hgd hx
        rcases farB_cases x with ⟨hf, hd2⟩ | ⟨hf, hd2, hd3⟩ | ⟨hf, hd2, hd3, hx4, hx5⟩
        · obtain rfl : r = (0, 1) := Hbad.out hf
          clear hf
          go_wp2_with (go_at_call 30; refine HV.out.mono ?_; rintro e w2 ⟨rfl, rfl⟩)
          go_ret2
          exact ⟨rfl, hc1.out.thenNo hch.out⟩
        · obtain rfl : r = (0, 1) := Hbad.out hf
          clear hf
          go_wp2_with (go_at_call 30; refine HV.out.mono ?_; rintro e w2 ⟨rfl, rfl⟩)
          go_ret2
          exact ⟨rfl, hc1.out.thenNo hch.out⟩
        · obtain ⟨hp1, hp2⟩ := HMB.out hx4 hx5
          rw [Int.mul_comm] at hp1 hp2 Hst
          have Hn := Lib.hid (Hnew.out hf)
          clear hf hx4 hx5
          go_wp2_with (go_at_call 30; refine HV.out.mono ?_; rintro e w2 ⟨rfl, rfl⟩)
          go_roundw
          case rel => exact ⟨k + 1, _, hlt, rfl, by go_num, by unfold Hid; rw [Hst.out, hu.out]; omega, hch, Hn.out⟩
          case measure => simp [intOf]; omega
      · obtain rfl : k = t.length := by omega
        obtain rfl := V.out.good (fun i hi => hgd.out i hi hi)
        have hu' := hu.out
        clear hu
        subst hu'
        go_wp2
        go_ret2
        exact ⟨rfl, hc1.out.thenNo hch.out⟩
end Go.Proofs.Ytdljgclaccahaaa
