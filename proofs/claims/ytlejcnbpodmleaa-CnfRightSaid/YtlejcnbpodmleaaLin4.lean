/-
  lin.Gcd and the reference's; lin.Value and the reference's.
-/
import Derived.Test.YtlejcnbpodmleaaLin3
namespace Go.Proofs.Ytlejcnbpodmleaa
open Go Go.RowKit

set_option maxRecDepth 100000 in
set_option maxHeartbeats 1000000 in
theorem ref01Gcd_any {R : Nat → Prop} {w : World} {A : Option Addr} {c : Int} {t : List Mono} {cap : Nat} (ht : Monos R w A t cap) (hk : ∀ m ∈ t, m.2.natAbs ≤ 1073741824) :
    Calls Try.prog 65 #[.agg #[.int .i64 c, .slice A t.length cap]] w fun e w' => e = .returned (.int .i64 (gcdN t)) ∧ Chg No w w' := by
  have HT := Lib.hid (fun W (h : Chg No w W) => ht.no monoE_good h)
  have hb := ht.big
  unfold big at hb
  have HK := Lib.hid hk
  clear ht hk
  have hcw : Hid (Chg No w (w.alloc (.cells #[.int .i64 c, .slice A t.length cap] 24))) := (Chg.refl _ _).alloc _
  have hbx : Hid ((w.alloc (.cells #[.int .i64 c, .slice A t.length cap] 24)).cell? ⟨w.heap.size, 1, none⟩ = some (.slice A t.length cap)) := by unfold Hid; simp
  go_enter Try.func65, Try.ntmps65
  go_wp2
  obtain ⟨w0, hw0⟩ : ∃ w0, w0 = w.alloc (.cells #[.int .i64 c, .slice A t.length cap] 24) := ⟨_, rfl⟩
  rw [← hw0] at hcw hbx ⊢
  clear hw0
  go_loopw [3, 4] (fun g s wr => ∃ k : Nat, k ≤ t.length ∧ g = .int .i64 (gcdN (t.take k)) ∧ s = .int .i64 k ∧ Hid (Chg No w0 wr)) (fun _ s _ => t.length - (intOf s).toNat)
  case atStart => exact ⟨0, Nat.zero_le _, rfl, rfl, Chg.refl _ _⟩
  case round =>
    obtain ⟨k, hkl, rfl, rfl, hch⟩ := hrel
    have hbx1 := hch.out.cell hbx.out id
    by_cases hlt : k < t.length
    · obtain ⟨b, o, rfl, hx0, hx1⟩ := (HT.out wr (hcw.out.thenNo hch.out)).mono_at k hlt
      have i0 : (0 : Int) ≤ (k : Int) := by omega
      have i1 : (k : Int) < (t.length : Int) := by omega
      have hm := HK.out _ (List.getElem_mem hlt)
      have HG := Lib.hid (gcdN_take hlt)
      have hg : gcdN (t.take k) ≤ 1073741824 := gcdN_le (fun m h => HK.out m (List.mem_of_mem_take h))
      generalize hkk : t[k].2 = kk at *
      have HC := Lib.hid (fun W => two_any (gcdN (t.take k)) kk W hg (by omega) (by omega))
      generalize gcdN (t.take k) = g at *
      clear hkk hm
      go_wp2_with (go_at_call 75; refine (HC.out _).mono ?_; rintro e w' ⟨rfl, rfl⟩)
      go_roundw
      case rel => exact ⟨k + 1, hlt, by rw [HG.out], by go_num, hch⟩
      case measure => simp [intOf]; omega
    · go_wp2
      go_ret
      exact ⟨by rw [List.take_of_length_le (by omega)]; rfl, hcw.out.thenNo hch.out⟩

set_option maxRecDepth 100000 in
set_option maxHeartbeats 2000000 in
theorem linGcd_any {R : Nat → Prop} {w : World} {A : Option Addr} {c : Int} {t : List Mono} {cap : Nat} (ht : Monos R w A t cap) :
    Calls Try.prog 73 #[.agg #[.int .i64 c, .slice A t.length cap]] w fun e w' => e = .returned (.int .i64 (if linB c t = true then (gcdN t : Int) else 0)) ∧ Chg No w w' := by
  have HT := Lib.hid (fun W (h : Chg No w W) => ht.no monoE_good h)
  have HC := Lib.hid (fun W (h : Chg No w W) => linCheck_any c (ht.no monoE_good h))
  have hb := ht.big
  unfold big at hb
  clear ht
  cases hB : linB c t
  · rw [hB] at HC
    rw [show (if false = true then (0 : Int) else 5) = 5 from rfl, show errV 43 5 = .iface 43 (.int .i64 5) by simp [errV]] at HC
    rw [show (if false = true then (gcdN t : Int) else 0) = 0 from rfl]
    clear hB
    go_enter Try.func73, Try.ntmps73
    go_wp2_with (go_at_call 68; refine (HC.out _ ((Chg.refl _ _).alloc _)).mono ?_; rintro e w1 ⟨rfl, h1⟩)
    go_ret
    exact ⟨rfl, ((Chg.refl _ _).alloc _).thenNo h1⟩
  · rw [hB] at HC
    rw [show (if true = true then (0 : Int) else 5) = 0 from rfl, show errV 43 0 = .nilIface by simp [errV]] at HC
    rw [show (if true = true then (gcdN t : Int) else 0) = (gcdN t : Int) from rfl]
    have HK := Lib.hid (linB_coef hB)
    clear hB
    have hcw : Hid (Chg No w (w.alloc (.cells #[.int .i64 c, .slice A t.length cap] 24))) := (Chg.refl _ _).alloc _
    have hbx : Hid ((w.alloc (.cells #[.int .i64 c, .slice A t.length cap] 24)).cell? ⟨w.heap.size, 1, none⟩ = some (.slice A t.length cap)) := by unfold Hid; simp
    go_enter Try.func73, Try.ntmps73
    go_wp2_with (go_at_call 68; refine (HC.out _ hcw.out).mono ?_; rintro e w1 ⟨rfl, h1⟩; have hbx1 := h1.cell hbx.out id; have hc1 := Lib.hid (hcw.out.thenNo h1); clear h1 hcw hbx)
    clear hbx1
    obtain ⟨w0, rfl⟩ : ∃ w0 : World, w0 = w1 := ⟨_, rfl⟩
    go_loopw [3, 14] (fun g s wr => ∃ k : Nat, k ≤ t.length ∧ g = .int .i64 (gcdN (t.take k)) ∧ s = .int .i64 k ∧ Hid (Chg No w0 wr)) (fun _ s _ => t.length - (intOf s).toNat)
    case atStart => exact ⟨0, Nat.zero_le _, rfl, rfl, Chg.refl _ _⟩
    case round =>
      obtain ⟨k, hkl, rfl, rfl, hch⟩ := hrel
      by_cases hlt : k < t.length
      · obtain ⟨b, o, rfl, hx0, hx1⟩ := (HT.out wr (hc1.out.thenNo hch.out)).mono_at k hlt
        have i0 : (0 : Int) ≤ (k : Int) := by omega
        have i1 : (k : Int) < (t.length : Int) := by omega
        have hm := HK.out _ (List.getElem_mem hlt)
        have HG := Lib.hid (gcdN_take hlt)
        have hg : gcdN (t.take k) ≤ 1073741824 := gcdN_le (fun m h => HK.out m (List.mem_of_mem_take h))
        have hokv := (HT.out wr (hc1.out.thenNo hch.out)).mono_ok k hlt
        generalize hkk : t[k].2 = kk at *
        generalize t[k].1 = vv at *
        generalize gcdN (t.take k) = g at *
        clear hkk
        have hbx2 := ((Chg.refl No wr).alloc (.cells #[.int .i64 vv, .int .i64 kk] 49)).cell hx1 id
        have hk1 : -1073741824 ≤ kk := by omega
        have hk2 : kk ≤ 1073741824 := by omega
        obtain ⟨y, hy1⟩ : ∃ y : Nat, kk.natAbs = y := ⟨_, rfl⟩
        rw [hy1] at HG
        have hy2 : y ≤ 1073741824 := by omega
        clear hm hokv
        have hcr0 : ∀ n, Hid (Chg No w0 ((wr.alloc (.cells #[.int .i64 vv, .int .i64 kk] 49)).drewN n)) := fun n => (hch.out.alloc _).drewN n
        rcases Int.lt_or_le kk 0 with hs | hs
        case' inr =>
          obtain rfl : kk = (y : Int) := by omega
        case' inl =>
          have hn : -kk = (y : Int) := by omega
          have hdm : decide ((y : Int) ≤ kk) = false := decide_eq_false (by omega)
        all_goals
          clear hy1
          go_wp2
          go_quiet (fail)
          have hcr := hcr0 nq
          clear hx0 hx1 hbx2 hch hcr0
          go_wp2
          obtain ⟨wo, rfl⟩ : ∃ wo : World, wo = wr := ⟨_, rfl⟩
          go_loopw [6, 7] (fun s6 s7 wr => ∃ x z : Nat, s6 = .int .i64 x ∧ s7 = .int .i64 z ∧ x ≤ 2147483648 ∧ z ≤ 2147483648 ∧ Hid (Nat.gcd x z = Nat.gcd g y) ∧ Hid (Chg No w0 wr)) (fun _ s7 _ => (intOf s7).toNat)
          case atStart => exact ⟨g, y, rfl, rfl, by omega, by omega, rfl, hcr⟩
          case round =>
            clear hcr
            obtain ⟨x, z, rfl, rfl, hx, hz, hgc, hch⟩ := hrel
            by_cases hz0 : 0 < z
            · have hm := Nat.mod_lt x hz0
              obtain ⟨r, hr⟩ : ∃ r, r = x % z := ⟨_, rfl⟩
              have hr2 : (x : Int) % (z : Int) = ((r : Nat) : Int) := by rw [hr]; rfl
              have hgr : Hid (Nat.gcd z r = Nat.gcd g y) := by rw [hr, mod_gcd]; exact hgc.out
              rw [← hr] at hm
              clear hr hgc
              have hzd : decide ((0 : Int) < (z : Int)) = true := decide_eq_true (by omega)
              go_wp2
              go_quiet (fail)
              go_wp2
              go_roundw
              case rel => exact ⟨z, r, rfl, by rw [hr2], by omega, by omega, hgr, hch.out.drewN _⟩
              case measure => simp [intOf]; omega
            · have hzd : decide ((0 : Int) < (z : Int)) = false := decide_eq_false (by omega)
              obtain rfl : z = 0 := by omega
              rw [Nat.gcd_zero_right] at hgc
              go_wp2
              go_roundw
              case rel => exact ⟨k + 1, hlt, by rw [HG.out, ← hgc.out], by go_num, hch⟩
              case measure => simp [intOf]; omega
      · go_wp2
        go_ret
        exact ⟨by rw [List.take_of_length_le (by omega)]; rfl, hc1.out.thenNo hch.out⟩
end Go.Proofs.Ytlejcnbpodmleaa
