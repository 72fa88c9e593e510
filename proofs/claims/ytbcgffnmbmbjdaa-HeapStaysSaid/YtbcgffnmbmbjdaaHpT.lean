/-
  Chapter 17: the statements HeapJoins and HeapChecks walked.
-/
import Derived.Test.YtbcgffnmbmbjdaaHpS
import Derived.Test.YtbcgffnmbmbjdaaCode
namespace Go.Proofs.Ytbcgffnmbmbjdaa
open Go Go.RowKit

theorem eqlCode (a b : Int) (W : World) : (binOp .eql 30 (.iface 33 (.int .i64 a)) (.iface 33 (.int .i64 b))).run Try.prog W = .ok (.bool (a == b)) W := by
  obtain ⟨i, hi, hc⟩ := errInfo
  exact run_eql_iface_ints W a b Try.underlying30 Try.underlying33 hi hc
theorem neqCode (a b : Int) (W : World) : (binOp .neq 30 (.iface 33 (.int .i64 a)) (.iface 33 (.int .i64 b))).run Try.prog W = .ok (.bool (!(a == b))) W := by
  obtain ⟨i, hi, hc⟩ := errInfo
  exact run_neq_iface_ints W a b Try.underlying30 Try.underlying33 hi hc

set_option maxRecDepth 100000 in
set_option maxHeartbeats 4000000 in
theorem heapJoins_walk {R : Nat → Prop} {w : World} {A B : Option Addr} {a b : List Tri} {ca cb : Nat} (ha : Tris R w A a ca) (hb : Tris R w B b cb) :
    Calls Try.prog 3 #[.slice A a.length ca, .slice B b.length cb] w fun e w' => e = .returned (.bool true) ∧ Chg No w w' := by
  have HU := Lib.hid (up_any w)
  have HLA := Lib.hid (fun W (h : Chg No w W) => ha.no triE_good h)
  have HLB := Lib.hid (fun W (h : Chg No w W) => hb.no triE_good h)
  have hba := ha.big
  have hbb := hb.big
  unfold big at hba hbb
  clear ha hb
  by_cases h1 : 100 < a.length
  · have d1 : decide ((100 : Int) < (a.length : Int)) = true := decide_eq_true (by omega)
    clear HLA HLB
    go_enter Try.func3, Try.ntmps3
    go_wp2_with (go_at_call 8; refine HU.out.mono ?_; rintro e w1 ⟨rfl, h2⟩; have H1 := Lib.hid h2; clear h2)
    go_ret
    exact ⟨rfl, H1.out⟩
  have d1 : decide ((100 : Int) < (a.length : Int)) = false := decide_eq_false (by omega)
  by_cases h3 : 100 < b.length
  · have d2 : decide ((100 : Int) < (b.length : Int)) = true := decide_eq_true (by omega)
    clear HLA HLB
    go_enter Try.func3, Try.ntmps3
    go_wp2_with (go_at_call 8; refine HU.out.mono ?_; rintro e w1 ⟨rfl, h2⟩; have H1 := Lib.hid h2; clear h2)
    go_ret
    exact ⟨rfl, H1.out⟩
  have d2 : decide ((100 : Int) < (b.length : Int)) = false := decide_eq_false (by omega)
  have HLEN : Hid (a.length + b.length ≤ 100000) := by unfold Hid; omega
  have HJ := Lib.hid (fun W (h : Chg No w W) => join_ref (HLA.out W h) (HLB.out W h) HLEN.out)
  have HRJ := Lib.hid (fun W (h : Chg No w W) => refJoin_any (HLA.out W h) (HLB.out W h) HLEN.out)
  have HLL : Hid ((addsS (a ++ b)).length * 32 ≤ big) := by
    have := addsS_len (a ++ b)
    rw [List.length_append] at this
    unfold Hid big
    omega
  generalize addsS (a ++ b) = J at *
  have HSM : Hid (∀ W R1 R2 A1 A2 c1 c2, Tris R1 W A1 J c1 → Tris R2 W A2 J c2 → Calls Try.prog 9 #[.slice A1 J.length c1, .slice A2 J.length c2] W fun e w' => e = .returned (.bool true) ∧ Chg No W w') := fun W R1 R2 A1 A2 c1 c2 g1 g2 => by
    have := sameShare_any g1 g2
    rwa [show decide (J = J) = true by simp] at this
  go_enter Try.func3, Try.ntmps3
  go_wp2_with (go_at_call 8; refine HU.out.mono ?_; rintro e w1 ⟨rfl, h2⟩; have H1 := Lib.hid h2; clear h2)
  go_loopw [6] (fun s6 wr => ∃ k : Nat, k ≤ a.length ∧ s6 = .int .i64 k ∧ wr = w1) (fun s6 _ => a.length - (intOf s6).toNat)
  case atStart => exact ⟨0, Nat.zero_le _, rfl, rfl⟩
  case round =>
    obtain ⟨k, hk, rfl, rfl⟩ := hrel
    by_cases hlt : k < a.length
    · obtain ⟨p, off, hA, c0, c1, c2⟩ := (HLA.out _ H1.out).tri_at k hlt
      subst hA
      generalize a[k].2.2 = z at *
      clear c0 c1
      by_cases g1 : (1099511627776 : Int) < z
      · have e1 : decide ((1099511627776 : Int) < z) = true := decide_eq_true g1
        go_wp2_with fail
        go_ret
        exact ⟨rfl, H1.out⟩
      have e1 : decide ((1099511627776 : Int) < z) = false := decide_eq_false g1
      by_cases g2 : z < -1099511627776
      · have e2 : decide (z < -1099511627776) = true := decide_eq_true g2
        go_wp2_with fail
        go_ret
        exact ⟨rfl, H1.out⟩
      have e2 : decide (z < -1099511627776) = false := decide_eq_false g2
      go_wp2_with fail
      go_roundw
      case rel => exact ⟨k + 1, hlt, by go_num, trivial⟩
      case measure => simp [intOf]; omega
    · go_wp2_with fail
      go_loopw [7] (fun s7 wr' => ∃ k : Nat, k ≤ b.length ∧ s7 = .int .i64 k ∧ wr' = wr) (fun s7 _ => b.length - (intOf s7).toNat)
      case atStart => exact ⟨0, Nat.zero_le _, rfl, rfl⟩
      case round =>
        clear hlt hk
        obtain ⟨k, hk, rfl, rfl⟩ := hrel
        by_cases hlt : k < b.length
        · obtain ⟨p, off, hA, c0, c1, c2⟩ := (HLB.out _ H1.out).tri_at k hlt
          subst hA
          generalize b[k].2.2 = z at *
          clear c0 c1
          by_cases g1 : (1099511627776 : Int) < z
          · have e1 : decide ((1099511627776 : Int) < z) = true := decide_eq_true g1
            go_wp2_with fail
            go_ret
            exact ⟨rfl, H1.out⟩
          have e1 : decide ((1099511627776 : Int) < z) = false := decide_eq_false g1
          by_cases g2 : z < -1099511627776
          · have e2 : decide (z < -1099511627776) = true := decide_eq_true g2
            go_wp2_with fail
            go_ret
            exact ⟨rfl, H1.out⟩
          have e2 : decide (z < -1099511627776) = false := decide_eq_false g2
          go_wp2_with fail
          go_roundw
          case rel => exact ⟨k + 1, hlt, by go_num, trivial⟩
          case measure => simp [intOf]; omega
        · go_wp2_with (first
            | (go_at_call 10; refine (HJ.out _ H1.out).mono ?_; rintro e w2 ⟨A2, c2, rfl, g1, g2⟩; have G1 := Lib.hid (g1.tris HLL.out); have G2 := Lib.hid (H1.out.thenNo g2); clear g1 g2)
            | (go_at_call 11; refine (HRJ.out _ G2.out).mono ?_; rintro e w3 ⟨A3, c3, rfl, g1, g2⟩; have G3 := Lib.hid (g1.tris HLL.out); have G4 := Lib.hid (G2.out.thenNo g2); have G5 := Lib.hid (G1.out.no triE_good g2); clear g1 g2)
            | (go_at_call 9; refine (HSM.out _ _ _ _ _ _ _ G5.out G3.out).mono ?_; rintro e w4 ⟨rfl, g1⟩; have G6 := Lib.hid (G4.out.thenNo g1); clear g1))
          go_ret
          exact ⟨rfl, G6.out⟩

set_option maxRecDepth 100000 in
set_option maxHeartbeats 4000000 in
theorem heapChecks_walk {R : Nat → Prop} {w : World} {A : Option Addr} {l : List Tri} {cap : Nat} (hl : Tris R w A l cap) :
    Calls Try.prog 4 #[.slice A l.length cap] w fun e w' => e = .returned (.bool true) ∧ Chg No w w' := by
  have HU := Lib.hid (up_any w)
  have he := eqlCode
  have HC := Lib.hid (fun W (h : Chg No w W) => check_any (hl.no triE_good h))
  have HR := Lib.hid (fun W (h : Chg No w W) => refCheck_any (hl.no triE_good h))
  have hb := hl.big
  unfold big at hb
  clear hl
  by_cases h1 : 2000 < l.length
  · have d1 : decide ((2000 : Int) < (l.length : Int)) = true := decide_eq_true (by omega)
    clear HC HR
    go_enter Try.func4, Try.ntmps4
    go_wp2_with (go_at_call 8; refine HU.out.mono ?_; rintro e w1 ⟨rfl, h2⟩; have H1 := Lib.hid h2; clear h2)
    go_ret
    exact ⟨rfl, H1.out⟩
  have d1 : decide ((2000 : Int) < (l.length : Int)) = false := decide_eq_false (by omega)
  cases hh : heapB l
  case' false => rw [hh, show heapV false = .iface 33 (.int .i64 5) from rfl] at HC
  case' true => rw [hh, show heapV true = .nilIface from rfl] at HC
  all_goals
    rw [hh] at HR
    clear hh
    go_enter Try.func4, Try.ntmps4
    go_wp2_with (first
      | (go_at_call 8; refine HU.out.mono ?_; rintro e w1 ⟨rfl, h2⟩; have H1 := Lib.hid h2; clear h2)
      | (go_at_call 12; refine (HC.out _ H1.out).mono ?_; rintro e w2 ⟨rfl, h2⟩; have H2 := Lib.hid (H1.out.thenNo h2); clear h2)
      | (go_at_call 13; refine (HR.out _ H2.out).mono ?_; rintro e w3 ⟨rfl, h2⟩; have H3 := Lib.hid (H2.out.thenNo h2); clear h2))
    go_ret
    exact ⟨rfl, H3.out⟩
end Go.Proofs.Ytbcgffnmbmbjdaa
