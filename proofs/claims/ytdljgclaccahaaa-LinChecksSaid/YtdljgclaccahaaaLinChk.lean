/-
  The walks over LinChecks and LinValues: each returns true and changes nothing.
-/
import Derived.Test.YtdljgclaccahaaaLinUp
namespace Go.Proofs.Ytdljgclaccahaaa
open Go Go.RowKit

theorem eqlCode (a b : Int) (W : World) : (binOp .eql 27 (.iface 43 (.int .i64 a)) (.iface 43 (.int .i64 b))).run Try.prog W = .ok (.bool (a == b)) W := by
  obtain ⟨i, hi, hc⟩ := errInfo
  exact run_eql_iface_ints W a b Try.underlying27 Try.underlying43 hi hc

set_option maxRecDepth 100000 in
set_option maxHeartbeats 2000000 in
theorem linChecks_walk {w : World} (c : Int) {A : Option Addr} {t : List Mono} {cap : Nat} (ht : Monos (Old w) w A t cap) :
    Calls Try.prog 5 #[.agg #[.int .i64 c, .slice A t.length cap]] w fun e w' => e = .returned (.bool true) ∧ Chg No w w' := by
  have HU := Lib.hid (fun W => up_any W)
  have HC := Lib.hid (fun W (h : Chg No w W) => linCheck_any c (ht.no monoE_good h))
  have HR := Lib.hid (fun W (h : Chg No w W) => ref01Check_any c (ht.no monoE_good h))
  have HG := Lib.hid (fun W (h : Chg No w W) => linGcd_any (c := c) (ht.no monoE_good h))
  have HGr := fun hk => Lib.hid (fun W (h : Chg No w W) => ref01Gcd_any (c := c) (ht.no monoE_good h) hk)
  have he := eqlCode
  have hbx : Hid (Chg No w (w.alloc (.cells #[.int .i64 c, .slice A t.length cap] 25)) ∧ (w.alloc (.cells #[.int .i64 c, .slice A t.length cap] 25)).heap[w.heap.size]? = some (.cells #[.int .i64 c, .slice A t.length cap] 25 (0, 0))) := ⟨(Chg.refl _ _).alloc _, heap_alloc_new _ _⟩
  clear ht
  cases hB : linB c t
  · rw [hB] at HC HR HG
    rw [show (if false = true then (0 : Int) else 5) = 5 from rfl, errV_of _ (by decide)] at HC
    rw [show (if false = true then (gcdN t : Int) else 0) = 0 from rfl] at HG
    clear hB HGr
    go_enter Try.func5, Try.ntmps5
    go_wp2_with (first
      | (go_at_call 9; refine (HU.out _).mono ?_; rintro e w1 ⟨rfl, h1⟩; have H1 := Lib.hid (hbx.out.1.thenNo h1); obtain ⟨a0, a1, af0, af1⟩ := obj_two (h1.obj hbx.out.2 id); have O1 := Lib.hid (h1.obj hbx.out.2 id); clear h1)
      | (go_at_call 17; refine (HC.out _ H1.out).mono ?_; rintro e w2 ⟨rfl, h2⟩; have H2 := Lib.hid (H1.out.thenNo h2); obtain ⟨b0, b1, bf0, bf1⟩ := obj_two (h2.obj O1.out id); have O2 := Lib.hid (h2.obj O1.out id); clear h2)
      | (go_at_call 18; refine (HR.out _ H2.out).mono ?_; rintro e w3 ⟨rfl, h3⟩; have H3 := Lib.hid (H2.out.thenNo h3); obtain ⟨c0, c1, cf0, cf1⟩ := obj_two (h3.obj O2.out id); clear h3)
      | (go_at_call 19; refine (HG.out _ H3.out).mono ?_; rintro e w4 ⟨rfl, h4⟩; have H4 := Lib.hid (H3.out.thenNo h4); clear h4))
    go_ret
    exact ⟨rfl, H4.out⟩
  · have HGr' := HGr (linB_coef hB)
    rw [hB] at HC HR HG
    rw [show (if true = true then (0 : Int) else 5) = 0 from rfl, errV_zero] at HC
    rw [show (if true = true then (gcdN t : Int) else 0) = (gcdN t : Int) from rfl] at HG
    generalize gcdN t = g at *
    clear hB HGr
    go_enter Try.func5, Try.ntmps5
    go_wp2_with (first
      | (go_at_call 9; refine (HU.out _).mono ?_; rintro e w1 ⟨rfl, h1⟩; have H1 := Lib.hid (hbx.out.1.thenNo h1); obtain ⟨a0, a1, af0, af1⟩ := obj_two (h1.obj hbx.out.2 id); have O1 := Lib.hid (h1.obj hbx.out.2 id); clear h1)
      | (go_at_call 17; refine (HC.out _ H1.out).mono ?_; rintro e w2 ⟨rfl, h2⟩; have H2 := Lib.hid (H1.out.thenNo h2); obtain ⟨b0, b1, bf0, bf1⟩ := obj_two (h2.obj O1.out id); have O2 := Lib.hid (h2.obj O1.out id); clear h2)
      | (go_at_call 18; refine (HR.out _ H2.out).mono ?_; rintro e w3 ⟨rfl, h3⟩; have H3 := Lib.hid (H2.out.thenNo h3); obtain ⟨c0, c1, cf0, cf1⟩ := obj_two (h3.obj O2.out id); clear h3))
    have l0 := cell_later c0
    have l1 := cell_later c1
    have HGl : Hid (∀ d os, _) := fun d os => Calls.later_of (HG.out (later w3 d os) (H3.out.thenNo (chg_later w3 d os)))
    have HGrl : Hid (∀ d os, _) := fun d os => Calls.later_of (HGr'.out (later w3 d os) (H3.out.thenNo (chg_later w3 d os)))
    refine wp_region_later (by kernel_rfl) (by kernel_rfl) ?_
    repeat (quiet_step ((first | (go_at_call 19; exact HGl.out _ _) | (go_at_call 20; exact HGrl.out _ _))))
    refine wpQuiet_nil ?_
    intro _ hw'
    obtain ⟨⟨dq, osq⟩, hw''⟩ := hw'
    subst hw''
    go_wp2
    go_ret
    exact ⟨rfl, H3.out.thenNo (chg_later w3 dq osq)⟩
end Go.Proofs.Ytdljgclaccahaaa
