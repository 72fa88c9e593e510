/-
  The walk over LinValues: it returns true and changes nothing.
-/
import Derived.Test.YtdljgclaccahaaaLinUp
namespace Go.Proofs.Ytdljgclaccahaaa
open Go Go.RowKit

theorem linVal_err (c : Int) (t : List Mono) (vs : List Int) : 0 ≤ (linVal c t vs).2 ∧ (linVal c t vs).2 ≤ 16 := by
  unfold linVal
  split
  · split <;> simp
  · simp

set_option maxRecDepth 100000 in
set_option maxHeartbeats 2000000 in
theorem linValues_walk {w : World} (c : Int) {A : Option Addr} {t : List Mono} {cap : Nat} (ht : Monos (Old w) w A t cap) (c' : Int) {A' : Option Addr} {t' : List Mono} {cap' : Nat} (ht' : Monos (Old w) w A' t' cap') {B : Option Addr} {vs : List Int} {cap2 : Nat} (hv : Ints (Old w) w B vs cap2) :
    Calls Try.prog 4 #[.agg #[.int .i64 c, .slice A t.length cap], .agg #[.int .i64 c', .slice A' t'.length cap'], .slice B vs.length cap2] w fun e w' => e = .returned (.bool true) ∧ Chg No w w' := by
  have HU := Lib.hid (fun W => up_any W)
  have HV := Lib.hid (fun W (h : Chg No w W) => linValue_any c (ht.no monoE_good h) (hv.no intE_good h))
  have HR := Lib.hid (fun W (h : Chg No w W) => ref01Value_any c (ht.no monoE_good h) (hv.no intE_good h))
  have HS := Lib.hid (fun W (h : Chg No w W) => linSame_any (c := c) (c' := c') (ht.no monoE_good h) (ht'.no monoE_good h))
  have HSr := Lib.hid (fun W (h : Chg No w W) => ref01Same_any (c := c) (c' := c') (ht.no monoE_good h) (ht'.no monoE_good h))
  have HSs : Hid (∀ W (h : Chg No w W), Calls Try.prog 16 #[.agg #[.int .i64 c, .slice A t.length cap], .agg #[.int .i64 c, .slice A t.length cap]] W fun e w' => e = .returned (.bool true) ∧ Chg No W w') := fun W h => by
    have := linSame_any (c := c) (c' := c) (ht.no monoE_good h) (ht.no monoE_good h)
    simpa using this
  have HCd := Lib.hid (fun W => code_any W (linVal c t vs).2 (linVal_err c t vs).1 (linVal_err c t vs).2)
  have hbx : Hid (Chg No w ((w.alloc (.cells #[.int .i64 c, .slice A t.length cap] 25)).alloc (.cells #[.int .i64 c', .slice A' t'.length cap'] 25)) ∧ ((w.alloc (.cells #[.int .i64 c, .slice A t.length cap] 25)).alloc (.cells #[.int .i64 c', .slice A' t'.length cap'] 25)).heap[w.heap.size]? = some (.cells #[.int .i64 c, .slice A t.length cap] 25 (0, 0))
      ∧ ((w.alloc (.cells #[.int .i64 c, .slice A t.length cap] 25)).alloc (.cells #[.int .i64 c', .slice A' t'.length cap'] 25)).heap[w.heap.size + 1]? = some (.cells #[.int .i64 c', .slice A' t'.length cap'] 25 (0, 0))) := ⟨((Chg.refl _ _).alloc _).alloc _, at_old (heap_alloc_new _ _), at_new (by simp)⟩
  clear ht ht' hv
  generalize linVal c t vs = r at *
  generalize decide (c = c' ∧ t = t') = s at *
  go_enter Try.func4, Try.ntmps4
  go_wp2_with (first
    | (go_at_call 9; refine (HU.out _).mono ?_; rintro e w1 ⟨rfl, h1⟩; have H1 := Lib.hid (hbx.out.1.thenNo h1); obtain ⟨a0, a1, af0, af1⟩ := obj_two (h1.obj hbx.out.2.1 id); have O1 := Lib.hid (h1.obj hbx.out.2.1 id); have P1 := Lib.hid (h1.obj hbx.out.2.2 id); clear h1)
    | (go_at_call 14; refine (HV.out _ H1.out).mono ?_; rintro e w2 ⟨rfl, h2⟩; have H2 := Lib.hid (H1.out.thenNo h2); obtain ⟨b0, b1, bf0, bf1⟩ := obj_two (h2.obj O1.out id); have O2 := Lib.hid (h2.obj O1.out id); have P2 := Lib.hid (h2.obj P1.out id); clear h2)
    | (go_at_call 15; refine (HR.out _ H2.out).mono ?_; rintro e w3 ⟨rfl, h3⟩; have H3 := Lib.hid (H2.out.thenNo h3); obtain ⟨c0, c1, cf0, cf1⟩ := obj_two (h3.obj O2.out id); obtain ⟨d0, d1, df0, df1⟩ := obj_two (h3.obj P2.out id); clear h3))
  have l0 := cell_later c0
  have l1 := cell_later c1
  have m0 := cell_later d0
  have m1 := cell_later d1
  have HSl : Hid (∀ d os, _) := fun d os => Calls.later_of (HS.out (later w3 d os) (H3.out.thenNo (chg_later w3 d os)))
  have HSsl : Hid (∀ d os, _) := fun d os => Calls.later_of (HSs.out (later w3 d os) (H3.out.thenNo (chg_later w3 d os)))
  have HSrl : Hid (∀ d os, _) := fun d os => Calls.later_of (HSr.out (later w3 d os) (H3.out.thenNo (chg_later w3 d os)))
  have HCl : Hid (∀ d os, _) := fun d os => Calls.later_same (HCd.out (later w3 d os))
  refine wp_region_later (by kernel_rfl) (by kernel_rfl) ?_
  repeat (quiet_step ((first | (go_at_call 13; exact HCl.out _ _) | (go_at_call 12; exact HSrl.out _ _) | (go_at_call 16; with_reducible exact HSl.out _ _) | (go_at_call 16; with_reducible exact HSsl.out _ _))))
  refine wpQuiet_nil ?_
  intro _ hw'
  obtain ⟨⟨dq, osq⟩, hw''⟩ := hw'
  subst hw''
  go_wp2
  go_ret
  exact ⟨rfl, H3.out.thenNo (chg_later w3 dq osq)⟩
end Go.Proofs.Ytdljgclaccahaaa
