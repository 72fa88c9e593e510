/-
  The reference's Times and Add.
-/
import Derived.Test.YtpmndblakmobdaaDoorLinD
import Derived.Test.YtpmndblakmobdaaDoorLater
import Derived.Deep.RegionLaw
namespace Go.Proofs.YtpmndblakmobdaaDoor
open Go Go.RowKit

/-- A call returns a slice of terms in new memory. -/
def MonosRet (w : World) (l : List Mono) (e : Ending) (w' : World) : Prop :=
  ∃ v, e = .returned v ∧ OMonos (fun k => w.heap.size ≤ k) w' v l ∧ Chg No w w'

set_option maxRecDepth 100000 in
set_option maxHeartbeats 4000000 in
theorem ref01Times_any {R : Nat → Prop} {w : World} (c : Int) {A : Option Addr} {t : List Mono} {cap : Nat} (ht : Monos R w A t cap) (x : Int) (hlen : t.length ≤ 100000) (hm : ∀ m ∈ t, -4611686018427387904 ≤ x * m.2 ∧ x * m.2 ≤ 4611686018427387904) :
    Calls Tryd.prog 35 #[.agg #[.int .i64 c, .slice A t.length cap], .int .i64 x] w (MonosRet w (scale x t)) := by
  have HT := Lib.hid (fun W (h : Chg No w W) => ht.no monoE_good h)
  have HM := Lib.hid hm
  clear ht hm
  have h3 : Hid (Chg No w (w.alloc (.cells #[.int .i64 c, .slice A t.length cap] 36)) ∧ (w.alloc (.cells #[.int .i64 c, .slice A t.length cap] 36)).heap[w.heap.size]? = some (.cells #[.int .i64 c, .slice A t.length cap] 36 (0, 0)) ∧ w.heap.size < (w.alloc (.cells #[.int .i64 c, .slice A t.length cap] 36)).heap.size) := ⟨(Chg.refl _ _).alloc _, heap_alloc_new _ _, by simp⟩
  go_enter Tryd.func35, Tryd.ntmps35
  go_wp2
  generalize w.alloc (.cells #[.int .i64 c, .slice A t.length cap] 36) = w3 at *
  obtain ⟨w4, rfl⟩ : ∃ w4 : World, w4 = w3 := ⟨_, rfl⟩
  go_loopw [5, 6] (fun s5 s6 wr => ∃ (k : Nat) (v : Value), s5 = v ∧ s6 = .int .i64 k ∧ k ≤ t.length ∧ Hid (Chg No w4 wr) ∧ Hid (OMonos (fun q => w4.heap.size ≤ q) wr v (scale x (t.take k)))) (fun _ s6 _ => t.length - (intOf s6).toNat)
  case atStart => exact ⟨0, .slice none 0 0, rfl, rfl, Nat.zero_le _, Chg.refl _ _, OwnL.nil _ _ _ _ _⟩
  case round =>
    obtain ⟨k, v, rfl, rfl, hkl, hch, hown⟩ := hrel
    obtain ⟨p0, p1, _, _⟩ := obj_two (hch.out.obj h3.out.2.1 id)
    by_cases hlt : k < t.length
    · obtain ⟨b, o, rfl, hx0, hx1⟩ := (HT.out wr (h3.out.1.thenNo hch.out)).mono_at k hlt
      have i0 : (0 : Int) ≤ (k : Int) := by omega
      have i1 : (k : Int) < (t.length : Int) := by omega
      have HST := Lib.hid (scale_take (x := x) hlt)
      obtain ⟨m1, m2⟩ := HM.out _ (List.getElem_mem hlt)
      have HVI := Lib.hid ((HT.out wr (h3.out.1.thenNo hch.out)).mono_ok k hlt).1
      have hsl : (scale x (t.take k)).length ≤ 100000 := by rw [scale_len, List.length_take]; omega
      generalize scale x (t.take k) = L at *
      generalize t[k].1 = vv at *
      generalize t[k].2 = kk at *
      have hzr : w4.heap.size ≤ wr.heap.size := hch.out.size
      have hwm : IntKind.i64.wrap (x * kk) = x * kk := by rw [IntKind.wrap_i64]; omega
      have HG : Hid (∀ w7 A2 cap2, OMonos (fun q => w4.heap.size ≤ q) w7 (.slice A2 (L.length + 1) cap2) (L ++ [(vv, x * kk)]) → Chg (fun q => u5.ownBlock = some q) wr w7 → Hid (Chg No w4 w7) ∧ Hid (OMonos (fun q => w4.heap.size ≤ q) w7 (.slice A2 (L.length + 1) cap2) (L ++ [(vv, x * kk)]))) := fun w7 A2 cap2 g1 g2 =>
        ⟨hch.out.trans g2 (fun q hq hlt => by have := (hown.out.mine _ hq).1; omega), g1⟩
      go_wp2
      go_region_law
        ((refine step_pushL monoV_good monosTy (by rfl) (.tmp 14) (.tmp 30) (by rfl) (M := fun q => w4.heap.size ≤ q) (R := No) (w := wr) (fun q hq => by omega) hown.out (by rfl) (mono_of (m := (vv, x * kk)) HVI.out (I64.of (show -9000000000000000000 ≤ x * kk by omega) (show x * kk ≤ 9000000000000000000 by omega))) (by simp [Value.oneCell']) (((Chg.refl No wr).drewN _).alloc (.cells #[.int .i64 vv, .int .i64 (x * kk)] 55)) (news_alloc _ [.int .i64 vv, .int .i64 (x * kk)] 55) (by rfl) (show (L.length + 1) * 16 ≤ 140737488355328 by omega) ?_; intro A2 cap2 w7 g1 g2; obtain ⟨G2, G1⟩ := HG.out w7 A2 cap2 g1 g2; clear g1 g2))
      all_goals
        go_wp2
        go_roundw
        case rel => exact ⟨k + 1, _, rfl, by go_num, hlt, G2, by rw [HST.out]; exact G1⟩
        case measure => simp [intOf]; omega
    · obtain rfl : k = t.length := by omega
      rw [List.take_of_length_le (Nat.le_refl _)] at hown
      go_wp2
      go_ret
      exact ⟨_, rfl, hown.out.mono monoV_good (fun q _ h => by have := h3.out.2.2; omega) (fun _ _ f => f), h3.out.1.thenNo hch.out⟩
end Go.Proofs.YtpmndblakmobdaaDoor
