/-
  Chapter 17: heap.Check. (Its arms printed by a program.)
-/
import Derived.Test.YtgofncopoieigaaGreatDoorHpB
import Derived.Test.YtgofncopoieigaaGreatDoorMA
import Derived.Deep.LoopGhost
namespace Go.Proofs.YtgofncopoieigaaGreatDoor
open Go Go.RowKit

def tZ : Tri := (0, ByteArray.empty, 0)
def ltT (x y : Tri) : Bool := ltK x.1 x.2.1 y.1 y.2.1
def okT (m : Tri) : Bool := decide (1 ≤ m.1) && decide (m.1 ≤ 4294967296) && decide (-4294967296 ≤ m.2.2) && decide (m.2.2 ≤ 4294967296)
def fineT (l : List Tri) (i : Nat) : Bool := okT (l.getD i tZ) && (decide (i = 0) || ltT (l.getD (i - 1) tZ) (l.getD i tZ))
/-- Are cells a sound heap? -/
def heapB (l : List Tri) : Bool := (List.range l.length).all (fineT l)
theorem heapB_no {l : List Tri} {i : Nat} (hi : i < l.length) (h : fineT l i = false) : heapB l = false := by
  unfold heapB
  rw [List.all_eq_false]
  exact ⟨i, List.mem_range.2 hi, by rw [h]; simp⟩
theorem heapB_yes {l : List Tri} (h : ∀ i, i < l.length → fineT l i = true) : heapB l = true := by
  unfold heapB
  rw [List.all_eq_true]
  exact fun i hi => h i (List.mem_range.1 hi)
theorem getD_at {l : List Tri} {i : Nat} (hi : i < l.length) : l.getD i tZ = l[i] := by rw [List.getD_eq_getElem?_getD, List.getElem?_eq_getElem hi]; rfl
def heapV (b : Bool) : Value := if b = true then .nilIface else .iface 70 (.int .i64 5)
theorem okT_no {m : Tri} (h : m.1 < 1 ∨ 4294967296 < m.1 ∨ m.2.2 < -4294967296 ∨ 4294967296 < m.2.2) : okT m = false := by
  unfold okT
  rcases h with h | h | h | h
  · rw [decide_eq_false (show ¬ 1 ≤ m.1 by omega)]; simp
  · rw [decide_eq_false (show ¬ m.1 ≤ 4294967296 by omega)]; simp
  · rw [decide_eq_false (show ¬ -4294967296 ≤ m.2.2 by omega)]; simp
  · rw [decide_eq_false (show ¬ m.2.2 ≤ 4294967296 by omega)]; simp
theorem okT_yes {m : Tri} (h1 : ¬ m.1 < 1) (h2 : ¬ 4294967296 < m.1) (h3 : ¬ m.2.2 < -4294967296) (h4 : ¬ 4294967296 < m.2.2) : okT m = true := by
  unfold okT
  simp only [Bool.and_eq_true, decide_eq_true_eq]
  omega

set_option maxRecDepth 100000 in
set_option maxHeartbeats 8000000 in
theorem hpCheck_any {R : Nat → Prop} {w : World} {A : Option Addr} {l : List Tri} {cap : Nat} (hl : Tris R w A l cap) :
    Calls Tryz.prog 23 #[.slice A l.length cap] w fun e w' => e = .returned (heapV (heapB l)) ∧ Chg No w w' := by
  have hb := hl.big
  unfold big at hb
  have HL := Lib.hid (fun W (h : Chg No w W) => hl.no triE_good h)
  have HOR := Lib.hid order_any
  clear hl
  go_enter Tryz.func23, Tryz.ntmps23
  go_upto_region 2 with fail
  go_loopw [7] (fun s7 wr => ∃ k : Nat, k ≤ l.length ∧ s7 = .int .i64 k ∧ Hid (Chg No w wr) ∧ Hid (∀ j, j < k → fineT l j = true)) (fun s7 _ => l.length - (intOf s7).toNat)
  case atStart => exact ⟨0, Nat.zero_le _, rfl, Chg.refl _ _, fun j h => absurd h (Nat.not_lt_zero _)⟩
  case round =>
    obtain ⟨k, hk, rfl, HC, HF⟩ := hrel
    by_cases hlt : k < l.length
    · obtain ⟨b, o, hA, c0, c1, c2⟩ := (HL.out wr HC.out).tri_at k hlt
      have HNO : Hid (fineT l k = false → heapV (heapB l) = .iface 70 (.int .i64 5)) := fun h => by rw [heapB_no hlt h]; rfl
      have HFI : Hid (fineT l k = (okT l[k] && (decide (k = 0) || ltT (l.getD (k - 1) tZ) l[k]))) := by unfold fineT; rw [getD_at hlt]; rfl
      have HNX : Hid (fineT l k = true → ∀ j, j < k + 1 → fineT l j = true) := fun h j hj => by
        rcases Nat.lt_or_ge j k with g | g
        · exact HF.out j g
        · obtain rfl : j = k := by omega
          exact h
      have HPV : Hid (0 < k → ∃ m' : Tri, l.getD (k - 1) tZ = m' ∧ wr.cell? ⟨b, o + (k - 1) * 3, none⟩ = some (.int .i64 m'.1) ∧ wr.cell? ⟨b, o + (k - 1) * 3 + 1, none⟩ = some (.string m'.2.1) ∧ wr.cell? ⟨b, o + (k - 1) * 3 + 2, none⟩ = some (.int .i64 m'.2.2)) := fun h => by
        obtain ⟨b', o', e, d0, d1, d2⟩ := (HL.out wr HC.out).tri_at (k - 1) (by omega)
        rw [hA] at e
        simp only [Option.some.injEq, Addr.mk.injEq, and_true] at e
        obtain ⟨rfl, rfl⟩ := e
        exact ⟨_, getD_at (by omega), d0, d1, d2⟩
      subst hA
      generalize l[k] = m at *
      go_upto_region 4 with fail
      obtain ⟨wA, hwA⟩ : ∃ wA, wA = wr.alloc (.cells #[.int .i64 m.1, .string m.2.1, .int .i64 m.2.2] 67) := ⟨_, rfl⟩
      obtain ⟨q, hq⟩ : ∃ q, q = wr.heap.size := ⟨_, rfl⟩
      have hch : Chg No wr wA := by rw [hwA]; exact (Chg.refl _ _).alloc _
      have hob : wA.heap[q]? = some (.cells #[.int .i64 m.1, .string m.2.1, .int .i64 m.2.2] 67 (0, 0)) := by rw [hwA, hq]; exact heap_alloc_new _ _
      have HCA : Hid (Chg No w wA) := HC.out.thenNo hch
      have HCH := Lib.hid hch
      rw [← hwA, ← hq]
      clear hwA hq hch c0 c1 c2
      have n0 : ∀ d os, (later wA d os).cell? ⟨q, 0, none⟩ = some (.int .i64 m.1) := fun d os => cell_later (by simp [World.cell?, hob]) d os
      have n1 : ∀ d os, (later wA d os).cell? ⟨q, 1, none⟩ = some (.string m.2.1) := fun d os => cell_later (by simp [World.cell?, hob]) d os
      have n2 : ∀ d os, (later wA d os).cell? ⟨q, 2, none⟩ = some (.int .i64 m.2.2) := fun d os => cell_later (by simp [World.cell?, hob]) d os
      clear hob
      by_cases h1 : m.1 < 1
      · have hv := HNO.out (by rw [HFI.out, okT_no (by omega)]; rfl)
        have hd0 : decide (m.1 < 1) = true := decide_eq_true (by omega)
        clear HNO HFI HNX HPV HL HF
        refine wp_region_later (by kernel_rfl) (by kernel_rfl) ?_
        repeat (go_big_quiet_step (fail))
        refine wpQuiet_nil ?_
        intro _ hw'
        obtain ⟨⟨dq, osq⟩, hw''⟩ := hw'
        subst hw''
        go_wp2_with fail
        go_ret
        exact ⟨by first | rfl | (rw [hv]; rfl) | rw [hv], HCA.out.thenNo (chg_later wA dq osq)⟩
      by_cases h2 : (4294967296 : Int) < m.1
      · have hv := HNO.out (by rw [HFI.out, okT_no (by omega)]; rfl)
        have hd0 : decide (m.1 < 1) = false := decide_eq_false (by omega)
        have hd1 : decide ((4294967296 : Int) < m.1) = true := decide_eq_true (by omega)
        clear HNO HFI HNX HPV HL HF
        refine wp_region_later (by kernel_rfl) (by kernel_rfl) ?_
        repeat (go_big_quiet_step (fail))
        refine wpQuiet_nil ?_
        intro _ hw'
        obtain ⟨⟨dq, osq⟩, hw''⟩ := hw'
        subst hw''
        go_wp2_with fail
        go_ret
        exact ⟨by first | rfl | (rw [hv]; rfl) | rw [hv], HCA.out.thenNo (chg_later wA dq osq)⟩
      by_cases h3 : m.2.2 < -4294967296
      · have hv := HNO.out (by rw [HFI.out, okT_no (by omega)]; rfl)
        have hd0 : decide (m.1 < 1) = false := decide_eq_false (by omega)
        have hd1 : decide ((4294967296 : Int) < m.1) = false := decide_eq_false (by omega)
        have hd2 : decide (m.2.2 < -4294967296) = true := decide_eq_true (by omega)
        clear HNO HFI HNX HPV HL HF
        refine wp_region_later (by kernel_rfl) (by kernel_rfl) ?_
        repeat (go_big_quiet_step (fail))
        refine wpQuiet_nil ?_
        intro _ hw'
        obtain ⟨⟨dq, osq⟩, hw''⟩ := hw'
        subst hw''
        go_wp2_with fail
        go_ret
        exact ⟨by first | rfl | (rw [hv]; rfl) | rw [hv], HCA.out.thenNo (chg_later wA dq osq)⟩
      by_cases h4 : (4294967296 : Int) < m.2.2
      · have hv := HNO.out (by rw [HFI.out, okT_no (by omega)]; rfl)
        have hd0 : decide (m.1 < 1) = false := decide_eq_false (by omega)
        have hd1 : decide ((4294967296 : Int) < m.1) = false := decide_eq_false (by omega)
        have hd2 : decide (m.2.2 < -4294967296) = false := decide_eq_false (by omega)
        have hd3 : decide ((4294967296 : Int) < m.2.2) = true := decide_eq_true (by omega)
        clear HNO HFI HNX HPV HL HF
        refine wp_region_later (by kernel_rfl) (by kernel_rfl) ?_
        repeat (go_big_quiet_step (fail))
        refine wpQuiet_nil ?_
        intro _ hw'
        obtain ⟨⟨dq, osq⟩, hw''⟩ := hw'
        subst hw''
        go_wp2_with fail
        go_ret
        exact ⟨by first | rfl | (rw [hv]; rfl) | rw [hv], HCA.out.thenNo (chg_later wA dq osq)⟩
      have hok := okT_yes h1 h2 h3 h4
      have hd0 : decide (m.1 < 1) = false := decide_eq_false (by omega)
      have hd1 : decide ((4294967296 : Int) < m.1) = false := decide_eq_false (by omega)
      have hd2 : decide (m.2.2 < -4294967296) = false := decide_eq_false (by omega)
      have hd3 : decide ((4294967296 : Int) < m.2.2) = false := decide_eq_false (by omega)
      by_cases hk0 : k = 0
      · have HX := Lib.hid (HNX.out (by rw [HFI.out, hok, decide_eq_true hk0]; rfl))
        subst hk0
        have hdk : decide ((0 : Int) < ((0 : Nat) : Int)) = false := by decide
        have hdk2 : decide ((0 : Int) < 0) = false := by decide
        clear HNO HFI HNX HPV HL HF
        refine wp_region_later (by kernel_rfl) (by kernel_rfl) ?_
        repeat (go_big_quiet_step (fail))
        refine wpQuiet_nil ?_
        intro _ hw'
        obtain ⟨⟨dq, osq⟩, hw''⟩ := hw'
        subst hw''
        go_wp2_with fail
        go_roundw
        case rel => exact ⟨0 + 1, hlt, by go_num, HCA.out.thenNo (chg_later wA dq osq), HX.out⟩
        case measure => simp [intOf]; omega
      · obtain ⟨m', hm', d0, d1, d2⟩ := HPV.out (by omega)
        rw [hm'] at HFI
        obtain ⟨t, rfl⟩ : ∃ t, k = t + 1 := ⟨k - 1, by omega⟩
        rw [Nat.add_sub_cancel] at d0 d1 d2
        have p0 : ∀ d os, (later wA d os).cell? ⟨b, o + t * 3, none⟩ = some (.int .i64 m'.1) := fun d os => cell_later (HCH.out.cell d0 id) d os
        have p1 : ∀ d os, (later wA d os).cell? ⟨b, o + t * 3 + 1, none⟩ = some (.string m'.2.1) := fun d os => cell_later (HCH.out.cell d1 id) d os
        have p2 : ∀ d os, (later wA d os).cell? ⟨b, o + t * 3 + 2, none⟩ = some (.int .i64 m'.2.2) := fun d os => cell_later (HCH.out.cell d2 id) d os
        have hdk : decide ((0 : Int) < ((t + 1 : Nat) : Int)) = true := decide_eq_true (by omega)
        have hdk2 : decide ((0 : Int) < (t : Int) + 1) = true := decide_eq_true (by omega)
        have HCO : Hid (∀ d os, _) := fun d os => Calls.later_of (HOR.out m' m (later wA d os))
        clear d0 d1 d2 HPV HL HF hm'
        cases hlt2 : ltT m' m
        · have hv := HNO.out (by rw [HFI.out, hok, hlt2, decide_eq_false hk0]; rfl)
          have hge : ¬ ordK m'.1 m'.2.1 m.1 m.2.1 < 0 := fun h => by
            have := ordK_neg.1 h
            rw [show ltT m' m = ltK m'.1 m'.2.1 m.1 m.2.1 from rfl, this] at hlt2; cases hlt2
          generalize ordK m'.1 m'.2.1 m.1 m.2.1 = r at *
          have hdr : decide (0 ≤ r) = true := decide_eq_true (by omega)
          clear HNO HFI HNX hlt2 hk0
          refine wp_region_later (by kernel_rfl) (by kernel_rfl) ?_
          repeat (go_big_quiet_step ((go_at_call 39; exact HCO.out _ _)))
          refine wpQuiet_nil ?_
          intro _ hw'
          obtain ⟨⟨dq, osq⟩, hw''⟩ := hw'
          subst hw''
          go_wp2_with fail
          go_ret
          exact ⟨by first | rfl | (rw [hv]; rfl) | rw [hv], HCA.out.thenNo (chg_later wA dq osq)⟩
        · have HX := Lib.hid (HNX.out (by rw [HFI.out, hok, hlt2, decide_eq_false hk0]; rfl))
          have hge : ordK m'.1 m'.2.1 m.1 m.2.1 < 0 := ordK_neg.2 hlt2
          generalize ordK m'.1 m'.2.1 m.1 m.2.1 = r at *
          have hdr : decide (0 ≤ r) = false := decide_eq_false (by omega)
          clear HNO HFI HNX hlt2 hk0
          refine wp_region_later (by kernel_rfl) (by kernel_rfl) ?_
          repeat (go_big_quiet_step ((go_at_call 39; exact HCO.out _ _)))
          refine wpQuiet_nil ?_
          intro _ hw'
          obtain ⟨⟨dq, osq⟩, hw''⟩ := hw'
          subst hw''
          go_wp2_with fail
          go_roundw
          case rel => exact ⟨t + 1 + 1, hlt, by go_num, HCA.out.thenNo (chg_later wA dq osq), HX.out⟩
          case measure => simp [intOf]; omega
    · have hv : heapV (heapB l) = .nilIface := by rw [heapB_yes (fun i hi => HF.out i (by omega))]; rfl
      go_wp2
      go_ret
      exact ⟨by first | rfl | (rw [hv]; rfl) | rw [hv], HC.out⟩
end Go.Proofs.YtgofncopoieigaaGreatDoor
