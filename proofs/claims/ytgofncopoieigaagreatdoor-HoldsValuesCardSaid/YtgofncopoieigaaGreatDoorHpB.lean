/-
  Chapter 17: cmp.Or, heap.order.
-/
import Derived.Test.YtgofncopoieigaaGreatDoorHpA
import Derived.StillTailTactics
namespace Go.Proofs.YtgofncopoieigaaGreatDoor
open Go Go.RowKit

theorem or_any (x y : Int) (b : Nat) (w : World) (h0 : w.cell? ⟨b, 0, none⟩ = some (.int .i64 x)) (h1 : w.cell? ⟨b, 1, none⟩ = some (.int .i64 y)) :
    Calls Tryz.prog 59 #[.slice (some ⟨b, 0, none⟩) 2 2] w fun e w' => e = .returned (.int .i64 (if x ≠ 0 then x else y)) ∧ w = w' := by
  by_cases hx : x = 0
  · rw [if_neg (by omega)]
    have hx' : (x != 0) = false := by simpa using hx
    by_cases hy : y = 0
    · subst hy
      have hy' : ((0 : Int) != 0) = false := rfl
      subst hx
      go_enter Tryz.func59, Tryz.ntmps59
      go_upto_region 3 with fail
      refine wp_loop_rounds 3 ?_
      rw [rounds_succ]
      go_wp2
      rw [rounds_succ]
      go_wp2
      rw [rounds_succ]
      go_wp2
      go_ret
      exact ⟨rfl, rfl⟩
    · have hy' : (y != 0) = true := by simpa using hy
      go_enter Tryz.func59, Tryz.ntmps59
      go_upto_region 3 with fail
      refine wp_loop_rounds 3 ?_
      rw [rounds_succ]
      go_wp2
      rw [rounds_succ]
      go_wp2
      go_ret
      exact ⟨rfl, rfl⟩
  · rw [if_pos hx]
    have hx' : (x != 0) = true := by simpa using hx
    go_enter Tryz.func59, Tryz.ntmps59
    go_upto_region 3 with fail
    refine wp_loop_rounds 3 ?_
    rw [rounds_succ]
    go_wp2
    go_ret
    exact ⟨rfl, rfl⟩
theorem orNew_any (x y : Int) (w : World) :
    Calls Tryz.prog 59 #[.slice (some ⟨w.heap.size, 0, none⟩) 2 2] (w.alloc (.cells #[.int .i64 x, .int .i64 y] 3)) fun e w' => e = .returned (.int .i64 (if x ≠ 0 then x else y)) ∧ w.alloc (.cells #[.int .i64 x, .int .i64 y] 3) = w' := by
  have h := heap_alloc_new w (.cells #[.int .i64 x, .int .i64 y] 3)
  generalize w.alloc (.cells #[.int .i64 x, .int .i64 y] 3) = W at *
  exact or_any x y _ W (by simp [World.cell?, h]) (by simp [World.cell?, h])

set_option maxRecDepth 100000 in
set_option maxHeartbeats 4000000 in
theorem order_any (x y : Tri) (w : World) : Calls Tryz.prog 39 #[.agg #[.int .i64 x.1, .string x.2.1, .int .i64 x.2.2], .agg #[.int .i64 y.1, .string y.2.1, .int .i64 y.2.2]] w fun e w' => e = .returned (.int .i64 (ordK x.1 x.2.1 y.1 y.2.1)) ∧ Chg No w w' := by
  obtain ⟨a, f, v⟩ := x
  obtain ⟨b, g, u⟩ := y
  have HI := Lib.hid cmpI_any
  have HS := Lib.hid cmpS_any
  have HO := Lib.hid (orNew_any (cmpZ a b) (cmpS f g))
  show Calls Tryz.prog 39 #[.agg #[.int .i64 a, .string f, .int .i64 v], .agg #[.int .i64 b, .string g, .int .i64 u]] w fun e w' => e = .returned (.int .i64 (ordK a f b g)) ∧ Chg No w w'
  have HK : Hid ((if cmpZ a b ≠ 0 then cmpZ a b else cmpS f g) = ordK a f b g) := rfl
  rw [HK.out] at HO
  generalize ordK a f b g = r at *
  generalize hz : cmpZ a b = cz at *
  generalize hs : cmpS f g = cs at *
  have HZ : Hid (∀ W, Calls Tryz.prog 60 #[.int .i64 a, .int .i64 b] W fun e w' => e = .returned (.int .i64 cz) ∧ w' = W) := fun W => (HI.out a b W).mono (fun e w' ⟨h1, h2⟩ => ⟨by rw [h1, hz], h2.symm⟩)
  have HT : Hid (∀ W, Calls Tryz.prog 61 #[.string f, .string g] W fun e w' => e = .returned (.int .i64 cs) ∧ w' = W) := fun W => (HS.out f g W).mono (fun e w' ⟨h1, h2⟩ => ⟨by rw [h1, hs], h2.symm⟩)
  clear HK HI HS hz hs
  go_enter Tryz.func39, Tryz.ntmps39
  go_upto_region 1 with fail
  obtain ⟨W, hW⟩ : ∃ W, W = (w.alloc (.cells #[.int .i64 a, .string f, .int .i64 v] 67)).alloc (.cells #[.int .i64 b, .string g, .int .i64 u] 67) := ⟨_, rfl⟩
  have HCH : Hid (Chg No w W.drew) := by rw [hW]; exact (((Chg.refl _ _).alloc _).alloc _).drew
  have hb1 : W.drew.heap[w.heap.size]? = some (.cells #[.int .i64 a, .string f, .int .i64 v] 67 (0, 0)) := by rw [hW]; exact at_old (at_new rfl)
  have hb2 : W.drew.heap[w.heap.size + 1]? = some (.cells #[.int .i64 b, .string g, .int .i64 u] 67 (0, 0)) := by rw [hW]; exact at_new (by show _ = (w.heap.push _).size; rw [Array.size_push])
  rw [← hW]
  clear hW
  refine wp_region_still_tail 10 (by kernel_rfl) (by kernel_rfl) ?_
  change wpStill _ _ W.drew _ _ _
  obtain ⟨W2, hW2⟩ : ∃ W2, W2 = W.drew := ⟨_, rfl⟩
  have HW2 := Lib.hid hW2
  rw [← hW2] at hb1 hb2 HCH ⊢
  clear hW2
  obtain ⟨p, hp⟩ : ∃ p, p = w.heap.size := ⟨_, rfl⟩
  have hc1 : W2.cell? ⟨p, 0, none⟩ = some (.int .i64 a) := by rw [hp]; simp only [World.cell?, hb1]; rfl
  have hc2 : W2.cell? ⟨p, 1, none⟩ = some (.string f) := by rw [hp]; simp only [World.cell?, hb1]; rfl
  have hc3 : W2.cell? ⟨p + 1, 0, none⟩ = some (.int .i64 b) := by rw [hp]; simp only [World.cell?, hb2]; rfl
  have hc4 : W2.cell? ⟨p + 1, 1, none⟩ = some (.string g) := by rw [hp]; simp only [World.cell?, hb2]; rfl
  rw [← hp]
  clear hb1 hb2 hp
  simp only [List.take_succ_cons, List.take_zero, List.drop_succ_cons, List.drop_zero]
  repeat still_step
  still_call (HZ.out _)
  repeat still_step
  still_call (HT.out _)
  refine wpStill_nil ?_
  change wpList _ _ _ _ _ W.drew
  rw [← HW2.out]
  clear hc1 hc2 hc3 hc4 HZ HT HW2
  go_wp2_with (go_at_call 59; refine (HO.out W2).mono ?_; rintro e w3 ⟨rfl, rfl⟩)
  go_ret
  exact ⟨rfl, HCH.out.alloc _⟩
end Go.Proofs.YtgofncopoieigaaGreatDoor
