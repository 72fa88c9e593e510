/-
  The document's examples at the head of layer 8.
-/
import Derived.Test.YtiklknilnmkbmaaSatJ
namespace Go.Proofs.Ytiklknilnmkbmaa
open Go Go.RowKit

theorem i64_small {x : Int} (h : -1000 ≤ x ∧ x ≤ 1000) : I64 x := I64.of (by omega) (by omega)
theorem two_of {vs : List Bool} (h : (vs.length : Int) = 2) : ∃ a b, vs = [a, b] := by
  match vs with
  | [] => simp at h
  | [a] => simp at h
  | [a, b] => exact ⟨a, b, rfl⟩
  | a :: b :: c :: l => simp at h; omega
theorem small_of {cl : List (List Int)} (h : cl.all (fun c => decide (c.length ≤ 100)) = true) : ∀ c ∈ cl, c.length ≤ 100 := fun c hc => of_decide_eq_true (List.all_eq_true.1 h c hc)

theorem solve_ex1 (w : World) : Calls Try.prog 8 #[.int .i64 2, .slice (some ⟨w.heap.size + 3, 0, none⟩) 3 3, .int .i64 1000]
    ((((w.alloc (.cells #[.int .i64 1, .int .i64 2] 3)).alloc (.cells #[.int .i64 (-1)] 3)).alloc (.cells #[.int .i64 (-2)] 3)).alloc (.cells #[.slice (some ⟨w.heap.size, 0, none⟩) 2 2, .slice (some ⟨w.heap.size + 1, 0, none⟩) 1 1, .slice (some ⟨w.heap.size + 2, 0, none⟩) 1 1] 40))
    fun e w' => ∃ A1 n1 c1 A2 n2 c2, e = .returned (.tuple #[.agg #[.int .i64 2, .slice A1 n1 c1, .slice A2 n2 c2], .nilIface]) ∧ Chg No w w' := by
  generalize hW : (((w.alloc (.cells #[.int .i64 1, .int .i64 2] 3)).alloc (.cells #[.int .i64 (-1)] 3)).alloc (.cells #[.int .i64 (-2)] 3)).alloc (.cells #[.slice (some ⟨w.heap.size, 0, none⟩) 2 2, .slice (some ⟨w.heap.size + 1, 0, none⟩) 1 1, .slice (some ⟨w.heap.size + 2, 0, none⟩) 1 1] 40) = W
  have h0 : W.heap[w.heap.size]? = some (.cells #[.int .i64 1, .int .i64 2] 3) := by subst hW; repeat (first | exact at_new (by simp) | apply at_old)
  have h1 : W.heap[w.heap.size + 1]? = some (.cells #[.int .i64 (-1)] 3) := by subst hW; repeat (first | exact at_new (by simp) | apply at_old)
  have h2 : W.heap[w.heap.size + 2]? = some (.cells #[.int .i64 (-2)] 3) := by subst hW; repeat (first | exact at_new (by simp) | apply at_old)
  have h3 : W.heap[w.heap.size + 3]? = some (.cells #[.slice (some ⟨w.heap.size, 0, none⟩) 2 2, .slice (some ⟨w.heap.size + 1, 0, none⟩) 1 1, .slice (some ⟨w.heap.size + 2, 0, none⟩) 1 1] 40) := by subst hW; repeat (first | exact at_new (by simp) | apply at_old)
  have hc : Chg No w W := by rw [← hW]; exact ((((Chg.refl _ _).alloc _).alloc _).alloc _).alloc _
  have hcl : Rows2 (fun _ => True) W (some ⟨w.heap.size + 3, 0, none⟩) [[1, 2], [-1], [-2]] 3 := rows_of_block (V := [.slice (some ⟨w.heap.size, 0, none⟩) 2 2, .slice (some ⟨w.heap.size + 1, 0, none⟩) 1 1, .slice (some ⟨w.heap.size + 2, 0, none⟩) 1 1]) h3 trivial (by decide) rfl (fun i hi hi' => by
    have : i = 0 ∨ i = 1 ∨ i = 2 := by simp at hi; omega
    rcases this with rfl | rfl | rfl
    · exact ⟨_, 2, rfl, ints_of_block (l := [1, 2]) h0 trivial (by decide) (fun x hx => i64_small (by simp at hx; omega))⟩
    · exact ⟨_, 1, rfl, ints_of_block (l := [-1]) h1 trivial (by decide) (fun x hx => i64_small (by simp at hx; omega))⟩
    · exact ⟨_, 1, rfl, ints_of_block (l := [-2]) h2 trivial (by decide) (fun x hx => i64_small (by simp at hx; omega))⟩)
  refine (solve_any 2 hcl 1000 (by decide)).mono ?_
  rintro e w' ⟨kind, st, vs, c, AS, cs, AV, cv, hs, rfl, _, _, hch⟩
  have hk : chk 2 [[1, 2], [-1], [-2]] = 0 := by decide
  rcases hs with ⟨h, _⟩ | ⟨_, _, _, _, _, h⟩ | ⟨_, _, _, _, _, h, hl⟩ | ⟨_, rfl, _, rfl, _, _⟩
  · exact absurd hk h
  · exact absurd (enough_small hk (by decide) (by decide) (small_of (by decide)) (by decide)) h
  · obtain ⟨a, b, rfl⟩ := two_of hl
    exact absurd h (by cases a <;> cases b <;> decide)
  · exact ⟨_, _, _, _, _, _, rfl, hc.thenNo hch⟩

theorem solve_ex2 (w : World) : Calls Try.prog 8 #[.int .i64 2, .slice (some ⟨w.heap.size + 2, 0, none⟩) 2 2, .int .i64 1000]
    (((w.alloc (.cells #[.int .i64 1, .int .i64 2] 3)).alloc (.cells #[.int .i64 (-1)] 3)).alloc (.cells #[.slice (some ⟨w.heap.size, 0, none⟩) 2 2, .slice (some ⟨w.heap.size + 1, 0, none⟩) 1 1] 40))
    fun e w' => ∃ A1 n1 c1 b o c, e = .returned (.tuple #[.agg #[.int .i64 1, .slice A1 n1 c1, .slice (some ⟨b, o, none⟩) 2 c], .nilIface]) ∧ w'.cell? ⟨b, o + 1, none⟩ = some (.bool true) ∧ Chg No w w' := by
  generalize hW : ((w.alloc (.cells #[.int .i64 1, .int .i64 2] 3)).alloc (.cells #[.int .i64 (-1)] 3)).alloc (.cells #[.slice (some ⟨w.heap.size, 0, none⟩) 2 2, .slice (some ⟨w.heap.size + 1, 0, none⟩) 1 1] 40) = W
  have h0 : W.heap[w.heap.size]? = some (.cells #[.int .i64 1, .int .i64 2] 3) := by subst hW; repeat (first | exact at_new (by simp) | apply at_old)
  have h1 : W.heap[w.heap.size + 1]? = some (.cells #[.int .i64 (-1)] 3) := by subst hW; repeat (first | exact at_new (by simp) | apply at_old)
  have h3 : W.heap[w.heap.size + 2]? = some (.cells #[.slice (some ⟨w.heap.size, 0, none⟩) 2 2, .slice (some ⟨w.heap.size + 1, 0, none⟩) 1 1] 40) := by subst hW; repeat (first | exact at_new (by simp) | apply at_old)
  have hc : Chg No w W := by rw [← hW]; exact (((Chg.refl _ _).alloc _).alloc _).alloc _
  have hcl : Rows2 (fun _ => True) W (some ⟨w.heap.size + 2, 0, none⟩) [[1, 2], [-1]] 2 := rows_of_block (V := [.slice (some ⟨w.heap.size, 0, none⟩) 2 2, .slice (some ⟨w.heap.size + 1, 0, none⟩) 1 1]) h3 trivial (by decide) rfl (fun i hi hi' => by
    have : i = 0 ∨ i = 1 := by simp at hi; omega
    rcases this with rfl | rfl
    · exact ⟨_, 2, rfl, ints_of_block (l := [1, 2]) h0 trivial (by decide) (fun x hx => i64_small (by simp at hx; omega))⟩
    · exact ⟨_, 1, rfl, ints_of_block (l := [-1]) h1 trivial (by decide) (fun x hx => i64_small (by simp at hx; omega))⟩)
  refine (solve_any 2 hcl 1000 (by decide)).mono ?_
  rintro e w' ⟨kind, st, vs, c, AS, cs, AV, cv, hs, rfl, _, hb, hch⟩
  have hk : chk 2 [[1, 2], [-1]] = 0 := by decide
  rcases hs with ⟨h, _⟩ | ⟨_, _, _, _, _, h⟩ | ⟨_, rfl, _, rfl, _, h, hl⟩ | ⟨_, _, _, _, _, h, _⟩
  · exact absurd hk h
  · exact absurd (enough_small hk (by decide) (by decide) (small_of (by decide)) (by decide)) h
  · obtain ⟨a, b, rfl⟩ := two_of hl
    obtain ⟨b', o, rfl, hx⟩ := hb.bool_at 1 (by simp)
    have hbt : b = true := by
      revert h
      cases a <;> cases b <;> decide
    subst hbt
    exact ⟨_, _, _, b', o, _, rfl, hx, hc.thenNo hch⟩
  · exact absurd h (never (vs := [false, true]) (by decide) (by decide))

set_option maxHeartbeats 1000000 in
theorem up_any (w : World) : Calls Try.prog 6 #[] w fun e w' => e = .returned (.bool true) ∧ Chg No w w' := by
  have H1 := Lib.hid (solve_ex1 w)
  have H2 := Lib.hid solve_ex2
  go_enter Try.func6, Try.ntmps6
  go_upto_region 2 with (go_at_call 8; refine H1.out.mono ?_; rintro e w1 ⟨A1, n1, c1, A2, n2, c2, rfl, hc1⟩; have HC1 := Lib.hid hc1; clear hc1)
  clear H1
  obtain ⟨W2, hW2⟩ : ∃ W2, W2 = w1.alloc (.cells #[.int .i64 2, .slice A1 n1 c1, .slice A2 n2 c2] 27) := ⟨_, rfl⟩
  obtain ⟨p, hp⟩ : ∃ p, p = w1.heap.size := ⟨_, rfl⟩
  have HO : Hid (W2.heap[p]? = some (.cells #[.int .i64 2, .slice A1 n1 c1, .slice A2 n2 c2] 27 (0, 0)) ∧ Chg No w W2) := by
    rw [hW2, hp]; exact ⟨heap_alloc_new _ _, HC1.out.alloc _⟩
  have H3 : Hid (Calls Try.prog 8 #[.int .i64 2, .slice (some ⟨W2.heap.size + 1 + 1, 0, none⟩) 2 2, .int .i64 1000]
    (((W2.alloc (.cells #[.int .i64 1, .int .i64 2] 3)).alloc (.cells #[.int .i64 (-1)] 3)).alloc (.cells #[.slice (some ⟨W2.heap.size, 0, none⟩) 2 2, .slice (some ⟨W2.heap.size + 1, 0, none⟩) 1 1] 40))
    fun e w' => ∃ A1 n1 c1 b o c, e = .returned (.tuple #[.agg #[.int .i64 1, .slice A1 n1 c1, .slice (some ⟨b, o, none⟩) 2 c], .nilIface]) ∧ w'.cell? ⟨b, o + 1, none⟩ = some (.bool true) ∧ w'.cell? ⟨p, 0, none⟩ = some (.int .i64 2) ∧ Hid (Chg No w w')) :=
    (H2.out W2).mono (by
      rintro e w' ⟨A1, n1, c1, b, o, c, rfl, hb, hch⟩
      have hx := hch.obj HO.out.1 id
      exact ⟨_, _, _, b, o, c, rfl, hb, by simp [World.cell?, hx], HO.out.2.thenNo hch⟩)
  clear H2 HO HC1
  rw [← hW2, ← hp]
  clear hW2 hp
  go_upto_region 3 with (go_at_call 8; refine H3.out.mono ?_; rintro e w2 ⟨A3, n3, c3, b, o, c, rfl, hb, hx, HC2⟩)
  clear H3
  obtain ⟨w3, hw3⟩ : ∃ w3, w3 = w2.alloc (.cells #[.int .i64 1, .slice A3 n3 c3, .slice (some ⟨b, o, none⟩) 2 c] 27) := ⟨_, rfl⟩
  obtain ⟨q, hq⟩ : ∃ q, q = w2.heap.size := ⟨_, rfl⟩
  have HC3 : Hid (Chg No w w3) := by rw [hw3]; exact HC2.out.alloc _
  obtain ⟨hx, hb⟩ : w3.cell? ⟨p, 0, none⟩ = some (.int .i64 2) ∧ w3.cell? ⟨b, o + 1, none⟩ = some (.bool true) := by
    have h : Chg No w2 w3 := by rw [hw3]; exact (Chg.refl _ _).alloc _
    exact ⟨h.cell hx id, h.cell hb id⟩
  have ho : w3.heap[q]? = some (.cells #[.int .i64 1, .slice A3 n3 c3, .slice (some ⟨b, o, none⟩) 2 c] 27 (0, 0)) := by rw [hw3, hq]; exact heap_alloc_new _ _
  obtain ⟨⟨r0, r1, r2⟩, rf⟩ := obj_three ho
  rw [← hw3, ← hq]
  clear hw3 hq ho HC2
  go_wp2
  go_ret
  exact ⟨rfl, HC3.out⟩
end Go.Proofs.Ytiklknilnmkbmaa
