/-
  The document's examples at the head of the statements of layer 6.
-/
import Derived.Test.YtcapcghaihmfeaaProp4
namespace Go.Proofs.Ytcapcghaihmfeaa
open Go Go.RowKit

theorem ex1 : Fol 2 [[-1, 2]] [1] [0, 1, 1] := by
  have d1 : Drv [[-1, 2]] [1] 1 := .lit (by simp)
  have d2 : Drv [[-1, 2]] [1] 2 := .unit (c := [-1, 2]) (by simp) (by simp) (fun m hm hne => by
    simp at hm
    rcases hm with rfl | rfl
    · exact d1
    · exact absurd rfl hne)
  refine fol_of ?_ rfl rfl (by simp) (fun l hl => ?_) (fun c hc => ?_)
  · intro l h0 hl hv
    have h3 : l.natAbs < 3 := hl
    have : l = -2 ∨ l = -1 ∨ l = 1 ∨ l = 2 := by omega
    rcases this with rfl | rfl | rfl | rfl
    · exact absurd hv (by decide)
    · exact absurd hv (by decide)
    · exact d1
    · exact d2
  · simp at hl; subst hl; exact ⟨by decide, by decide, by decide⟩
  · simp at hc; subst hc
    refine ⟨fun l hl => ?_, .inl ⟨2, by simp, by decide⟩⟩
    simp at hl
    rcases hl with rfl | rfl <;> exact ⟨by decide, by decide⟩

theorem ex2 : Confl [[-1, 2], [-2]] [1] := by
  have d1 : Drv [[-1, 2], [-2]] [1] 1 := .lit (by simp)
  have d2 : Drv [[-1, 2], [-2]] [1] 2 := .unit (c := [-1, 2]) (by simp) (by simp) (fun m hm hne => by
    simp at hm
    rcases hm with rfl | rfl
    · exact d1
    · exact absurd rfl hne)
  exact .inr ⟨[-2], by simp, fun l hl => by simp at hl; subst hl; exact d2⟩

theorem i64_small {x : Int} (h : -1000 ≤ x ∧ x ≤ 1000) : I64 x := I64.of (by omega) (by omega)

theorem follow_ex1 (w : World) : Calls Try.prog 12 #[.int .i64 2, .slice (some ⟨w.heap.size + 1, 0, none⟩) 1 1, .slice (some ⟨w.heap.size + 2, 0, none⟩) 1 1]
    (((w.alloc (.cells #[.int .i64 (-1), .int .i64 2] 3)).alloc (.cells #[.slice (some ⟨w.heap.size, 0, none⟩) 2 2] 24)).alloc (.cells #[.int .i64 1] 3))
    fun e w' => ∃ ba, e = .returned (.tuple #[.slice (some ⟨ba, 0, none⟩) 3 3, .bool false, .nilIface]) ∧ w'.heap[ba]? = some (.cells #[.int .i64 0, .int .i64 1, .int .i64 1] 3 (0, 0)) ∧ Chg No w w' := by
  generalize hW : ((w.alloc (.cells #[.int .i64 (-1), .int .i64 2] 3)).alloc (.cells #[.slice (some ⟨w.heap.size, 0, none⟩) 2 2] 24)).alloc (.cells #[.int .i64 1] 3) = W
  have h0 : W.heap[w.heap.size]? = some (.cells #[.int .i64 (-1), .int .i64 2] 3) := by subst hW; repeat (first | exact at_new (by simp) | apply at_old)
  have h1 : W.heap[w.heap.size + 1]? = some (.cells #[.slice (some ⟨w.heap.size, 0, none⟩) 2 2] 24) := by subst hW; repeat (first | exact at_new (by simp) | apply at_old)
  have h2 : W.heap[w.heap.size + 2]? = some (.cells #[.int .i64 1] 3) := by subst hW; repeat (first | exact at_new (by simp) | apply at_old)
  have hc : Chg No w W := by rw [← hW]; exact (((Chg.refl _ _).alloc _).alloc _).alloc _
  have hcl : Rows2 (fun _ => True) W (some ⟨w.heap.size + 1, 0, none⟩) [[-1, 2]] 1 := rows_of_block (V := [.slice (some ⟨w.heap.size, 0, none⟩) 2 2]) h1 trivial (by decide) rfl (fun i hi hi' => by
    obtain rfl : i = 0 := by simp at hi; omega
    exact ⟨_, 2, rfl, ints_of_block (l := [-1, 2]) h0 trivial (by decide) (fun x hx => i64_small (by simp at hx; omega))⟩)
  have hli : Ints (fun _ => True) W (some ⟨w.heap.size + 2, 0, none⟩) [1] 1 := ints_of_block (l := [1]) h2 trivial (by decide) (fun x hx => i64_small (by simp at hx; omega))
  refine (follow_good 2 hcl hli (by decide) (by decide)).mono ?_
  rintro e w' ⟨hch, ⟨_, hcf⟩ | ⟨a, ba, rfl, hf, _, hb⟩⟩
  · exact absurd hcf ex1.fine
  · obtain rfl := hf.unique ex1
    exact ⟨ba, rfl, hb, hc.thenNo hch⟩


theorem follow_ex2 (w : World) : Calls Try.prog 12 #[.int .i64 2, .slice (some ⟨w.heap.size + 2, 0, none⟩) 2 2, .slice (some ⟨w.heap.size + 3, 0, none⟩) 1 1]
    ((((w.alloc (.cells #[.int .i64 (-1), .int .i64 2] 3)).alloc (.cells #[.int .i64 (-2)] 3)).alloc (.cells #[.slice (some ⟨w.heap.size, 0, none⟩) 2 2, .slice (some ⟨w.heap.size + 1, 0, none⟩) 1 1] 24)).alloc (.cells #[.int .i64 1] 3))
    fun e w' => e = .returned (.tuple #[.slice none 0 0, .bool true, .nilIface]) ∧ Chg No w w' := by
  generalize hW : (((w.alloc (.cells #[.int .i64 (-1), .int .i64 2] 3)).alloc (.cells #[.int .i64 (-2)] 3)).alloc (.cells #[.slice (some ⟨w.heap.size, 0, none⟩) 2 2, .slice (some ⟨w.heap.size + 1, 0, none⟩) 1 1] 24)).alloc (.cells #[.int .i64 1] 3) = W
  have h0 : W.heap[w.heap.size]? = some (.cells #[.int .i64 (-1), .int .i64 2] 3) := by subst hW; repeat (first | exact at_new (by simp) | apply at_old)
  have h1 : W.heap[w.heap.size + 1]? = some (.cells #[.int .i64 (-2)] 3) := by subst hW; repeat (first | exact at_new (by simp) | apply at_old)
  have h2 : W.heap[w.heap.size + 2]? = some (.cells #[.slice (some ⟨w.heap.size, 0, none⟩) 2 2, .slice (some ⟨w.heap.size + 1, 0, none⟩) 1 1] 24) := by subst hW; repeat (first | exact at_new (by simp) | apply at_old)
  have h3 : W.heap[w.heap.size + 3]? = some (.cells #[.int .i64 1] 3) := by subst hW; repeat (first | exact at_new (by simp) | apply at_old)
  have hc : Chg No w W := by rw [← hW]; exact ((((Chg.refl _ _).alloc _).alloc _).alloc _).alloc _
  have hcl : Rows2 (fun _ => True) W (some ⟨w.heap.size + 2, 0, none⟩) [[-1, 2], [-2]] 2 := rows_of_block (V := [.slice (some ⟨w.heap.size, 0, none⟩) 2 2, .slice (some ⟨w.heap.size + 1, 0, none⟩) 1 1]) h2 trivial (by decide) rfl (fun i hi hi' => by
    have : i = 0 ∨ i = 1 := by simp at hi; omega
    rcases this with rfl | rfl
    · exact ⟨_, 2, rfl, ints_of_block (l := [-1, 2]) h0 trivial (by decide) (fun x hx => i64_small (by simp at hx; omega))⟩
    · exact ⟨_, 1, rfl, ints_of_block (l := [-2]) h1 trivial (by decide) (fun x hx => i64_small (by simp at hx; omega))⟩)
  have hli : Ints (fun _ => True) W (some ⟨w.heap.size + 3, 0, none⟩) [1] 1 := ints_of_block (l := [1]) h3 trivial (by decide) (fun x hx => i64_small (by simp at hx; omega))
  refine (follow_good 2 hcl hli (by decide) (by decide)).mono ?_
  rintro e w' ⟨hch, ⟨rfl, _⟩ | ⟨a, ba, rfl, hf, _, hb⟩⟩
  · exact ⟨rfl, hc.thenNo hch⟩
  · exact absurd ex2 hf.fine

set_option maxHeartbeats 1000000 in
theorem up_any (w : World) : Calls Try.prog 9 #[] w fun e w' => e = .returned (.bool true) ∧ Chg No w w' := by
  have H1 := Lib.hid (follow_ex1 w)
  have H2 := Lib.hid follow_ex2
  go_enter Try.func9, Try.ntmps9
  go_wp2_with (first | (go_at_call 12; refine H1.out.mono ?_; rintro e w1 ⟨ba, rfl, hb, hc1⟩; have Hb := Lib.hid hb; clear hb H1) | (go_at_call 12; refine (H2.out w1).mono ?_; rintro e w2 ⟨rfl, hc2⟩; have c1 : w2.cell? ⟨ba, 1, none⟩ = some (.int .i64 1) := (by (have h := hc2.obj Hb.out id); simp [World.cell?, h]); have c2 : w2.cell? ⟨ba, 2, none⟩ = some (.int .i64 1) := (by (have h := hc2.obj Hb.out id); simp [World.cell?, h])))
  go_ret
  exact ⟨rfl, hc1.thenNo hc2⟩
end Go.Proofs.Ytcapcghaihmfeaa
