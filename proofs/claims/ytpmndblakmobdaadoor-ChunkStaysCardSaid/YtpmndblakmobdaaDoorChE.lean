/-
  up of chapter 20.
-/
import Derived.Test.YtpmndblakmobdaaDoorChD
namespace Go.Proofs.YtpmndblakmobdaaDoor
open Go Go.RowKit

theorem cells_of {w : World} {b : Nat} {vs : Array Value} {t : TypeId} (h : w.heap[b]? = some (.cells vs t (0, 0))) (j : Nat) : w.cell? ⟨b, j, none⟩ = vs[j]? := by simp [World.cell?, h]
theorem four_at {w : World} {b o : Nat} {v0 v1 v2 v3 : Value} (h0 : w.cell? ⟨b, o, none⟩ = some v0) (h1 : w.cell? ⟨b, o + 1, none⟩ = some v1) (h2 : w.cell? ⟨b, o + 2, none⟩ = some v2) (h3 : w.cell? ⟨b, o + 3, none⟩ = some v3) :
    ∀ j u, ([v0, v1, v2, v3] : List Value)[j]? = some u → w.cell? ⟨b, o + j, none⟩ = some u := by
  intro j u hj
  match j, hj with
  | 0, hj => simp at hj; subst hj; exact h0
  | 1, hj => simp at hj; subst hj; exact h1
  | 2, hj => simp at hj; subst hj; exact h2
  | 3, hj => simp at hj; subst hj; exact h3
theorem upE_is {W : World} {p q : Nat} (hp : W.heap[p]? = some (.cells #[.int .i64 1, .int .i64 0, .string ⟨#[120]⟩, .slice none 0 0] 63 (0, 0)))
    (hq : W.heap[q]? = some (.cells #[.int .i64 4, .int .i64 2, .string ⟨#[]⟩, .slice (some ⟨p, 0, none⟩) 1 1, .int .i64 0, .int .i64 1, .string ⟨#[]⟩, .slice none 0 0] 63 (0, 0))) :
    (exprV 3) (fun _ => True) W [.int .i64 3, .int .i64 0, .string ⟨#[]⟩, .slice (some ⟨q, 0, none⟩) 2 2] upE := by
  have hs : ∀ s : ByteArray, s.size = 0 ∨ s.size = 1 → s.size ≤ maxLen := fun s h => by unfold maxLen; omega
  have hX : (exprV 1) (fun _ => True) W [.int .i64 1, .int .i64 0, .string ⟨#[120]⟩, .slice none 0 0] upX :=
    ⟨none, 0, rfl, I64.of (by decide) (by decide), I64.of (by decide) (by decide), hs _ (.inr rfl), Sl.empty⟩
  have hM : (exprV 2) (fun _ => True) W [.int .i64 4, .int .i64 2, .string ⟨#[]⟩, .slice (some ⟨p, 0, none⟩) 1 1] upM := by
    refine ⟨some ⟨p, 0, none⟩, 1, rfl, I64.of (by decide) (by decide), I64.of (by decide) (by decide), hs _ (.inl rfl), ⟨Nat.le_refl _, by decide, by decide, (fun h => by cases h), fun i hi => ?_⟩⟩
    match i, hi with
    | 0, _ => exact ⟨p, 0, rfl, trivial, _, rfl, four_at (cells_of hp 0) (cells_of hp 1) (cells_of hp 2) (cells_of hp 3), hX⟩
  have hN : (exprV 2) (fun _ => True) W [.int .i64 0, .int .i64 1, .string ⟨#[]⟩, .slice none 0 0] upN :=
    ⟨none, 0, rfl, I64.of (by decide) (by decide), I64.of (by decide) (by decide), hs _ (.inl rfl), Sl.empty⟩
  refine ⟨some ⟨q, 0, none⟩, 2, rfl, I64.of (by decide) (by decide), I64.of (by decide) (by decide), hs _ (.inl rfl), ⟨Nat.le_refl _, by decide, by decide, (fun h => by cases h), fun i hi => ?_⟩⟩
  match i, hi with
  | 0, _ => exact ⟨q, 0, rfl, trivial, _, rfl, four_at (cells_of hq 0) (cells_of hq 1) (cells_of hq 2) (cells_of hq 3), hM⟩
  | 1, _ => exact ⟨q, 0, rfl, trivial, _, rfl, four_at (cells_of hq 4) (cells_of hq 5) (cells_of hq 6) (cells_of hq 7), hN⟩
theorem upL_is {W : World} {p q : Nat} (hp : W.heap[p]? = some (.cells #[.int .i64 0, .int .i64 1] 55 (0, 0))) (hq : W.heap[q]? = some (.cells #[.string ⟨#[120]⟩, .int .i64 3, .slice (some ⟨p, 0, none⟩) 1 1] 57 (0, 0))) :
    Syms (fun k => k = p ∨ k = q) W (some ⟨q, 0, none⟩) upL 1 := by
  refine ⟨Nat.le_refl _, by decide, by decide, (fun h => by cases h), fun i hi => ?_⟩
  match i, hi with
  | 0, _ =>
    refine ⟨q, 0, rfl, .inr rfl, [.string ⟨#[120]⟩, .int .i64 3, .slice (some ⟨p, 0, none⟩) 1 1], rfl, ?_, [.string ⟨#[120]⟩], [.int .i64 3, .slice (some ⟨p, 0, none⟩) 1 1], rfl, rfl, ⟨rfl, show (⟨#[120]⟩ : ByteArray).size ≤ maxLen by decide⟩, [.int .i64 3], [.slice (some ⟨p, 0, none⟩) 1 1], rfl, rfl, ⟨rfl, I64.of (show -9000000000000000000 ≤ (3 : Int) by decide) (show (3 : Int) ≤ 9000000000000000000 by decide)⟩, some ⟨p, 0, none⟩, 1, rfl, ?_⟩
    · intro j u hj
      match j, hj with
      | 0, hj => exact (cells_of hq 0).trans hj
      | 1, hj => exact (cells_of hq 1).trans hj
      | 2, hj => exact (cells_of hq 2).trans hj
    · refine ⟨Nat.le_refl _, by decide, show 1 * 16 ≤ big by decide, (fun h => by cases h), fun i hi => ?_⟩
      match i, hi with
      | 0, _ =>
        refine ⟨p, 0, rfl, .inl rfl, [.int .i64 0, .int .i64 1], rfl, ?_, mono_of (m := (0, 1)) (I64.of (by decide) (by decide)) (I64.of (by decide) (by decide))⟩
        intro j u hj
        match j, hj with
        | 0, hj => exact (cells_of hp 0).trans hj
        | 1, hj => exact (cells_of hp 1).trans hj

set_option maxRecDepth 100000 in
set_option maxHeartbeats 4000000 in
theorem up20_any {w : World} (hK : Keys w) : Calls Tryd.prog 6 #[] w fun e w' => e = .returned (.bool true) ∧ Chg No w w' := by
  obtain ⟨w3, hw3⟩ : ∃ w3, w3 = (w.alloc (.cells #[.int .i64 0, .int .i64 1] 55)).alloc (.cells #[.string ⟨#[120]⟩, .int .i64 3, .slice (some ⟨w.heap.size, 0, none⟩) 1 1] 57) := ⟨_, rfl⟩
  have h3 : Hid (Chg No w w3 ∧ w3.heap[w.heap.size]? = some (.cells #[.int .i64 0, .int .i64 1] 55 (0, 0)) ∧ w3.heap[w.heap.size + 1]? = some (.cells #[.string ⟨#[120]⟩, .int .i64 3, .slice (some ⟨w.heap.size, 0, none⟩) 1 1] 57 (0, 0)) ∧ w3.heap.size = w.heap.size + 1 + 1) := by
    rw [hw3]
    exact ⟨((Chg.refl _ _).alloc _).alloc _, at_old (heap_alloc_new _ _), at_new (by simp), by simp⟩
  have HX : Hid (∀ (W : World) (p q : Nat), Chg No w3 W → W.heap[p]? = some (.cells #[.int .i64 1, .int .i64 0, .string ⟨#[120]⟩, .slice none 0 0] 63 (0, 0)) →
      W.heap[q]? = some (.cells #[.int .i64 4, .int .i64 2, .string ⟨#[]⟩, .slice (some ⟨p, 0, none⟩) 1 1, .int .i64 0, .int .i64 1, .string ⟨#[]⟩, .slice none 0 0] 63 (0, 0)) →
      Calls Tryd.prog 18 #[.agg #[.int .i64 3, .int .i64 0, .string ⟨#[]⟩, .slice (some ⟨q, 0, none⟩) 2 2], .slice (some ⟨w.heap.size + 1, 0, none⟩) 1 1] W fun e w' => ∃ b o cap, e = .returned (.tuple #[.agg #[.int .i64 5, .slice (some ⟨b, o, none⟩) 1 cap], .nilIface]) ∧ w'.cell? ⟨b, o + 1, none⟩ = some (.int .i64 2) ∧ Chg No W w') := fun W p q hW hp hq => by
    have hz := h3.out.2.2.2
    have h := chunkExpr_any ((hK.no h3.out.1).no hW) (upE_is hp hq) (upL_is (hW.obj h3.out.2.1 id) (hW.obj h3.out.2.2.1 id)) (fun k hk => by have := hW.size; omega)
    refine h.mono ?_
    rintro e w' ⟨A, cap, h1, h2, h4⟩
    rw [upE_res] at h1 h2
    obtain ⟨b, o, rfl, _, hm⟩ := h2.mono_at 0 (by decide)
    refine ⟨b, o, cap, ?_, hm, h4⟩
    rw [errV_zero] at h1
    exact h1
  clear hK
  go_enter Tryd.func6, Tryd.ntmps6
  go_upto_region 2 with fail
  rw [← hw3]
  clear hw3
  go_upto_region 3 with (go_at_call 18; refine (HX.out _ w3.heap.size (w3.heap.size + 1) (((Chg.refl No w3).alloc _).alloc _) (at_old (heap_alloc_new _ _)) (at_new (by simp))).mono ?_; rintro e w4 ⟨b, o, cap, rfl, x1, h4⟩; have H4 := Lib.hid ((h3.out.1.thenNo (((Chg.refl No w3).alloc _).alloc _)).thenNo h4); clear h4)
  have y1 := ((Chg.refl No w4).alloc (.cells #[.int .i64 5, .slice (some ⟨b, o, none⟩) 1 cap] 36)).cell x1 id
  go_wp2_with fail
  go_ret
  exact ⟨rfl, H4.out.alloc _⟩
end Go.Proofs.YtpmndblakmobdaaDoor
