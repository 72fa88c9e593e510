/-
  The document's example of layer 1, and the walks over LinChecks and LinValues.
-/
import Derived.Test.YtdljgclaccahaaaLinA
import Derived.Test.YtdljgclaccahaaaLater
namespace Go.Proofs.Ytdljgclaccahaaa
open Go Go.RowKit

/-- Terms that have just been laid. -/
theorem monos_of_block {M : Nat → Prop} {w : World} {b : Nat} {l : List Mono} {e : TypeId} {fr : Nat × Nat} (h : w.heap[b]? = some (.cells (l.flatMap fun m => [.int .i64 m.1, .int .i64 m.2]).toArray e fr)) (hM : M b) (hl : l.length * 16 ≤ big) (hi : ∀ m ∈ l, I64 m.1 ∧ I64 m.2) :
    Monos M w (some ⟨b, 0, none⟩) l l.length := by
  refine ⟨Nat.le_refl _, by unfold big at hl; unfold maxLen; omega, hl, (fun h => by cases h), fun i hi' => ⟨b, 0, rfl, ?_⟩⟩
  have hlen : ∀ c ∈ l.map (fun m : Mono => [Value.int .i64 m.1, .int .i64 m.2]), c.length = 2 := fun c hc => by
    obtain ⟨m, _, rfl⟩ := List.mem_map.1 hc
    rfl
  have hm := hi _ (List.getElem_mem hi')
  have h0 := flatten_get hlen i (by simpa using hi') 0 (by decide)
  have h1 := flatten_get hlen i (by simpa using hi') 1 (by decide)
  rw [← List.flatMap_def] at h0 h1
  simp only [List.getElem_map, Nat.add_zero] at h0 h1
  exact monoE_of hM (by simp [World.cell?, h, h0]) (by simp only [World.cell?, h, Nat.zero_add]; simp [h1]) hm.1 hm.2

instance (x : Int) : Decidable (I64 x) := by unfold I64; infer_instance
theorem upNf : nf [((0 : Int), (2 : Int)), (1, 3), (0, -2)] = [(1, 3)] := nf_eq ⟨List.pairwise_singleton _ _, (fun m hm => by simp at hm; subst hm; decide), fun v => by
  simp only [kAt_cons, kAt_nil]
  by_cases h0 : (0 : Int) = v <;> by_cases h1 : (1 : Int) = v <;> simp [h0, h1] <;> omega⟩
theorem upErr : makeErr 1 [((0 : Int), (2 : Int)), (1, 3), (0, -2)] = 0 := by
  have h : makeOk 1 [((0 : Int), (2 : Int)), (1, 3), (0, -2)] = true := by decide
  unfold makeErr
  rw [if_pos h, sumErr_eq 1 upNf]
  decide
theorem upLin : makeLin 1 [((0 : Int), (2 : Int)), (1, 3), (0, -2)] = (1, [(1, 3)]) := by
  have h : makeOk 1 [((0 : Int), (2 : Int)), (1, 3), (0, -2)] = true := by decide
  unfold makeLin sumLin
  rw [if_pos h, sumErr_eq 1 upNf, upNf]
  rfl

set_option maxRecDepth 100000 in
set_option maxHeartbeats 1000000 in
theorem up_any (w : World) : Calls Try.prog 9 #[] w fun e w' => e = .returned (.bool true) ∧ Chg No w w' := by
  have hM : Hid (∀ W b, W.heap[b]? = some (.cells #[.int .i64 0, .int .i64 2, .int .i64 1, .int .i64 3, .int .i64 0, .int .i64 (-2)] 50 (0, 0)) →
      Calls Try.prog 10 #[.int .i64 1, .slice (some ⟨b, 0, none⟩) 3 3] W (LinRet W (1, [(1, 3)]) .nilIface)) := fun W b h => by
    have h1 := linMake_any (w := W) 1 (monos_of_block (M := fun _ => True) (l := [((0 : Int), (2 : Int)), (1, 3), (0, -2)]) h trivial (by decide) (by decide))
    rw [upErr, upLin, errV_zero] at h1
    exact h1
  have hV : Hid (∀ (R : Nat → Prop) W A cap b, Monos R W A [((1 : Int), (3 : Int))] cap → W.heap[b]? = some (.cells #[.int .i64 7, .int .i64 5] 3 (0, 0)) →
      Calls Try.prog 14 #[.agg #[.int .i64 1, .slice A 1 cap], .slice (some ⟨b, 0, none⟩) 2 2] W fun e w' => e = .returned (.tuple #[.int .i64 16, .nilIface]) ∧ Chg No W w') := fun R W A cap b h1 h2 => by
    have h3 := linValue_any (w := W) 1 h1 (ints_of_block (R := fun _ => True) (l := [(7 : Int), 5]) h2 trivial (by decide) (by decide))
    rw [show linVal 1 [((1 : Int), (3 : Int))] [(7 : Int), 5] = (16, 0) by decide] at h3
    simp only [errV_zero] at h3
    exact h3
  go_enter Try.func9, Try.ntmps9
  go_wp2_with (first
    | (go_at_call 10; refine (hM.out _ _ (heap_alloc_new _ _)).mono ?_; rintro e w1 ⟨A1, cap1, rfl, h1, h2⟩; have H1 := Lib.hid h1; have H2 := Lib.hid (((Chg.refl No w).alloc _).thenNo h2); clear h1 h2)
    | (go_at_call 14; go_loud (refine (hV.out _ _ _ _ _ (H1.out.no monoE_good (((Chg.refl _ _).alloc _).alloc _)) (at_new (by simp))).mono ?_); rintro e w2 ⟨rfl, h3⟩; have hx := (h3.obj (b := w1.heap.size) (x := .cells #[.int .i64 1, .slice A1 1 cap1] 25 (0, 0)) (at_old (heap_alloc_new _ _)) id); have H3 := Lib.hid h3; clear h3; obtain ⟨hx0, hx1, hxf0, hxf1⟩ := obj_two hx; clear hx))
  go_ret
  exact ⟨rfl, ((H2.out.alloc _).alloc _).thenNo H3.out⟩
end Go.Proofs.Ytdljgclaccahaaa
