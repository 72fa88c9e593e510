/-
  Chapter 17: the head of the statements (law17.up) walked.
-/
import Derived.Test.YtbcgffnmbmbjdaaHpR
namespace Go.Proofs.Ytbcgffnmbmbjdaa
open Go Go.RowKit

theorem tris_one {R : Nat → Prop} {w : World} {b : Nat} {m : Tri} {t : TypeId} (h : w.heap[b]? = some (.cells #[.int .i64 m.1, .string m.2.1, .int .i64 m.2.2] t (0, 0))) (hR : R b) (hm : TriOk m) : Tris R w (some ⟨b, 0, none⟩) [m] 1 :=
  ⟨Nat.le_refl _, by decide, by show 1 * 32 ≤ big; decide, fun h => (by cases h), fun i hi => ⟨b, 0, rfl, hR, enc3 m, rfl, fun j u hj => by
    obtain rfl : i = 0 := by simpa using hi
    rw [Nat.zero_mul, Nat.zero_add]
    match j with
    | 0 => simp [enc3] at hj; subst hj; simp [World.cell?, h]
    | 1 => simp [enc3] at hj; subst hj; simp [World.cell?, h]
    | 2 => simp [enc3] at hj; subst hj; simp [World.cell?, h]
    | j + 3 => simp [enc3] at hj, by
    obtain rfl : i = 0 := by simpa using hi
    exact tri_of hm.1 hm.2.1 hm.2.2⟩⟩
abbrev fF : ByteArray := ⟨#[102]⟩
theorem okF (a z : Int) (ha : I64 a) (hz : I64 z) : TriOk (a, fF, z) := ⟨ha, (by show (1 : Nat) ≤ maxLen; decide), hz⟩
theorem up_joins : addsS ([((3 : Int), fF, (1 : Int))] ++ [((3 : Int), fF, (2 : Int))]) = [((3 : Int), fF, (3 : Int))] := by
  have e : eqT ((3 : Int), fF, (1 : Int)) ((3 : Int), fF, (2 : Int)) = true := eqT_iff.2 ⟨rfl, rfl⟩
  have e2 : addN 1 2 = 3 := by unfold addN wrap64; omega
  simp [addsS, addS, foldA, stepA, e, e2]
theorem up_fresh : freshP [((3 : Int), fF, (7 : Int))] = 4 := by
  show wrap64 (3 + 1) = 4
  unfold wrap64
  omega

set_option maxRecDepth 100000 in
set_option maxHeartbeats 2000000 in
theorem up_any (w : World) : Calls Try.prog 8 #[] w fun e w' => e = .returned (.bool true) ∧ Chg No w w' := by
  have HSET : Hid (Calls Try.prog 15 #[.slice none 0 0, .int .i64 3, .string fF, .int .i64 7] w (SetRet w [((3 : Int), fF, (7 : Int))])) := (set_any (R := No) (w := w) (A := none) (l := []) (cap := 0) Sl.empty List.Pairwise.nil (by decide) 3 fF 7 (okF 3 7 (by unfold I64; decide) (by unfold I64; decide)))
  have HJ : Hid (∀ W b b', W.heap[b]? = some (.cells #[.int .i64 3, .string fF, .int .i64 1] 25 (0, 0)) → W.heap[b']? = some (.cells #[.int .i64 3, .string fF, .int .i64 2] 25 (0, 0)) → Calls Try.prog 10 #[.slice (some ⟨b, 0, none⟩) 1 1, .slice (some ⟨b', 0, none⟩) 1 1] W fun e w' => ∃ A' cap', e = .returned (.slice A' 1 cap') ∧ Tris (fun k => W.heap.size ≤ k) w' A' [((3 : Int), fF, (3 : Int))] cap' ∧ Chg No W w') := fun W b b' h1 h2 => by
    refine (join_ref (tris_one (R := fun _ => True) (m := (3, fF, 1)) h1 trivial (okF 3 1 (by unfold I64; decide) (by unfold I64; decide))) (tris_one (R := fun _ => True) (m := (3, fF, 2)) h2 trivial (okF 3 2 (by unfold I64; decide) (by unfold I64; decide))) (by decide)).mono ?_
    rintro e w' ⟨A', cap', rfl, g1, g2⟩
    rw [up_joins] at g1 ⊢
    exact ⟨A', cap', rfl, g1.tris (by decide), g2⟩
  have HFR : Hid (∀ W (R : Nat → Prop) A cap, Tris R W A [((3 : Int), fF, (7 : Int))] cap → Calls Try.prog 22 #[.slice A 1 cap] W fun e w' => e = .returned (.int .i64 4) ∧ Chg No W w') := fun W R A cap h => by
    have := fresh_any h
    rwa [up_fresh] at this
  go_enter Try.func8, Try.ntmps8
  go_upto_region 3 with (first
    | (go_at_call 15; refine HSET.out.mono ?_; rintro e w1 ⟨A1, n1, cap1, rfl, h1, h2, h3⟩; obtain rfl : n1 = 1 := h1; have H2 := Lib.hid (h2.tris (by decide)); have H3 := Lib.hid h3; clear h2 h3)
    | (go_at_call 10; refine (HJ.out _ _ _ (at_old (heap_alloc_new _ _)) (at_new (by simp))).mono ?_; rintro e w2 ⟨A2, cap2, rfl, h1, h2⟩; have H4 := Lib.hid h1; have H5 := Lib.hid h2; clear h1 h2))
  have H6 := Lib.hid ((((Chg.refl No w1).alloc _).alloc _).thenNo H5.out)
  have H7 := Lib.hid (H2.out.no triE_good H6.out)
  have H8 := Lib.hid (H3.out.thenNo H6.out)
  obtain ⟨b, off, rfl, _, _, c2⟩ := H7.out.tri_at 0 (by decide)
  obtain ⟨b', off', rfl, _, _, d2⟩ := H4.out.tri_at 0 (by decide)
  rw [Nat.zero_mul, Nat.add_zero] at c2 d2
  have HD : Hid (∀ W, Chg No w2 W → W.cell? ⟨b', off' + 2, none⟩ = some (.int .i64 3)) := fun W h => h.cell d2 id
  clear d2
  go_wp2_with (go_at_call 22; refine (HFR.out _ _ _ _ H7.out).mono ?_; rintro e w3 ⟨rfl, h1⟩; have d2 := HD.out w3 h1; have H9 := Lib.hid h1; clear h1)
  go_ret
  exact ⟨rfl, H8.out.thenNo H9.out⟩
end Go.Proofs.Ytbcgffnmbmbjdaa
