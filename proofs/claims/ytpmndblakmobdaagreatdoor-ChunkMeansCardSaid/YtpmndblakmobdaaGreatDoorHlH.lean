/-
  holds.Expr, holds.Cond.
-/
import Derived.Test.YtpmndblakmobdaaGreatDoorHlF
namespace Go.Proofs.YtpmndblakmobdaaGreatDoor
open Go Go.RowKit

/-- An expression's value; what is amiss. -/
def hexR (l : List Vr) (m : Nat) (x : ET m) : Int × Int :=
  if (!deepE m x 99 && okE m x) = true then (if (exH l m x).2 = true then (0, 3) else ((exH l m x).1, 0)) else (0, 5)
/-- A condition's. -/
def hcoR (l : List Vr) (m n : Nat) (x : CT m n) : Bool × Int :=
  if (!deepC m n x 99 && okC m n x) = true then (if (coH l m n x).2 = true then (false, 3) else ((coH l m n x).1, 0)) else (false, 5)

set_option maxRecDepth 100000 in
set_option maxHeartbeats 4000000 in
theorem hexprF_any {m : Nat} {x : ET m} {R Rs : Nat → Prop} {w : World} {cs : List Value} (hK : Keys w) (hx : (exprV m) R w cs x) {A : Option Addr} {l : List Vr} {cap : Nat} (hl : Vars Rs w A l cap) :
    Calls Tryz.prog 16 #[.agg cs.toArray, .slice A l.length cap] w fun e w' => e = .returned (.tuple #[.int .i64 (hexR l m x).1, errV 83 (hexR l m x).2]) ∧ Chg No w w' := by
  have hx2 := (exprV_good m).mono hx (R' := fun q => q < w.heap.size) (fun q hq _ => hq)
  have hl2 := hl.mono varE_good (R' := fun q => q < w.heap.size) (fun q hq _ => hq)
  obtain ⟨ek, en, es, eB, ekl, eck, rfl⟩ := expr_shape hx
  obtain ⟨w3, hw3⟩ : ∃ w3, w3 = w.alloc (.cells #[.int .i64 ek, .int .i64 en, .string es, .slice eB ekl eck] 53) := ⟨_, rfl⟩
  have h3 : Hid (Chg No w w3 ∧ w3.heap[w.heap.size]? = some (.cells #[.int .i64 ek, .int .i64 en, .string es, .slice eB ekl eck] 53 (0, 0))) := by
    rw [hw3]; exact ⟨(Chg.refl _ _).alloc _, heap_alloc_new _ _⟩
  have HO := Lib.hid (fun W (hW : Chg No w3 W) => obj_4 (hW.obj h3.out.2 id))
  obtain ⟨p0, p1, p2, p3⟩ := HO.out w3 (Chg.refl _ _)
  have HF : Hid (∀ (W : World) (bs : Nat), Chg No w3 W → W.heap[bs]? = some (.cells (stm1 ek en es eB ekl eck) 96 (0, 0)) → Calls Tryz.prog 35 #[.slice (some ⟨bs, 0, none⟩) 1 1, .agg #[.int .i64 0, .int .i64 0, .slice none 0 0, .slice none 0 0, .int .i64 0, .int .i64 0, .string ⟨#[]⟩, .slice none 0 0, .int .i64 0, .int .i64 0, .string ⟨#[]⟩, .slice none 0 0, .string ⟨#[]⟩, .int .i64 0, .slice none 0 0]] W fun e w' => e = .returned (.bool (!deepE m x 99 && okE m x)) ∧ Chg No W w') := fun W bs hW hb => hfine_1 ((hK.no h3.out.1).no hW) ((exprV_good m).no ((exprV_good m).no hx h3.out.1) hW) hb
  have HW : Hid ((!deepE m x 99 && okE m x) = true → ∀ W bx, Chg No w W → LookAt W bx A l.length cap false → w.heap.size ≤ bx → Calls Tryz.prog 36 #[.pointer (some ⟨bx, 0, none⟩), .agg #[.int .i64 ek, .int .i64 en, .string es, .slice eB ekl eck]] W (LkRet bx A l.length cap (false || (exH l m x).2) W (.int .i64 (exH l m x).1))) := fun hf W bx hW hlk hbx => by
    rw [Bool.and_eq_true] at hf
    exact hex_any m x _ _ W [.int .i64 ek, .int .i64 en, .string es, .slice eB ekl eck] bx A l cap false hf.2 ((exprV_good m).no hx2 hW) (fun q hq => by omega) hlk (hl2.no varE_good hW) (fun q hq => by omega)
  obtain ⟨ans, hans⟩ : ∃ ans, ans = hexR l m x := ⟨_, rfl⟩
  rw [← hans]
  unfold hexR at hans
  have HA := Lib.hid hans
  clear hans hx hK hx2 hl2 hl
  generalize (!deepE m x 99 && okE m x) = q at *
  generalize exH l m x = r at *
  cases q
  · obtain rfl : ans = (0, 5) := by rw [HA.out]; rfl
    clear HA HW
    rw [errV_of _ (show (5 : Int) ≠ 0 by decide)]
    go_enter Tryz.func16, Tryz.ntmps16
    go_upto_region 1 with fail
    rw [← hw3]
    clear hw3
    go_wp2_with (go_at_call 35; (refine (HF.out _ w3.heap.size ((Chg.refl _ _).alloc _) (heap_alloc_new _ _)).mono ?_); rintro e w4 ⟨rfl, h4⟩)
    go_ret2
    exact ⟨rfl, h3.out.1.thenNo (((Chg.refl _ _).alloc _).thenNo h4)⟩
  · have HW1 := Lib.hid (HW.out rfl)
    rw [if_pos rfl] at HA
    clear HW
    obtain ⟨va, far⟩ := r
    simp only at HW1 HA
    go_enter Tryz.func16, Tryz.ntmps16
    go_upto_region 1 with fail
    rw [← hw3]
    clear hw3
    go_upto_region 4 with (go_at_call 35; (refine (HF.out _ w3.heap.size ((Chg.refl _ _).alloc _) (heap_alloc_new _ _)).mono ?_); rintro e w4 ⟨rfl, h4⟩; have H4 : Hid (Chg No w3 w4) := ((Chg.refl No w3).alloc _).thenNo h4; clear h4)
    obtain ⟨w5, hw5⟩ : ∃ w5, w5 = w4.alloc (.cells #[.slice A l.length cap, .bool false] 103) := ⟨_, rfl⟩
    rw [← hw5]
    obtain ⟨b5, hb5⟩ : ∃ b5, b5 = w4.heap.size := ⟨_, rfl⟩
    rw [← hb5]
    have C5 : Hid (Chg No w3 w5 ∧ LookAt w5 b5 A l.length cap false ∧ w.heap.size ≤ b5) := by
      rw [hw5, hb5]
      exact ⟨H4.out.alloc _, heap_alloc_new _ _, (h3.out.1.thenNo H4.out).size⟩
    clear hw5 hb5 p0 p1 p2 p3
    obtain ⟨p0, p1, p2, p3⟩ := HO.out w5 C5.out.1
    have HC := Lib.hid (HW1.out w5 b5 (h3.out.1.thenNo C5.out.1) C5.out.2.1 C5.out.2.2)
    go_upto_region 5 with (go_at_call 36; (with_reducible refine HC.out.mono ?_); rintro e w6 ⟨rfl, h6, g6⟩; have H6 := Lib.hid (chgpastH (h3.out.1.thenNo C5.out.1) h6 (fun q hq => by rw [hq]; exact C5.out.2.2)); obtain ⟨g60, g61, _, _⟩ := g6.cells; clear h6 g6)
    rw [Bool.false_or] at g61
    cases far
    · obtain rfl : ans = (va, 0) := by rw [HA.out]; rfl
      clear HA
      go_wp2_with fail
      go_ret2
      exact ⟨by rw [errV_zero]; rfl, H6.out⟩
    · obtain rfl : ans = (0, 3) := by rw [HA.out]; rfl
      clear HA
      go_wp2_with fail
      go_ret2
      exact ⟨by rw [errV_of _ (show (3 : Int) ≠ 0 by decide)]; rfl, H6.out⟩
set_option maxRecDepth 100000 in
set_option maxHeartbeats 4000000 in
theorem hcondF_any {m n : Nat} {x : CT m n} {R Rs : Nat → Prop} {w : World} {cs : List Value} (hK : Keys w) (hx : (condV m n) R w cs x) {A : Option Addr} {l : List Vr} {cap : Nat} (hl : Vars Rs w A l cap) :
    Calls Tryz.prog 18 #[.agg cs.toArray, .slice A l.length cap] w fun e w' => e = .returned (.tuple #[.bool (hcoR l m n x).1, errV 83 (hcoR l m n x).2]) ∧ Chg No w w' := by
  have hx2 := (condV_good m n).mono hx (R' := fun q => q < w.heap.size) (fun q hq _ => hq)
  have hl2 := hl.mono varE_good (R' := fun q => q < w.heap.size) (fun q hq _ => hq)
  obtain ⟨ck, cA, cel, cca, cB, ckl, cck, rfl⟩ := cond_shape hx
  obtain ⟨w3, hw3⟩ : ∃ w3, w3 = w.alloc (.cells #[.int .i64 ck, .slice cA cel cca, .slice cB ckl cck] 56) := ⟨_, rfl⟩
  have h3 : Hid (Chg No w w3 ∧ w3.heap[w.heap.size]? = some (.cells #[.int .i64 ck, .slice cA cel cca, .slice cB ckl cck] 56 (0, 0))) := by
    rw [hw3]; exact ⟨(Chg.refl _ _).alloc _, heap_alloc_new _ _⟩
  have HO := Lib.hid (fun W (hW : Chg No w3 W) => obj_3 (hW.obj h3.out.2 id))
  obtain ⟨p0, p1, p2⟩ := HO.out w3 (Chg.refl _ _)
  have HF : Hid (∀ (W : World) (bs : Nat), Chg No w3 W → W.heap[bs]? = some (.cells (stm8 ck cA cel cca cB ckl cck) 96 (0, 0)) → Calls Tryz.prog 35 #[.slice (some ⟨bs, 0, none⟩) 1 1, .agg #[.int .i64 0, .int .i64 0, .slice none 0 0, .slice none 0 0, .int .i64 0, .int .i64 0, .string ⟨#[]⟩, .slice none 0 0, .int .i64 0, .int .i64 0, .string ⟨#[]⟩, .slice none 0 0, .string ⟨#[]⟩, .int .i64 0, .slice none 0 0]] W fun e w' => e = .returned (.bool (!deepC m n x 99 && okC m n x)) ∧ Chg No W w') := fun W bs hW hb => hfine_8 ((hK.no h3.out.1).no hW) ((condV_good m n).no ((condV_good m n).no hx h3.out.1) hW) hb
  have HW : Hid ((!deepC m n x 99 && okC m n x) = true → ∀ W bx, Chg No w W → LookAt W bx A l.length cap false → w.heap.size ≤ bx → Calls Tryz.prog 38 #[.pointer (some ⟨bx, 0, none⟩), .agg #[.int .i64 ck, .slice cA cel cca, .slice cB ckl cck]] W (LkRet bx A l.length cap (false || (coH l m n x).2) W (.bool (coH l m n x).1))) := fun hf W bx hW hlk hbx => by
    rw [Bool.and_eq_true] at hf
    exact hco_any m n x _ _ W [.int .i64 ck, .slice cA cel cca, .slice cB ckl cck] bx A l cap false hf.2 ((condV_good m n).no hx2 hW) (fun q hq => by omega) hlk (hl2.no varE_good hW) (fun q hq => by omega)
  obtain ⟨ans, hans⟩ : ∃ ans, ans = hcoR l m n x := ⟨_, rfl⟩
  rw [← hans]
  unfold hcoR at hans
  have HA := Lib.hid hans
  clear hans hx hK hx2 hl2 hl
  generalize (!deepC m n x 99 && okC m n x) = q at *
  generalize coH l m n x = r at *
  cases q
  · obtain rfl : ans = (false, 5) := by rw [HA.out]; rfl
    clear HA HW
    rw [errV_of _ (show (5 : Int) ≠ 0 by decide)]
    go_enter Tryz.func18, Tryz.ntmps18
    go_upto_region 1 with fail
    rw [← hw3]
    clear hw3
    go_wp2_with (go_at_call 35; (refine (HF.out _ w3.heap.size ((Chg.refl _ _).alloc _) (heap_alloc_new _ _)).mono ?_); rintro e w4 ⟨rfl, h4⟩)
    go_ret2
    exact ⟨rfl, h3.out.1.thenNo (((Chg.refl _ _).alloc _).thenNo h4)⟩
  · have HW1 := Lib.hid (HW.out rfl)
    rw [if_pos rfl] at HA
    clear HW
    obtain ⟨va, far⟩ := r
    simp only at HW1 HA
    go_enter Tryz.func18, Tryz.ntmps18
    go_upto_region 1 with fail
    rw [← hw3]
    clear hw3
    go_upto_region 4 with (go_at_call 35; (refine (HF.out _ w3.heap.size ((Chg.refl _ _).alloc _) (heap_alloc_new _ _)).mono ?_); rintro e w4 ⟨rfl, h4⟩; have H4 : Hid (Chg No w3 w4) := ((Chg.refl No w3).alloc _).thenNo h4; clear h4)
    obtain ⟨w5, hw5⟩ : ∃ w5, w5 = w4.alloc (.cells #[.slice A l.length cap, .bool false] 103) := ⟨_, rfl⟩
    rw [← hw5]
    obtain ⟨b5, hb5⟩ : ∃ b5, b5 = w4.heap.size := ⟨_, rfl⟩
    rw [← hb5]
    have C5 : Hid (Chg No w3 w5 ∧ LookAt w5 b5 A l.length cap false ∧ w.heap.size ≤ b5) := by
      rw [hw5, hb5]
      exact ⟨H4.out.alloc _, heap_alloc_new _ _, (h3.out.1.thenNo H4.out).size⟩
    clear hw5 hb5 p0 p1 p2
    obtain ⟨p0, p1, p2⟩ := HO.out w5 C5.out.1
    have HC := Lib.hid (HW1.out w5 b5 (h3.out.1.thenNo C5.out.1) C5.out.2.1 C5.out.2.2)
    go_upto_region 5 with (go_at_call 38; (with_reducible refine HC.out.mono ?_); rintro e w6 ⟨rfl, h6, g6⟩; have H6 := Lib.hid (chgpastH (h3.out.1.thenNo C5.out.1) h6 (fun q hq => by rw [hq]; exact C5.out.2.2)); obtain ⟨g60, g61, _, _⟩ := g6.cells; clear h6 g6)
    rw [Bool.false_or] at g61
    cases far
    · obtain rfl : ans = (va, 0) := by rw [HA.out]; rfl
      clear HA
      go_wp2_with fail
      go_ret2
      exact ⟨by rw [errV_zero]; rfl, H6.out⟩
    · obtain rfl : ans = (false, 3) := by rw [HA.out]; rfl
      clear HA
      go_wp2_with fail
      go_ret2
      exact ⟨by rw [errV_of _ (show (3 : Int) ≠ 0 by decide)]; rfl, H6.out⟩
end Go.Proofs.YtpmndblakmobdaaGreatDoor
