/-
  show.deepE, deepEs, deepC, deepA.
-/
import Derived.Test.YtgofncopoieigaaDoorShB
import Derived.Test.YtgofncopoieigaaDoorOwn
import Derived.Deep.LoopGhost
import Derived.Deep.QuietTactic
import Derived.BigQuiet
import Derived.Deep.DeepCutAuto
namespace Go.Proofs.YtgofncopoieigaaDoor
open Go Go.RowKit

theorem obj_4 {w : World} {b : Nat} {x y z u : Value} {t : TypeId} (h : w.heap[b]? = some (.cells #[x, y, z, u] t (0, 0))) :
    w.cell? ⟨b, 0, none⟩ = some x ∧ w.cell? ⟨b, 1, none⟩ = some y ∧ w.cell? ⟨b, 2, none⟩ = some z ∧ w.cell? ⟨b, 3, none⟩ = some u := by
  simp [World.cell?, h]
theorem obj_3 {w : World} {b : Nat} {x y z : Value} {t : TypeId} (h : w.heap[b]? = some (.cells #[x, y, z] t (0, 0))) :
    w.cell? ⟨b, 0, none⟩ = some x ∧ w.cell? ⟨b, 1, none⟩ = some y ∧ w.cell? ⟨b, 2, none⟩ = some z := by
  simp [World.cell?, h]
theorem obj_1 {w : World} {b : Nat} {x : Value} {t : TypeId} (h : w.heap[b]? = some (.cells #[x] t (0, 0))) : w.cell? ⟨b, 0, none⟩ = some x := by
  simp [World.cell?, h]

set_option maxRecDepth 10000 in
theorem entered_deepE1 : Entered 67 := fun _ _ => rfl
set_option maxRecDepth 10000 in
theorem entered_deepEs1 : Entered 70 := fun _ _ => rfl
set_option maxRecDepth 10000 in
theorem entered_deepC1 : Entered 65 := fun _ _ => rfl
set_option maxRecDepth 10000 in
theorem entered_deepA1 : Entered 44 := fun _ _ => rfl

def DeepEOk (n : Nat) : Prop := ∀ (x : ET n) (R : Nat → Prop) (w : World) (cs : List Value), (exprV n) R w cs x → ∀ (b : Nat) (z : Int), z = b → b ≤ 1000 →
    Calls Tryd.prog 42 #[.agg cs.toArray, .int .i64 z] w fun e w' => e = .returned (.bool (deepE n x b)) ∧ Chg No w w'
set_option maxRecDepth 100000 in
set_option maxHeartbeats 2000000 in
theorem deepE_walk (n : Nat) (IH : Hid (DeepEOk n)) : DeepEOk (n + 1) := by
    rintro f R w cs h b _ rfl hb
    obtain ⟨B, capk, rfl, i1, i2, hm, hk⟩ := enode_cells h
    obtain ⟨w3, hw3⟩ : ∃ w3, w3 = (w.alloc (.cells #[.int .i64 (ENode.kind f), .int .i64 (ENode.num f), .string (ENode.name f), .slice B (ENode.kids f).length capk] 27)).alloc (.cells #[.int .i64 b] 3) := ⟨_, rfl⟩
    have h3 : Hid (Chg No w w3 ∧ w3.heap[w.heap.size]? = some (.cells #[.int .i64 (ENode.kind f), .int .i64 (ENode.num f), .string (ENode.name f), .slice B (ENode.kids f).length capk] 27 (0, 0)) ∧ w3.heap[w.heap.size + 1]? = some (.cells #[.int .i64 b] 3 (0, 0))) := by
      rw [hw3]; exact ⟨((Chg.refl _ _).alloc _).alloc _, at_old (heap_alloc_new _ _), at_new (by simp)⟩
    obtain ⟨p0, p1, p2, p3⟩ := obj_4 h3.out.2.1
    have q0 := obj_1 h3.out.2.2
    by_cases hb1 : 1 ≤ b
    · rw [deepE_step hb1]
      have hd : ¬ (b : Int) < 1 := by omega
      have HCF := Lib.hid (containsFunc_expr1 (exprV_sz n) (exprV_good n) (hk.no (exprE_good n) h3.out.1) 67 entered_deepE1 (.pointer (some ⟨w.heap.size + 1, 0, none⟩)) (fun k => deepE n k (b - 1)) (fun W hW i hi cs hcs => by
        have x0 : (W.alloc (.cells cs.toArray 27)).cell? ⟨w.heap.size + 1, 0, none⟩ = some (.int .i64 b) := ((Chg.refl No W).alloc _).cell (hW.cell q0 id) id
        have HI := Lib.hid (fun W' (hW' : Chg No W W') z hz => IH.out _ _ W' cs ((exprV_good n).no hcs hW') (b - 1) z hz (by omega))
        obtain ⟨k1, m1, s1, B1, kl1, capk1, rfl⟩ := expr_shape hcs
        generalize deepE n (ENode.kids f)[i] (b - 1) = dd at *
        clear hcs hk h
        go_enter Tryd.func67, Tryd.ntmps67
        go_wp2_with (go_at_call 42; refine (HI.out _ ((Chg.refl _ _).alloc _) _ (by omega)).mono ?_; rintro e w1 ⟨rfl, h1⟩)
        go_ret
        exact ⟨rfl, ((Chg.refl _ _).alloc _).thenNo h1⟩))
      generalize (ENode.kids f).any (fun k => deepE n k (b - 1)) = ans at *
      clear hk h
      go_enter Tryd.func42, Tryd.ntmps42
      go_upto_region 1 with fail
      rw [← hw3]
      clear hw3
      go_wp2_with (go_at_call 66; refine HCF.out.mono ?_; rintro e w1 ⟨rfl, h1⟩)
      go_ret
      exact ⟨rfl, h3.out.1.thenNo h1⟩
    · obtain rfl : b = 0 := by omega
      rw [show ((0 : Nat) : Int) = 0 from rfl] at hw3 q0
      rw [deepE_zero]
      clear hk h
      go_enter Tryd.func42, Tryd.ntmps42
      go_upto_region 1 with fail
      rw [← hw3]
      clear hw3
      go_wp2_with fail
      go_ret
      first | exact ⟨rfl, h3.out.1⟩ | exact ⟨rfl, ((Chg.refl _ _).alloc _).alloc _⟩
theorem deepE_any : ∀ n, DeepEOk n
  | 0 => fun _ _ _ _ h => h.elim
  | n + 1 => deepE_walk n (Lib.hid (deepE_any n))

set_option maxRecDepth 100000 in
set_option maxHeartbeats 2000000 in
theorem deepEs_any {n : Nat} {R : Nat → Prop} {w : World} {A : Option Addr} {l : List (ET n)} {cap : Nat} (hk : Exprs R w A l cap) (b : Nat) (z : Int) (hz : z = b) (hb : b ≤ 1000) :
    Calls Tryd.prog 47 #[.slice A l.length cap, .int .i64 z] w fun e w' => e = .returned (.bool (l.any (fun k => deepE n k b))) ∧ Chg No w w' := by
  subst hz
  have h3 : Hid (Chg No w (w.alloc (.cells #[.int .i64 b] 3))) := (Chg.refl _ _).alloc _
  have q0 : (w.alloc (.cells #[.int .i64 b] 3)).cell? ⟨w.heap.size, 0, none⟩ = some (.int .i64 b) := obj_1 (heap_alloc_new _ _)
  have HCF := Lib.hid (containsFunc_expr1 (exprV_sz n) (exprV_good n) (hk.no (exprE_good n) h3.out) 70 entered_deepEs1 (.pointer (some ⟨w.heap.size, 0, none⟩)) (fun k => deepE n k b) (fun W hW i hi cs hcs => by
    have x0 : (W.alloc (.cells cs.toArray 27)).cell? ⟨w.heap.size, 0, none⟩ = some (.int .i64 b) := ((Chg.refl No W).alloc _).cell (hW.cell q0 id) id
    have HI := Lib.hid (fun W' (hW' : Chg No W W') z hz => deepE_any n _ _ W' cs ((exprV_good n).no hcs hW') b z hz (by omega))
    obtain ⟨k1, m1, s1, B1, kl1, capk1, rfl⟩ := expr_shape hcs
    generalize deepE n l[i] b = dd at *
    clear hcs hk q0
    go_enter Tryd.func70, Tryd.ntmps70
    go_wp2_with (go_at_call 42; refine (HI.out _ ((Chg.refl _ _).alloc _) _ (by omega)).mono ?_; rintro e w1 ⟨rfl, h1⟩)
    go_ret
    exact ⟨rfl, ((Chg.refl _ _).alloc _).thenNo h1⟩))
  generalize l.any (fun k => deepE n k b) = ans at *
  clear hk
  go_enter Tryd.func47, Tryd.ntmps47
  go_wp2_with (go_at_call 66; refine HCF.out.mono ?_; rintro e w1 ⟨rfl, h1⟩)
  go_ret
  exact ⟨rfl, h3.out.thenNo h1⟩

def DeepCOk (m n : Nat) : Prop := ∀ (x : CT m n) (R : Nat → Prop) (w : World) (cs : List Value), (condV m n) R w cs x → ∀ (b : Nat) (z : Int), z = b → b ≤ 1000 →
    Calls Tryd.prog 41 #[.agg cs.toArray, .int .i64 z] w fun e w' => e = .returned (.bool (deepC m n x b)) ∧ Chg No w w'
set_option maxRecDepth 100000 in
set_option maxHeartbeats 2000000 in
theorem deepC_walk (m n : Nat) (IH : Hid (DeepCOk m n)) : DeepCOk m (n + 1) := by
    rintro f R w cs h b _ rfl hb
    obtain ⟨A, cape, B, capk, rfl, i1, he, hk⟩ := cnode_cells h
    obtain ⟨w3, hw3⟩ : ∃ w3, w3 = (w.alloc (.cells #[.int .i64 (CNode.kind f), .slice A (CNode.es f).length cape, .slice B (CNode.kids f).length capk] 25)).alloc (.cells #[.int .i64 b] 3) := ⟨_, rfl⟩
    have h3 : Hid (Chg No w w3 ∧ w3.heap[w.heap.size]? = some (.cells #[.int .i64 (CNode.kind f), .slice A (CNode.es f).length cape, .slice B (CNode.kids f).length capk] 25 (0, 0)) ∧ w3.heap[w.heap.size + 1]? = some (.cells #[.int .i64 b] 3 (0, 0))) := by
      rw [hw3]; exact ⟨((Chg.refl _ _).alloc _).alloc _, at_old (heap_alloc_new _ _), at_new (by simp)⟩
    obtain ⟨p0, p1, p2⟩ := obj_3 h3.out.2.1
    have q0 := obj_1 h3.out.2.2
    by_cases hb1 : 1 ≤ b
    · rw [deepC_step hb1]
      have hd : ¬ (b : Int) < 1 := by omega
      have HES := Lib.hid (fun z hz => deepEs_any (he.no (exprE_good m) h3.out.1) (b - 1) z hz (by omega))
      have HO := Lib.hid (fun W (hW : Chg No w3 W) => (⟨obj_3 (hW.obj h3.out.2.1 id), obj_1 (hW.obj h3.out.2.2 id)⟩ : _ ∧ _))
      have HCF := Lib.hid (fun W0 (hW0 : Chg No w3 W0) => containsFunc_cond1 (condV_sz m n) (condV_good m n) (hk.no (condE_good m n) (h3.out.1.thenNo hW0)) 65 entered_deepC1 (.pointer (some ⟨w.heap.size + 1, 0, none⟩)) (fun k => deepC m n k (b - 1)) (fun W hW i hi cs hcs => by
        have x0 : (W.alloc (.cells cs.toArray 25)).cell? ⟨w.heap.size + 1, 0, none⟩ = some (.int .i64 b) := ((Chg.refl No W).alloc _).cell (hW.cell (hW0.cell q0 id) id) id
        have HI := Lib.hid (fun W' (hW' : Chg No W W') z hz => IH.out _ _ W' cs ((condV_good m n).no hcs hW') (b - 1) z hz (by omega))
        obtain ⟨k1, A1, el1, cape1, B1, kl1, capk1, rfl⟩ := cond_shape hcs
        generalize deepC m n (CNode.kids f)[i] (b - 1) = dd at *
        clear hcs hk h he q0 p0 p1 p2
        go_enter Tryd.func65, Tryd.ntmps65
        go_wp2_with (go_at_call 41; refine (HI.out _ ((Chg.refl _ _).alloc _) _ (by omega)).mono ?_; rintro e w1 ⟨rfl, h1⟩)
        go_ret
        exact ⟨rfl, ((Chg.refl _ _).alloc _).thenNo h1⟩))
      generalize (CNode.es f).any (fun k => deepE m k (b - 1)) = a1 at *
      generalize (CNode.kids f).any (fun k => deepC m n k (b - 1)) = a2 at *
      clear hk h he
      cases a1
      · go_enter Tryd.func41, Tryd.ntmps41
        go_upto_region 1 with fail
        rw [← hw3]
        clear hw3
        go_wp2_with (first
          | (go_at_call 47; refine (HES.out _ (by omega)).mono ?_; rintro e w4 ⟨rfl, h4⟩; have H4 := Lib.hid h4; clear h4 p0 p1 p2 q0; obtain ⟨⟨p0, p1, p2⟩, q0⟩ := HO.out _ H4.out)
          | (go_at_call 64; refine (HCF.out _ H4.out).mono ?_; rintro e w1 ⟨rfl, h1⟩))
        go_ret
        exact ⟨by simp, h3.out.1.thenNo (H4.out.thenNo h1)⟩
      · go_enter Tryd.func41, Tryd.ntmps41
        go_upto_region 1 with fail
        rw [← hw3]
        clear hw3
        go_wp2_with (go_at_call 47; refine (HES.out _ (by omega)).mono ?_; rintro e w4 ⟨rfl, h4⟩)
        go_ret
        exact ⟨by simp, h3.out.1.thenNo h4⟩
    · obtain rfl : b = 0 := by omega
      rw [show ((0 : Nat) : Int) = 0 from rfl] at hw3 q0
      rw [deepC_zero]
      clear hk h he
      go_enter Tryd.func41, Tryd.ntmps41
      go_upto_region 1 with fail
      rw [← hw3]
      clear hw3
      go_wp2_with fail
      go_ret
      first | exact ⟨rfl, h3.out.1⟩ | exact ⟨rfl, ((Chg.refl _ _).alloc _).alloc _⟩
theorem deepC_any (m : Nat) : ∀ n, DeepCOk m n
  | 0 => fun _ _ _ _ h => h.elim
  | n + 1 => deepC_walk m n (Lib.hid (deepC_any m n))
end Go.Proofs.YtgofncopoieigaaDoor
