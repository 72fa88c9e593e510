/-
  Chapter 18: up, smallA.
-/
import Derived.Test.YtgofncopoieigaaGreatDoorHlG
import Derived.Test.YtgofncopoieigaaGreatDoorHlH
import Derived.Test.YtgofncopoieigaaGreatDoorMA
namespace Go.Proofs.YtgofncopoieigaaGreatDoor
open Go Go.RowKit

theorem cells_ofH {w : World} {b : Nat} {vs : Array Value} {t : TypeId} (h : w.heap[b]? = some (.cells vs t (0, 0))) (j : Nat) : w.cell? ⟨b, j, none⟩ = vs[j]? := by simp [World.cell?, h]
theorem four_atH {w : World} {b o : Nat} {v0 v1 v2 v3 : Value} (h0 : w.cell? ⟨b, o, none⟩ = some v0) (h1 : w.cell? ⟨b, o + 1, none⟩ = some v1) (h2 : w.cell? ⟨b, o + 2, none⟩ = some v2) (h3 : w.cell? ⟨b, o + 3, none⟩ = some v3) :
    ∀ j u, ([v0, v1, v2, v3] : List Value)[j]? = some u → w.cell? ⟨b, o + j, none⟩ = some u := by
  intro j u hj
  match j, hj with
  | 0, hj => simp at hj; subst hj; exact h0
  | 1, hj => simp at hj; subst hj; exact h1
  | 2, hj => simp at hj; subst hj; exact h2
  | 3, hj => simp at hj; subst hj; exact h3
def upXH : ET 1 := (⟨1, 0, ⟨#[120]⟩, []⟩ : ENode (ET 0))
def upMH : ET 2 := (⟨4, 2, ⟨#[]⟩, [upXH]⟩ : ENode (ET 1))
def upNH : ET 2 := (⟨0, 1, ⟨#[]⟩, []⟩ : ENode (ET 1))
def upEH : ET 3 := (⟨3, 0, ⟨#[]⟩, [upMH, upNH]⟩ : ENode (ET 2))
def upSH : ET 1 := (⟨0, 7, ⟨#[]⟩, []⟩ : ENode (ET 0))
def upCH : CT 1 1 := (⟨0, [], []⟩ : CNode (ET 1) (CT 1 0))
def upAH : AT 1 1 1 := (⟨3, upCH, upXH, upSH, ⟨#[102]⟩, 32, []⟩ : ANode (CT 1 1) (ET 1) (AT 1 1 0))
def upVH : List Vr := [(⟨#[120]⟩, 3)]
def upHH : List Tri := [(3, ⟨#[102]⟩, 7)]
theorem upEH_is {W : World} {p q : Nat} (hp : W.heap[p]? = some (.cells #[.int .i64 1, .int .i64 0, .string ⟨#[120]⟩, .slice none 0 0] 27 (0, 0)))
    (hq : W.heap[q]? = some (.cells #[.int .i64 4, .int .i64 2, .string ⟨#[]⟩, .slice (some ⟨p, 0, none⟩) 1 1, .int .i64 0, .int .i64 1, .string ⟨#[]⟩, .slice none 0 0] 27 (0, 0))) :
    (exprV 3) (fun _ => True) W [.int .i64 3, .int .i64 0, .string ⟨#[]⟩, .slice (some ⟨q, 0, none⟩) 2 2] upEH := by
  have hs : ∀ s : ByteArray, s.size = 0 ∨ s.size = 1 → s.size ≤ maxLen := fun s h => by unfold maxLen; omega
  have hX : (exprV 1) (fun _ => True) W [.int .i64 1, .int .i64 0, .string ⟨#[120]⟩, .slice none 0 0] upXH :=
    ⟨none, 0, rfl, I64.of (by decide) (by decide), I64.of (by decide) (by decide), hs _ (.inr rfl), Sl.empty⟩
  have hM : (exprV 2) (fun _ => True) W [.int .i64 4, .int .i64 2, .string ⟨#[]⟩, .slice (some ⟨p, 0, none⟩) 1 1] upMH := by
    refine ⟨some ⟨p, 0, none⟩, 1, rfl, I64.of (by decide) (by decide), I64.of (by decide) (by decide), hs _ (.inl rfl), ⟨Nat.le_refl _, by decide, by decide, (fun h => by cases h), fun i hi => ?_⟩⟩
    match i, hi with
    | 0, _ => exact ⟨p, 0, rfl, trivial, _, rfl, four_atH (cells_ofH hp 0) (cells_ofH hp 1) (cells_ofH hp 2) (cells_ofH hp 3), hX⟩
  have hN : (exprV 2) (fun _ => True) W [.int .i64 0, .int .i64 1, .string ⟨#[]⟩, .slice none 0 0] upNH :=
    ⟨none, 0, rfl, I64.of (by decide) (by decide), I64.of (by decide) (by decide), hs _ (.inl rfl), Sl.empty⟩
  refine ⟨some ⟨q, 0, none⟩, 2, rfl, I64.of (by decide) (by decide), I64.of (by decide) (by decide), hs _ (.inl rfl), ⟨Nat.le_refl _, by decide, by decide, (fun h => by cases h), fun i hi => ?_⟩⟩
  match i, hi with
  | 0, _ => exact ⟨q, 0, rfl, trivial, _, rfl, four_atH (cells_ofH hq 0) (cells_ofH hq 1) (cells_ofH hq 2) (cells_ofH hq 3), hM⟩
  | 1, _ => exact ⟨q, 0, rfl, trivial, _, rfl, four_atH (cells_ofH hq 4) (cells_ofH hq 5) (cells_ofH hq 6) (cells_ofH hq 7), hN⟩
theorem upAH_is (W : World) : (assnV 1 1 1) (fun _ => True) W [.int .i64 3, .int .i64 0, .slice none 0 0, .slice none 0 0, .int .i64 1, .int .i64 0, .string ⟨#[120]⟩, .slice none 0 0, .int .i64 0, .int .i64 7, .string ⟨#[]⟩, .slice none 0 0, .string ⟨#[102]⟩, .int .i64 32, .slice none 0 0] upAH := by
  have hs : ∀ s : ByteArray, s.size = 0 ∨ s.size = 1 → s.size ≤ maxLen := fun s h => by unfold maxLen; omega
  exact ⟨[.int .i64 0, .slice none 0 0, .slice none 0 0], [.int .i64 1, .int .i64 0, .string ⟨#[120]⟩, .slice none 0 0], [.int .i64 0, .int .i64 7, .string ⟨#[]⟩, .slice none 0 0], none, 0, rfl, rfl, rfl, rfl,
    I64.of (by decide) (by decide), ⟨none, 0, none, 0, rfl, I64.of (by decide) (by decide), Sl.empty, Sl.empty⟩, ⟨none, 0, rfl, I64.of (by decide) (by decide), I64.of (by decide) (by decide), hs _ (.inr rfl), Sl.empty⟩, ⟨none, 0, rfl, I64.of (by decide) (by decide), I64.of (by decide) (by decide), hs _ (.inl rfl), Sl.empty⟩, hs _ (.inr rfl), I64.of (by decide) (by decide), Sl.empty⟩
theorem upVH_is {W : World} {q : Nat} (hq : W.heap[q]? = some (.cells #[.string ⟨#[120]⟩, .int .i64 3] 52 (0, 0))) : Vars (fun k => k = q) W (some ⟨q, 0, none⟩) upVH 1 := by
  refine ⟨Nat.le_refl _, by decide, show 1 * 24 ≤ big by decide, (fun h => by cases h), fun i hi => ?_⟩
  match i, hi with
  | 0, _ =>
    refine ⟨q, 0, rfl, rfl, [.string ⟨#[120]⟩, .int .i64 3], rfl, ?_, [.string ⟨#[120]⟩], [.int .i64 3], rfl, rfl, ⟨rfl, show (⟨#[120]⟩ : ByteArray).size ≤ maxLen by decide⟩, ⟨rfl, I64.of (show -9000000000000000000 ≤ (3 : Int) by decide) (show (3 : Int) ≤ 9000000000000000000 by decide)⟩⟩
    intro j u hj
    match j, hj with
    | 0, hj => exact (cells_ofH hq 0).trans hj
    | 1, hj => exact (cells_ofH hq 1).trans hj
theorem upHH_is {W : World} {q : Nat} (hq : W.heap[q]? = some (.cells #[.int .i64 3, .string ⟨#[102]⟩, .int .i64 7] 67 (0, 0))) : Tris (fun _ => True) W (some ⟨q, 0, none⟩) upHH 1 := by
  have h := ownL_oneH (V := triV) (M := fun _ => True) (R := No) (cs := [.int .i64 3, .string ⟨#[102]⟩, .int .i64 7]) (x := ((3, ⟨#[102]⟩, 7) : Tri)) hq trivial rfl (tri_of (m := (3, ⟨#[102]⟩, 7)) (I64.of (by decide) (by decide)) (show (⟨#[102]⟩ : ByteArray).size ≤ maxLen by decide) (I64.of (by decide) (by decide))) triV_good
  exact OTris.tris h (show 1 * 32 ≤ big by decide)
theorem upEH_res : hexR upVH 3 upEH = (5, 0) := by kernel_rfl
theorem upAH_holds : holdsR upVH upHH 1 1 1 upAH = (true, 0) := by kernel_rfl
theorem upAH_foot : footR upVH 1 1 1 upAH = ([(3, ⟨#[102]⟩, 32)], 0) := by kernel_rfl
theorem upAH_lv : lvA 1 1 1 upAH ≤ 100000 := by decide

set_option maxRecDepth 100000 in
set_option maxHeartbeats 4000000 in
theorem up18_any {w : World} (hK : Keys w) : Calls Tryz.prog 6 #[] w fun e w' => e = .returned (.bool true) ∧ Chg No w w' := by
  obtain ⟨w3, hw3⟩ : ∃ w3, w3 = ((w.alloc (.cells #[.int .i64 1, .int .i64 0, .string ⟨#[120]⟩, .slice none 0 0] 27)).alloc (.cells #[.string ⟨#[120]⟩, .int .i64 3] 52)).alloc (.cells #[.int .i64 3, .int .i64 0, .slice none 0 0, .slice none 0 0, .int .i64 1, .int .i64 0, .string ⟨#[120]⟩, .slice none 0 0, .int .i64 0, .int .i64 7, .string ⟨#[]⟩, .slice none 0 0, .string ⟨#[102]⟩, .int .i64 32, .slice none 0 0] 30) := ⟨_, rfl⟩
  have h3 : Hid (Chg No w w3 ∧ w3.heap[w.heap.size]? = some (.cells #[.int .i64 1, .int .i64 0, .string ⟨#[120]⟩, .slice none 0 0] 27 (0, 0)) ∧ w3.heap[w.heap.size + 1]? = some (.cells #[.string ⟨#[120]⟩, .int .i64 3] 52 (0, 0)) ∧ w3.heap[w.heap.size + 1 + 1]? = some (.cells #[.int .i64 3, .int .i64 0, .slice none 0 0, .slice none 0 0, .int .i64 1, .int .i64 0, .string ⟨#[120]⟩, .slice none 0 0, .int .i64 0, .int .i64 7, .string ⟨#[]⟩, .slice none 0 0, .string ⟨#[102]⟩, .int .i64 32, .slice none 0 0] 30 (0, 0))) := by
    rw [hw3]
    exact ⟨(((Chg.refl _ _).alloc _).alloc _).alloc _, at_old (at_old (heap_alloc_new _ _)), at_old (at_new (by simp)), at_new (by simp)⟩
  have HO1 := Lib.hid (fun W (hW : Chg No w3 W) => obj_4 (hW.obj h3.out.2.1 id))
  have HO2 := Lib.hid (fun W (hW : Chg No w3 W) => obj_15 (hW.obj h3.out.2.2.2 id))
  have HX : Hid (∀ (W : World) (p q : Nat), Chg No w3 W → W.heap[p]? = some (.cells #[.int .i64 1, .int .i64 0, .string ⟨#[120]⟩, .slice none 0 0] 27 (0, 0)) →
      W.heap[q]? = some (.cells #[.int .i64 4, .int .i64 2, .string ⟨#[]⟩, .slice (some ⟨p, 0, none⟩) 1 1, .int .i64 0, .int .i64 1, .string ⟨#[]⟩, .slice none 0 0] 27 (0, 0)) →
      Calls Tryz.prog 16 #[.agg #[.int .i64 3, .int .i64 0, .string ⟨#[]⟩, .slice (some ⟨q, 0, none⟩) 2 2], .slice (some ⟨w.heap.size + 1, 0, none⟩) 1 1] W fun e w' => e = .returned (.tuple #[.int .i64 5, .nilIface]) ∧ Chg No W w') := fun W p q hW hp hq => by
    have h := hexprF_any ((hK.no h3.out.1).no hW) (upEH_is hp hq) (upVH_is (hW.obj h3.out.2.2.1 id))
    rw [upEH_res, errV_zero] at h
    exact h
  have HH : Hid (∀ (W : World) (c : Nat), Chg No w3 W → W.heap[c]? = some (.cells #[.int .i64 3, .string ⟨#[102]⟩, .int .i64 7] 67 (0, 0)) →
      Calls Tryz.prog 9 #[.agg #[.int .i64 3, .int .i64 0, .slice none 0 0, .slice none 0 0, .int .i64 1, .int .i64 0, .string ⟨#[120]⟩, .slice none 0 0, .int .i64 0, .int .i64 7, .string ⟨#[]⟩, .slice none 0 0, .string ⟨#[102]⟩, .int .i64 32, .slice none 0 0], .slice (some ⟨w.heap.size + 1, 0, none⟩) 1 1, .slice (some ⟨c, 0, none⟩) 1 1] W fun e w' => e = .returned (.tuple #[.bool true, .nilIface]) ∧ Chg No W w') := fun W c hW hc => by
    have h := holds_any ((hK.no h3.out.1).no hW) (upAH_is W) upAH_lv (upVH_is (hW.obj h3.out.2.2.1 id)) (upHH_is hc)
    rw [upAH_holds, errV_zero] at h
    exact h
  have HF : Hid (∀ (W : World), Chg No w3 W →
      Calls Tryz.prog 8 #[.agg #[.int .i64 3, .int .i64 0, .slice none 0 0, .slice none 0 0, .int .i64 1, .int .i64 0, .string ⟨#[120]⟩, .slice none 0 0, .int .i64 0, .int .i64 7, .string ⟨#[]⟩, .slice none 0 0, .string ⟨#[102]⟩, .int .i64 32, .slice none 0 0], .slice (some ⟨w.heap.size + 1, 0, none⟩) 1 1] W fun e w' => ∃ b o cap, e = .returned (.tuple #[.slice (some ⟨b, o, none⟩) 1 cap, .nilIface]) ∧ w'.cell? ⟨b, o + 2, none⟩ = some (.int .i64 32) ∧ Chg No W w') := fun W hW => by
    have h := foot_any ((hK.no h3.out.1).no hW) (upAH_is W) upAH_lv (upVH_is (hW.obj h3.out.2.2.1 id))
    refine h.mono ?_
    rintro e w' ⟨A, cap, h1, h2, h4⟩
    rw [upAH_foot] at h1 h2
    obtain ⟨b, o, cap', cs, e1, _, _, hv, hc⟩ := h2.at_ triV_good 0 (by decide)
    obtain ⟨rfl, _⟩ := tri_cells hv
    injection e1 with e1 _ e3
    subst e1; subst e3
    refine ⟨b, o, cap, ?_, hc 2 _ rfl, h4⟩
    rw [errV_zero] at h1
    exact h1
  clear hK
  obtain ⟨p0, p1, p2, p3⟩ := HO1.out w3 (Chg.refl _ _)
  go_enter Tryz.func6, Tryz.ntmps6
  go_upto_region 4 with fail
  rw [← hw3]
  clear hw3
  go_upto_region 5 with (go_at_call 16; refine (HX.out _ w3.heap.size (w3.heap.size + 1) (((Chg.refl No w3).alloc _).alloc _) (at_old (heap_alloc_new _ _)) (at_new (by simp))).mono ?_; rintro e w4 ⟨rfl, h4⟩; have H4 : Hid (Chg No w3 w4) := ((((Chg.refl No w3).alloc _).alloc _).thenNo h4); clear h4 p0 p1 p2 p3)
  obtain ⟨p0, p1, p2, p3, p4, p5, p6, p7, p8, p9, p10, p11, p12, p13, p14⟩ := HO2.out w4 H4.out
  go_upto_region 6 with (go_at_call 9; refine (HH.out _ w4.heap.size (H4.out.alloc _) (heap_alloc_new _ _)).mono ?_; rintro e w5 ⟨rfl, h5⟩; have H5 : Hid (Chg No w3 w5) := (H4.out.alloc _).thenNo h5; clear h5 p0 p1 p2 p3 p4 p5 p6 p7 p8 p9 p10 p11 p12 p13 p14)
  obtain ⟨p0, p1, p2, p3, p4, p5, p6, p7, p8, p9, p10, p11, p12, p13, p14⟩ := HO2.out w5 H5.out
  go_wp2_with (go_at_call 8; refine (HF.out _ H5.out).mono ?_; rintro e w6 ⟨b, o, cap, rfl, x2, h6⟩; have H6 : Hid (Chg No w w6) := h3.out.1.thenNo (H5.out.thenNo h6); clear h6)
  go_ret
  exact ⟨rfl, H6.out⟩

theorem sza_one {m n k : Nat} {x : AT m n k} {R : Nat → Prop} {W : World} {cs : List Value} {c : Nat} (hx : (assnV m n k) R W cs x) (hR : ∀ q, R q → q ≠ c) (ho : W.heap[c]? = some (.cells cs.toArray 30 (0, 0))) : SzCallA W (.slice (some ⟨c, 0, none⟩) 1 1) (lvA m n k x) := by
  have hlen : cs.length = (assnV m n k).sz := (assnV_good m n k).len hx
  have h1 := ownL_oneH (M := fun _ => True) (R := R) ho trivial hlen ((assnV_good m n k).mono hx (fun q _ hq => ⟨hq, hR q hq⟩)) (assnV_good m n k)
  have h2 := (h1.sl_of (assnV_good m n k) (by rw [assnV_bytes]; exact (show 1 * 224 ≤ big by decide))).2
  rw [assnV_sz] at h2
  have h3 := sza_any m n k h2
  rw [show [x].length = 1 from rfl, show ([x].map (lvA m n k)).sum = lvA m n k x by simp] at h3
  exact h3
set_option maxRecDepth 100000 in
theorem smallA_any {m n k : Nat} {x : AT m n k} {R : Nat → Prop} {w : World} {cs : List Value} (hx : (assnV m n k) R w cs x) :
    Calls Tryz.prog 7 #[.agg cs.toArray] w fun e w' => ∃ q, e = .returned (.bool q) ∧ (q = true → lvA m n k x ≤ 300) ∧ Chg No w w' := by
  have hx2 := (assnV_good m n k).mono hx (R' := fun q => q < w.heap.size) (fun q hq _ => hq)
  obtain ⟨kd, ck, cA, cel, cca, cB, ckl, cck, ek, en, es, eB, ekl, eck, vk, vn, vs, vB, vkl, vck, fd, nm, B, kl, capk, rfl⟩ := assn_shape hx
  obtain ⟨w3, hw3⟩ : ∃ w3, w3 = w.alloc (.cells #[.int .i64 kd, .int .i64 ck, .slice cA cel cca, .slice cB ckl cck, .int .i64 ek, .int .i64 en, .string es, .slice eB ekl eck, .int .i64 vk, .int .i64 vn, .string vs, .slice vB vkl vck, .string fd, .int .i64 nm, .slice B kl capk] 30) := ⟨_, rfl⟩
  have h3 : Hid (Chg No w w3 ∧ w3.heap[w.heap.size]? = some (.cells #[.int .i64 kd, .int .i64 ck, .slice cA cel cca, .slice cB ckl cck, .int .i64 ek, .int .i64 en, .string es, .slice eB ekl eck, .int .i64 vk, .int .i64 vn, .string vs, .slice vB vkl vck, .string fd, .int .i64 nm, .slice B kl capk] 30 (0, 0))) := by
    rw [hw3]; exact ⟨(Chg.refl _ _).alloc _, heap_alloc_new _ _⟩
  obtain ⟨p0, p1, p2, p3, p4, p5, p6, p7, p8, p9, p10, p11, p12, p13, p14⟩ := obj_15 h3.out.2
  have HS : Hid (∀ (W : World) (c : Nat), Chg No w W → w.heap.size ≤ c → W.heap[c]? = some (.cells #[.int .i64 kd, .int .i64 ck, .slice cA cel cca, .slice cB ckl cck, .int .i64 ek, .int .i64 en, .string es, .slice eB ekl eck, .int .i64 vk, .int .i64 vn, .string vs, .slice vB vkl vck, .string fd, .int .i64 nm, .slice B kl capk] 30 (0, 0)) → Calls Tryz.prog 20 #[.slice (some ⟨c, 0, none⟩) 1 1, .int .i64 300, .int .i64 300] W (SzRetA W 300 (lvA m n k x))) := fun W c hW hc ho =>
    sza_one ((assnV_good m n k).no hx2 hW) (fun q hq => by omega) ho 300 300 300 (by decide) (by decide) rfl (by decide)
  clear hx hx2
  go_enter Tryz.func7, Tryz.ntmps7
  go_upto_region 1 with fail
  rw [← hw3]
  clear hw3
  go_wp2_with (go_at_call 20; (refine (HS.out _ w3.heap.size (h3.out.1.alloc _) h3.out.1.size (heap_alloc_new _ _)).mono ?_); rintro e w4 ⟨v, rfl, g1, g2, g3, h4⟩; have G3 := Lib.hid g3; have H4 : Hid (Chg No w w4) := (h3.out.1.alloc _).thenNo h4; clear g3 h4)
  go_ret
  exact ⟨_, rfl, fun h => by have h := of_decide_eq_true h; have := G3.out h; omega, H4.out⟩
end Go.Proofs.YtgofncopoieigaaGreatDoor
