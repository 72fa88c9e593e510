/-
  show.deepS over no statement, over one of the two makes that are asked.
-/
import Derived.Test.YtpmndblakmobdaaGreatDoorShH
namespace Go.Proofs.YtpmndblakmobdaaGreatDoor
open Go Go.RowKit

/-- The empty expression, condition, assertion. -/
def zE : ET 1 := (⟨0, 0, ⟨#[]⟩, []⟩ : ENode (ET 0))
def zC : CT 1 1 := (⟨0, [], []⟩ : CNode (ET 1) (CT 1 0))
def zA : AT 1 1 1 := (⟨0, zC, zE, zE, ⟨#[]⟩, 0, []⟩ : ANode (CT 1 1) (ET 1) (AT 1 1 0))
theorem zE_is (R : Nat → Prop) (w : World) : (exprV 1) R w [.int .i64 0, .int .i64 0, .string ⟨#[]⟩, .slice none 0 0] zE := ⟨none, 0, rfl, I64.of (by decide) (by decide), I64.of (by decide) (by decide), by decide, Sl.empty⟩
theorem zC_is (R : Nat → Prop) (w : World) : (condV 1 1) R w [.int .i64 0, .slice none 0 0, .slice none 0 0] zC := ⟨none, 0, none, 0, rfl, I64.of (by decide) (by decide), Sl.empty, Sl.empty⟩
theorem zA_is (R : Nat → Prop) (w : World) : (assnV 1 1 1) R w [.int .i64 0, .int .i64 0, .slice none 0 0, .slice none 0 0, .int .i64 0, .int .i64 0, .string ⟨#[]⟩, .slice none 0 0, .int .i64 0, .int .i64 0, .string ⟨#[]⟩, .slice none 0 0, .string ⟨#[]⟩, .int .i64 0, .slice none 0 0] zA :=
  ⟨_, _, _, none, 0, rfl, rfl, rfl, rfl, I64.of (by decide) (by decide), zC_is R w, zE_is R w, zE_is R w, by decide, I64.of (by decide) (by decide), Sl.empty⟩
theorem empty_toList : (⟨#[]⟩ : ByteArray).toList = [] := by rw [ByteArray.toList_eq]
theorem zE_ok : okE 1 zE = true := by
  show (eShape 0 0 ⟨#[]⟩ 0 && true) = true
  simp [eShape, coefS]
theorem zE_has : hasE 1 zE = false := by
  show (!(decide ((0 : Int) = 0) && decide ((0 : Int) = 0) && (⟨#[]⟩ : ByteArray).toList.isEmpty && decide (0 = 0))) = false
  simp
theorem zC_ok : okC 1 1 zC = true := by
  show (cShape 0 0 0 && (true && true)) = true
  simp [cShape]
theorem zC_has : hasC 1 1 zC = false := by
  show (!(decide ((0 : Int) = 0) && decide (0 = 0) && decide (0 = 0))) = false
  simp
theorem zA_ok : okA 1 1 1 zA = true := by
  show (aShape 0 0 ⟨#[]⟩ 0 (okC 1 1 zC) (hasC 1 1 zC) (okE 1 zE) (hasE 1 zE) (okE 1 zE) (hasE 1 zE) && true) = true
  rw [zC_has, zE_has]
  simp [aShape]
theorem zE_deep {b : Nat} (hb : 1 ≤ b) : deepE 1 zE b = false := by
  rw [deepE_step hb]; rfl
theorem zC_deep {b : Nat} (hb : 1 ≤ b) : deepC 1 1 zC b = false := by
  rw [deepC_step hb]; rfl
theorem zA_deep {b : Nat} (hb : 2 ≤ b) : deepA 1 1 1 zA b = false := by
  rw [deepA_step (by omega)]
  show (deepC 1 1 zC (b - 1) || deepE 1 zE (b - 1) || deepE 1 zE (b - 1) || false) = false
  rw [zC_deep (by omega), zE_deep (by omega)]
  rfl

/-- 'x := e', as it is asked; 'assert c'. -/
def stm1 (ek en : Int) (es : ByteArray) (eB : Option Addr) (ekl eck : Nat) : Array Value := #[.int .i64 1, .string ⟨#[120]⟩, .string ⟨#[]⟩, .string ⟨#[]⟩, .int .i64 ek, .int .i64 en, .string es, .slice eB ekl eck, .int .i64 0, .int .i64 0, .string ⟨#[]⟩, .slice none 0 0, .int .i64 0, .slice none 0 0, .slice none 0 0, .int .i64 0, .int .i64 0, .slice none 0 0, .slice none 0 0, .int .i64 0, .int .i64 0, .string ⟨#[]⟩, .slice none 0 0, .int .i64 0, .int .i64 0, .string ⟨#[]⟩, .slice none 0 0, .string ⟨#[]⟩, .int .i64 0, .slice none 0 0, .slice none 0 0, .slice none 0 0, .slice none 0 0, .slice none 0 0, .slice none 0 0]
def stm8 (ck : Int) (cA : Option Addr) (cel cca : Nat) (cB : Option Addr) (ckl cck : Nat) : Array Value := #[.int .i64 8, .string ⟨#[]⟩, .string ⟨#[]⟩, .string ⟨#[]⟩, .int .i64 0, .int .i64 0, .string ⟨#[]⟩, .slice none 0 0, .int .i64 0, .int .i64 0, .string ⟨#[]⟩, .slice none 0 0, .int .i64 ck, .slice cA cel cca, .slice cB ckl cck, .int .i64 0, .int .i64 0, .slice none 0 0, .slice none 0 0, .int .i64 0, .int .i64 0, .string ⟨#[]⟩, .slice none 0 0, .int .i64 0, .int .i64 0, .string ⟨#[]⟩, .slice none 0 0, .string ⟨#[]⟩, .int .i64 0, .slice none 0 0, .slice none 0 0, .slice none 0 0, .slice none 0 0, .slice none 0 0, .slice none 0 0]

set_option maxRecDepth 100000 in
theorem deepS_nil (w : World) (z : Int) : Calls Tryz.prog 70 #[.slice none 0 0, .int .i64 z] w fun e w' => e = .returned (.bool false) ∧ Chg No w w' := by
  have H := Lib.hid (fun W => containsStmtNil1 W 87 (.pointer (some ⟨w.heap.size, 0, none⟩)))
  go_enter Tryz.func70, Tryz.ntmps70
  go_wp2_with (go_at_call 86; refine (H.out _).mono ?_; rintro e w1 ⟨rfl, rfl⟩)
  go_ret
  exact ⟨rfl, (Chg.refl _ _).alloc _⟩
set_option maxRecDepth 10000 in
theorem entered_deepS1 : Entered 87 := fun _ _ => rfl

set_option maxRecDepth 100000 in
set_option maxHeartbeats 4000000 in
theorem deepS1_1 {m : Nat} {x : ET m} {R : Nat → Prop} {w : World} {ek en : Int} {es : ByteArray} {eB : Option Addr} {ekl eck : Nat} {cs : Array Value} (hcs : cs = stm1 ek en es eB ekl eck) (hx : (exprV m) R w [.int .i64 ek, .int .i64 en, .string es, .slice eB ekl eck] x) (c : Nat) (b : Nat) (hb : 4 ≤ b) (hb2 : b ≤ 1000) (hc : w.cell? ⟨c, 0, none⟩ = some (.int .i64 b)) :
    Calls Tryz.prog 87 #[.agg cs, .pointer (some ⟨c, 0, none⟩)] w fun e w' => e = .returned (.bool (deepE m x (b - 1))) ∧ Chg No w w' := by
  obtain ⟨w3, hw3⟩ : ∃ w3, w3 = w.alloc (.cells cs 96) := ⟨_, rfl⟩
  have h3 : Hid (Chg No w w3 ∧ w3.heap[w.heap.size]? = some (.cells cs 96 (0, 0))) := by
    rw [hw3]; exact ⟨(Chg.refl _ _).alloc _, heap_alloc_new _ _⟩
  have hd : ¬ (b : Int) < 1 := by omega
  have HO : Hid (∀ W, Chg No w3 W → (W.cell? ⟨w.heap.size, 0, none⟩ = some (.int .i64 1) ∧ W.cell? ⟨w.heap.size, 1, none⟩ = some (.string ⟨#[120]⟩) ∧ W.cell? ⟨w.heap.size, 2, none⟩ = some (.string ⟨#[]⟩) ∧ W.cell? ⟨w.heap.size, 3, none⟩ = some (.string ⟨#[]⟩) ∧ W.cell? ⟨w.heap.size, 4, none⟩ = some (.int .i64 ek) ∧ W.cell? ⟨w.heap.size, 5, none⟩ = some (.int .i64 en) ∧ W.cell? ⟨w.heap.size, 6, none⟩ = some (.string es) ∧ W.cell? ⟨w.heap.size, 7, none⟩ = some (.slice eB ekl eck) ∧ W.cell? ⟨w.heap.size, 8, none⟩ = some (.int .i64 0) ∧ W.cell? ⟨w.heap.size, 9, none⟩ = some (.int .i64 0) ∧ W.cell? ⟨w.heap.size, 10, none⟩ = some (.string ⟨#[]⟩) ∧ W.cell? ⟨w.heap.size, 11, none⟩ = some (.slice none 0 0) ∧ W.cell? ⟨w.heap.size, 12, none⟩ = some (.int .i64 0) ∧ W.cell? ⟨w.heap.size, 13, none⟩ = some (.slice none 0 0) ∧ W.cell? ⟨w.heap.size, 14, none⟩ = some (.slice none 0 0) ∧ W.cell? ⟨w.heap.size, 15, none⟩ = some (.int .i64 0) ∧ W.cell? ⟨w.heap.size, 16, none⟩ = some (.int .i64 0) ∧ W.cell? ⟨w.heap.size, 17, none⟩ = some (.slice none 0 0) ∧ W.cell? ⟨w.heap.size, 18, none⟩ = some (.slice none 0 0) ∧ W.cell? ⟨w.heap.size, 19, none⟩ = some (.int .i64 0) ∧ W.cell? ⟨w.heap.size, 20, none⟩ = some (.int .i64 0) ∧ W.cell? ⟨w.heap.size, 21, none⟩ = some (.string ⟨#[]⟩) ∧ W.cell? ⟨w.heap.size, 22, none⟩ = some (.slice none 0 0) ∧ W.cell? ⟨w.heap.size, 23, none⟩ = some (.int .i64 0) ∧ W.cell? ⟨w.heap.size, 24, none⟩ = some (.int .i64 0) ∧ W.cell? ⟨w.heap.size, 25, none⟩ = some (.string ⟨#[]⟩) ∧ W.cell? ⟨w.heap.size, 26, none⟩ = some (.slice none 0 0) ∧ W.cell? ⟨w.heap.size, 27, none⟩ = some (.string ⟨#[]⟩) ∧ W.cell? ⟨w.heap.size, 28, none⟩ = some (.int .i64 0) ∧ W.cell? ⟨w.heap.size, 29, none⟩ = some (.slice none 0 0) ∧ W.cell? ⟨w.heap.size, 30, none⟩ = some (.slice none 0 0) ∧ W.cell? ⟨w.heap.size, 31, none⟩ = some (.slice none 0 0) ∧ W.cell? ⟨w.heap.size, 32, none⟩ = some (.slice none 0 0) ∧ W.cell? ⟨w.heap.size, 33, none⟩ = some (.slice none 0 0) ∧ W.cell? ⟨w.heap.size, 34, none⟩ = some (.slice none 0 0)) ∧ W.cell? ⟨c, 0, none⟩ = some (.int .i64 b)) := fun W hW => by
    have h := hW.obj h3.out.2 id
    rw [hcs] at h
    unfold stm1 at h
    refine ⟨?_, (h3.out.1.thenNo hW).cell hc id⟩
    simp [World.cell?, h]
  have HE := Lib.hid (fun W (hW : Chg No w3 W) z (hz : z = ((b - 1 : Nat) : Int)) => deepE_any m x R W _ ((exprV_good m).no ((exprV_good m).no hx h3.out.1) hW) (b - 1) z hz (by omega))
  have HV := Lib.hid (fun W (_ : Chg No w3 W) z (hz : z = ((b - 1 : Nat) : Int)) => deepE_any 1 zE No W _ (zE_is No W) (b - 1) z hz (by omega))
  have HC := Lib.hid (fun W (hW : Chg No w3 W) z (hz : z = ((b - 1 : Nat) : Int)) => deepC_any 1 1 zC No W _ (zC_is No W) (b - 1) z hz (by omega))
  have HAA := Lib.hid (fun W (_ : Chg No w3 W) z (hz : z = ((b - 1 : Nat) : Int)) => deepA_any 1 1 1 zA No W _ (zA_is No W) (b - 1) z hz (by omega))
  have HX1 := Lib.hid (fun W (_ : Chg No w3 W) z (hz : z = ((b - 1 : Nat) : Int)) => deepEs_any (n := 1) (R := No) (w := W) (A := none) (l := []) (cap := 0) Sl.empty (b - 1) z hz (by omega))
  have HX2 := Lib.hid (fun W (_ : Chg No w3 W) z (hz : z = ((b - 1 : Nat) : Int)) => deepEs_any (n := 1) (R := No) (w := W) (A := none) (l := []) (cap := 0) Sl.empty (b - 1) z hz (by omega))
  have HS1 := Lib.hid (fun W (_ : Chg No w3 W) (z : Int) (_ : z = ((b - 1 : Nat) : Int)) => deepS_nil W z)
  have HS2 := Lib.hid (fun W (_ : Chg No w3 W) (z : Int) (_ : z = ((b - 1 : Nat) : Int)) => deepS_nil W z)
  rw [List.any_nil, List.length_nil] at HX1 HX2
  rw [zA_deep (by omega)] at HAA
  rw [zE_deep (by omega)] at HV; rw [zC_deep (by omega)] at HC
  generalize deepE m x (b - 1) = q at *
  have G0 : Hid (Chg No w3 w3) := Chg.refl _ _
  obtain ⟨⟨p0, p1, p2, p3, p4, p5, p6, p7, p8, p9, p10, p11, p12, p13, p14, p15, p16, p17, p18, p19, p20, p21, p22, p23, p24, p25, p26, p27, p28, p29, p30, p31, p32, p33, p34⟩, q0⟩ := HO.out _ G0.out
  clear hx hc hcs
  go_enter Tryz.func87, Tryz.ntmps87
  go_upto_region 1 with fail
  rw [← hw3]
  clear hw3
  cases q
  rotate_left
  · go_wp2_with (first
      | (go_at_call 83; with_reducible refine (HE.out _ G0.out _ (by omega)).mono ?_; rintro e w4 ⟨rfl, h4⟩; have G1 := Lib.hid (G0.out.thenNo h4); clear h4 p0 p1 p2 p3 p4 p5 p6 p7 p8 p9 p10 p11 p12 p13 p14 p15 p16 p17 p18 p19 p20 p21 p22 p23 p24 p25 p26 p27 p28 p29 p30 p31 p32 p33 p34 q0 HE; obtain ⟨⟨p0, p1, p2, p3, p4, p5, p6, p7, p8, p9, p10, p11, p12, p13, p14, p15, p16, p17, p18, p19, p20, p21, p22, p23, p24, p25, p26, p27, p28, p29, p30, p31, p32, p33, p34⟩, q0⟩ := HO.out _ G1.out))
    go_ret
    exact ⟨rfl, h3.out.1.thenNo G1.out⟩
  · go_wp2_with (first
      | (go_at_call 83; with_reducible refine (HE.out _ G0.out _ (by omega)).mono ?_; rintro e w4 ⟨rfl, h4⟩; have G1 := Lib.hid (G0.out.thenNo h4); clear h4 p0 p1 p2 p3 p4 p5 p6 p7 p8 p9 p10 p11 p12 p13 p14 p15 p16 p17 p18 p19 p20 p21 p22 p23 p24 p25 p26 p27 p28 p29 p30 p31 p32 p33 p34 q0 HE; obtain ⟨⟨p0, p1, p2, p3, p4, p5, p6, p7, p8, p9, p10, p11, p12, p13, p14, p15, p16, p17, p18, p19, p20, p21, p22, p23, p24, p25, p26, p27, p28, p29, p30, p31, p32, p33, p34⟩, q0⟩ := HO.out _ G1.out)
      | (go_at_call 83; with_reducible refine (HV.out _ G1.out _ (by omega)).mono ?_; rintro e w5 ⟨rfl, h5⟩; have G2 := Lib.hid (G1.out.thenNo h5); clear h5 p0 p1 p2 p3 p4 p5 p6 p7 p8 p9 p10 p11 p12 p13 p14 p15 p16 p17 p18 p19 p20 p21 p22 p23 p24 p25 p26 p27 p28 p29 p30 p31 p32 p33 p34 q0 HV; obtain ⟨⟨p0, p1, p2, p3, p4, p5, p6, p7, p8, p9, p10, p11, p12, p13, p14, p15, p16, p17, p18, p19, p20, p21, p22, p23, p24, p25, p26, p27, p28, p29, p30, p31, p32, p33, p34⟩, q0⟩ := HO.out _ G2.out)
      | (go_at_call 82; with_reducible refine (HC.out _ G2.out _ (by omega)).mono ?_; rintro e w6 ⟨rfl, h6⟩; have G3 := Lib.hid (G2.out.thenNo h6); clear h6 p0 p1 p2 p3 p4 p5 p6 p7 p8 p9 p10 p11 p12 p13 p14 p15 p16 p17 p18 p19 p20 p21 p22 p23 p24 p25 p26 p27 p28 p29 p30 p31 p32 p33 p34 q0 HC; obtain ⟨⟨p0, p1, p2, p3, p4, p5, p6, p7, p8, p9, p10, p11, p12, p13, p14, p15, p16, p17, p18, p19, p20, p21, p22, p23, p24, p25, p26, p27, p28, p29, p30, p31, p32, p33, p34⟩, q0⟩ := HO.out _ G3.out)
      | (go_at_call 69; with_reducible refine (HAA.out _ G3.out _ (by omega)).mono ?_; rintro e w7 ⟨rfl, h7⟩; have G4 := Lib.hid (G3.out.thenNo h7); clear h7 p0 p1 p2 p3 p4 p5 p6 p7 p8 p9 p10 p11 p12 p13 p14 p15 p16 p17 p18 p19 p20 p21 p22 p23 p24 p25 p26 p27 p28 p29 p30 p31 p32 p33 p34 q0 HAA; obtain ⟨⟨p0, p1, p2, p3, p4, p5, p6, p7, p8, p9, p10, p11, p12, p13, p14, p15, p16, p17, p18, p19, p20, p21, p22, p23, p24, p25, p26, p27, p28, p29, p30, p31, p32, p33, p34⟩, q0⟩ := HO.out _ G4.out)
      | (go_at_call 88; with_reducible refine (HX1.out _ G4.out _ (by omega)).mono ?_; rintro e w8 ⟨rfl, h8⟩; have G5 := Lib.hid (G4.out.thenNo h8); clear h8 p0 p1 p2 p3 p4 p5 p6 p7 p8 p9 p10 p11 p12 p13 p14 p15 p16 p17 p18 p19 p20 p21 p22 p23 p24 p25 p26 p27 p28 p29 p30 p31 p32 p33 p34 q0 HX1; obtain ⟨⟨p0, p1, p2, p3, p4, p5, p6, p7, p8, p9, p10, p11, p12, p13, p14, p15, p16, p17, p18, p19, p20, p21, p22, p23, p24, p25, p26, p27, p28, p29, p30, p31, p32, p33, p34⟩, q0⟩ := HO.out _ G5.out)
      | (go_at_call 88; with_reducible refine (HX2.out _ G5.out _ (by omega)).mono ?_; rintro e w9 ⟨rfl, h9⟩; have G6 := Lib.hid (G5.out.thenNo h9); clear h9 p0 p1 p2 p3 p4 p5 p6 p7 p8 p9 p10 p11 p12 p13 p14 p15 p16 p17 p18 p19 p20 p21 p22 p23 p24 p25 p26 p27 p28 p29 p30 p31 p32 p33 p34 q0 HX2; obtain ⟨⟨p0, p1, p2, p3, p4, p5, p6, p7, p8, p9, p10, p11, p12, p13, p14, p15, p16, p17, p18, p19, p20, p21, p22, p23, p24, p25, p26, p27, p28, p29, p30, p31, p32, p33, p34⟩, q0⟩ := HO.out _ G6.out)
      | (go_at_call 70; with_reducible refine (HS1.out _ G6.out _ (by omega)).mono ?_; rintro e w10 ⟨rfl, h10⟩; have G7 := Lib.hid (G6.out.thenNo h10); clear h10 p0 p1 p2 p3 p4 p5 p6 p7 p8 p9 p10 p11 p12 p13 p14 p15 p16 p17 p18 p19 p20 p21 p22 p23 p24 p25 p26 p27 p28 p29 p30 p31 p32 p33 p34 q0 HS1; obtain ⟨⟨p0, p1, p2, p3, p4, p5, p6, p7, p8, p9, p10, p11, p12, p13, p14, p15, p16, p17, p18, p19, p20, p21, p22, p23, p24, p25, p26, p27, p28, p29, p30, p31, p32, p33, p34⟩, q0⟩ := HO.out _ G7.out)
      | (go_at_call 70; with_reducible refine (HS2.out _ G7.out _ (by omega)).mono ?_; rintro e w11 ⟨rfl, h11⟩; have G8 := Lib.hid (G7.out.thenNo h11); clear h11 p0 p1 p2 p3 p4 p5 p6 p7 p8 p9 p10 p11 p12 p13 p14 p15 p16 p17 p18 p19 p20 p21 p22 p23 p24 p25 p26 p27 p28 p29 p30 p31 p32 p33 p34 q0 HS2; obtain ⟨⟨p0, p1, p2, p3, p4, p5, p6, p7, p8, p9, p10, p11, p12, p13, p14, p15, p16, p17, p18, p19, p20, p21, p22, p23, p24, p25, p26, p27, p28, p29, p30, p31, p32, p33, p34⟩, q0⟩ := HO.out _ G8.out))
    go_ret
    exact ⟨rfl, h3.out.1.thenNo G8.out⟩
theorem deepS_1 {m : Nat} {x : ET m} {R : Nat → Prop} {w : World} {ek en : Int} {es : ByteArray} {eB : Option Addr} {ekl eck : Nat} {cs : Array Value} (hcs : cs = stm1 ek en es eB ekl eck) (hx : (exprV m) R w [.int .i64 ek, .int .i64 en, .string es, .slice eB ekl eck] x) {bs : Nat} (hbs : w.heap[bs]? = some (.cells cs 96 (0, 0))) (b : Nat) (z : Int) (hz : z = b) (hb : 4 ≤ b) (hb2 : b ≤ 1000) :
    Calls Tryz.prog 70 #[.slice (some ⟨bs, 0, none⟩) 1 1, .int .i64 z] w fun e w' => e = .returned (.bool (deepE m x (b - 1))) ∧ Chg No w w' := by
  subst hz
  have h3 : Hid (Chg No w (w.alloc (.cells #[.int .i64 b] 3))) := (Chg.refl _ _).alloc _
  have q0 : (w.alloc (.cells #[.int .i64 b] 3)).cell? ⟨w.heap.size, 0, none⟩ = some (.int .i64 b) := obj_1 (heap_alloc_new _ _)
  have HCF := Lib.hid (containsStmt1 (h3.out.obj hbs id) (by rw [hcs]; rfl) 87 entered_deepS1 (.pointer (some ⟨w.heap.size, 0, none⟩)) (deepE m x (b - 1)) (fun W hW =>
    deepS1_1 hcs ((exprV_good m).no hx (h3.out.thenNo hW)) w.heap.size b hb hb2 (hW.cell q0 id)))
  generalize deepE m x (b - 1) = ans at *
  clear hx hbs hcs
  go_enter Tryz.func70, Tryz.ntmps70
  go_wp2_with (go_at_call 86; refine HCF.out.mono ?_; rintro e w1 ⟨rfl, h1⟩)
  go_ret
  exact ⟨rfl, h3.out.thenNo h1⟩

set_option maxRecDepth 100000 in
set_option maxHeartbeats 4000000 in
theorem deepS1_8 {m n : Nat} {x : CT m n} {R : Nat → Prop} {w : World} {ck : Int} {cA : Option Addr} {cel cca : Nat} {cB : Option Addr} {ckl cck : Nat} {cs : Array Value} (hcs : cs = stm8 ck cA cel cca cB ckl cck) (hx : (condV m n) R w [.int .i64 ck, .slice cA cel cca, .slice cB ckl cck] x) (c : Nat) (b : Nat) (hb : 4 ≤ b) (hb2 : b ≤ 1000) (hc : w.cell? ⟨c, 0, none⟩ = some (.int .i64 b)) :
    Calls Tryz.prog 87 #[.agg cs, .pointer (some ⟨c, 0, none⟩)] w fun e w' => e = .returned (.bool (deepC m n x (b - 1))) ∧ Chg No w w' := by
  obtain ⟨w3, hw3⟩ : ∃ w3, w3 = w.alloc (.cells cs 96) := ⟨_, rfl⟩
  have h3 : Hid (Chg No w w3 ∧ w3.heap[w.heap.size]? = some (.cells cs 96 (0, 0))) := by
    rw [hw3]; exact ⟨(Chg.refl _ _).alloc _, heap_alloc_new _ _⟩
  have hd : ¬ (b : Int) < 1 := by omega
  have HO : Hid (∀ W, Chg No w3 W → (W.cell? ⟨w.heap.size, 0, none⟩ = some (.int .i64 8) ∧ W.cell? ⟨w.heap.size, 1, none⟩ = some (.string ⟨#[]⟩) ∧ W.cell? ⟨w.heap.size, 2, none⟩ = some (.string ⟨#[]⟩) ∧ W.cell? ⟨w.heap.size, 3, none⟩ = some (.string ⟨#[]⟩) ∧ W.cell? ⟨w.heap.size, 4, none⟩ = some (.int .i64 0) ∧ W.cell? ⟨w.heap.size, 5, none⟩ = some (.int .i64 0) ∧ W.cell? ⟨w.heap.size, 6, none⟩ = some (.string ⟨#[]⟩) ∧ W.cell? ⟨w.heap.size, 7, none⟩ = some (.slice none 0 0) ∧ W.cell? ⟨w.heap.size, 8, none⟩ = some (.int .i64 0) ∧ W.cell? ⟨w.heap.size, 9, none⟩ = some (.int .i64 0) ∧ W.cell? ⟨w.heap.size, 10, none⟩ = some (.string ⟨#[]⟩) ∧ W.cell? ⟨w.heap.size, 11, none⟩ = some (.slice none 0 0) ∧ W.cell? ⟨w.heap.size, 12, none⟩ = some (.int .i64 ck) ∧ W.cell? ⟨w.heap.size, 13, none⟩ = some (.slice cA cel cca) ∧ W.cell? ⟨w.heap.size, 14, none⟩ = some (.slice cB ckl cck) ∧ W.cell? ⟨w.heap.size, 15, none⟩ = some (.int .i64 0) ∧ W.cell? ⟨w.heap.size, 16, none⟩ = some (.int .i64 0) ∧ W.cell? ⟨w.heap.size, 17, none⟩ = some (.slice none 0 0) ∧ W.cell? ⟨w.heap.size, 18, none⟩ = some (.slice none 0 0) ∧ W.cell? ⟨w.heap.size, 19, none⟩ = some (.int .i64 0) ∧ W.cell? ⟨w.heap.size, 20, none⟩ = some (.int .i64 0) ∧ W.cell? ⟨w.heap.size, 21, none⟩ = some (.string ⟨#[]⟩) ∧ W.cell? ⟨w.heap.size, 22, none⟩ = some (.slice none 0 0) ∧ W.cell? ⟨w.heap.size, 23, none⟩ = some (.int .i64 0) ∧ W.cell? ⟨w.heap.size, 24, none⟩ = some (.int .i64 0) ∧ W.cell? ⟨w.heap.size, 25, none⟩ = some (.string ⟨#[]⟩) ∧ W.cell? ⟨w.heap.size, 26, none⟩ = some (.slice none 0 0) ∧ W.cell? ⟨w.heap.size, 27, none⟩ = some (.string ⟨#[]⟩) ∧ W.cell? ⟨w.heap.size, 28, none⟩ = some (.int .i64 0) ∧ W.cell? ⟨w.heap.size, 29, none⟩ = some (.slice none 0 0) ∧ W.cell? ⟨w.heap.size, 30, none⟩ = some (.slice none 0 0) ∧ W.cell? ⟨w.heap.size, 31, none⟩ = some (.slice none 0 0) ∧ W.cell? ⟨w.heap.size, 32, none⟩ = some (.slice none 0 0) ∧ W.cell? ⟨w.heap.size, 33, none⟩ = some (.slice none 0 0) ∧ W.cell? ⟨w.heap.size, 34, none⟩ = some (.slice none 0 0)) ∧ W.cell? ⟨c, 0, none⟩ = some (.int .i64 b)) := fun W hW => by
    have h := hW.obj h3.out.2 id
    rw [hcs] at h
    unfold stm8 at h
    refine ⟨?_, (h3.out.1.thenNo hW).cell hc id⟩
    simp [World.cell?, h]
  have HE := Lib.hid (fun W (hW : Chg No w3 W) z (hz : z = ((b - 1 : Nat) : Int)) => deepE_any 1 zE No W _ (zE_is No W) (b - 1) z hz (by omega))
  have HV := Lib.hid (fun W (_ : Chg No w3 W) z (hz : z = ((b - 1 : Nat) : Int)) => deepE_any 1 zE No W _ (zE_is No W) (b - 1) z hz (by omega))
  have HC := Lib.hid (fun W (hW : Chg No w3 W) z (hz : z = ((b - 1 : Nat) : Int)) => deepC_any m n x R W _ ((condV_good m n).no ((condV_good m n).no hx h3.out.1) hW) (b - 1) z hz (by omega))
  have HAA := Lib.hid (fun W (_ : Chg No w3 W) z (hz : z = ((b - 1 : Nat) : Int)) => deepA_any 1 1 1 zA No W _ (zA_is No W) (b - 1) z hz (by omega))
  have HX1 := Lib.hid (fun W (_ : Chg No w3 W) z (hz : z = ((b - 1 : Nat) : Int)) => deepEs_any (n := 1) (R := No) (w := W) (A := none) (l := []) (cap := 0) Sl.empty (b - 1) z hz (by omega))
  have HX2 := Lib.hid (fun W (_ : Chg No w3 W) z (hz : z = ((b - 1 : Nat) : Int)) => deepEs_any (n := 1) (R := No) (w := W) (A := none) (l := []) (cap := 0) Sl.empty (b - 1) z hz (by omega))
  have HS1 := Lib.hid (fun W (_ : Chg No w3 W) (z : Int) (_ : z = ((b - 1 : Nat) : Int)) => deepS_nil W z)
  have HS2 := Lib.hid (fun W (_ : Chg No w3 W) (z : Int) (_ : z = ((b - 1 : Nat) : Int)) => deepS_nil W z)
  rw [List.any_nil, List.length_nil] at HX1 HX2
  rw [zA_deep (by omega)] at HAA
  rw [zE_deep (by omega)] at HE HV
  generalize deepC m n x (b - 1) = q at *
  have G0 : Hid (Chg No w3 w3) := Chg.refl _ _
  obtain ⟨⟨p0, p1, p2, p3, p4, p5, p6, p7, p8, p9, p10, p11, p12, p13, p14, p15, p16, p17, p18, p19, p20, p21, p22, p23, p24, p25, p26, p27, p28, p29, p30, p31, p32, p33, p34⟩, q0⟩ := HO.out _ G0.out
  clear hx hc hcs
  go_enter Tryz.func87, Tryz.ntmps87
  go_upto_region 1 with fail
  rw [← hw3]
  clear hw3
  cases q
  rotate_left
  · go_wp2_with (first
      | (go_at_call 83; with_reducible refine (HE.out _ G0.out _ (by omega)).mono ?_; rintro e w4 ⟨rfl, h4⟩; have G1 := Lib.hid (G0.out.thenNo h4); clear h4 p0 p1 p2 p3 p4 p5 p6 p7 p8 p9 p10 p11 p12 p13 p14 p15 p16 p17 p18 p19 p20 p21 p22 p23 p24 p25 p26 p27 p28 p29 p30 p31 p32 p33 p34 q0 HE; obtain ⟨⟨p0, p1, p2, p3, p4, p5, p6, p7, p8, p9, p10, p11, p12, p13, p14, p15, p16, p17, p18, p19, p20, p21, p22, p23, p24, p25, p26, p27, p28, p29, p30, p31, p32, p33, p34⟩, q0⟩ := HO.out _ G1.out)
      | (go_at_call 83; with_reducible refine (HV.out _ G1.out _ (by omega)).mono ?_; rintro e w5 ⟨rfl, h5⟩; have G2 := Lib.hid (G1.out.thenNo h5); clear h5 p0 p1 p2 p3 p4 p5 p6 p7 p8 p9 p10 p11 p12 p13 p14 p15 p16 p17 p18 p19 p20 p21 p22 p23 p24 p25 p26 p27 p28 p29 p30 p31 p32 p33 p34 q0 HV; obtain ⟨⟨p0, p1, p2, p3, p4, p5, p6, p7, p8, p9, p10, p11, p12, p13, p14, p15, p16, p17, p18, p19, p20, p21, p22, p23, p24, p25, p26, p27, p28, p29, p30, p31, p32, p33, p34⟩, q0⟩ := HO.out _ G2.out)
      | (go_at_call 82; with_reducible refine (HC.out _ G2.out _ (by omega)).mono ?_; rintro e w6 ⟨rfl, h6⟩; have G3 := Lib.hid (G2.out.thenNo h6); clear h6 p0 p1 p2 p3 p4 p5 p6 p7 p8 p9 p10 p11 p12 p13 p14 p15 p16 p17 p18 p19 p20 p21 p22 p23 p24 p25 p26 p27 p28 p29 p30 p31 p32 p33 p34 q0 HC; obtain ⟨⟨p0, p1, p2, p3, p4, p5, p6, p7, p8, p9, p10, p11, p12, p13, p14, p15, p16, p17, p18, p19, p20, p21, p22, p23, p24, p25, p26, p27, p28, p29, p30, p31, p32, p33, p34⟩, q0⟩ := HO.out _ G3.out))
    go_ret
    exact ⟨rfl, h3.out.1.thenNo G3.out⟩
  · go_wp2_with (first
      | (go_at_call 83; with_reducible refine (HE.out _ G0.out _ (by omega)).mono ?_; rintro e w4 ⟨rfl, h4⟩; have G1 := Lib.hid (G0.out.thenNo h4); clear h4 p0 p1 p2 p3 p4 p5 p6 p7 p8 p9 p10 p11 p12 p13 p14 p15 p16 p17 p18 p19 p20 p21 p22 p23 p24 p25 p26 p27 p28 p29 p30 p31 p32 p33 p34 q0 HE; obtain ⟨⟨p0, p1, p2, p3, p4, p5, p6, p7, p8, p9, p10, p11, p12, p13, p14, p15, p16, p17, p18, p19, p20, p21, p22, p23, p24, p25, p26, p27, p28, p29, p30, p31, p32, p33, p34⟩, q0⟩ := HO.out _ G1.out)
      | (go_at_call 83; with_reducible refine (HV.out _ G1.out _ (by omega)).mono ?_; rintro e w5 ⟨rfl, h5⟩; have G2 := Lib.hid (G1.out.thenNo h5); clear h5 p0 p1 p2 p3 p4 p5 p6 p7 p8 p9 p10 p11 p12 p13 p14 p15 p16 p17 p18 p19 p20 p21 p22 p23 p24 p25 p26 p27 p28 p29 p30 p31 p32 p33 p34 q0 HV; obtain ⟨⟨p0, p1, p2, p3, p4, p5, p6, p7, p8, p9, p10, p11, p12, p13, p14, p15, p16, p17, p18, p19, p20, p21, p22, p23, p24, p25, p26, p27, p28, p29, p30, p31, p32, p33, p34⟩, q0⟩ := HO.out _ G2.out)
      | (go_at_call 82; with_reducible refine (HC.out _ G2.out _ (by omega)).mono ?_; rintro e w6 ⟨rfl, h6⟩; have G3 := Lib.hid (G2.out.thenNo h6); clear h6 p0 p1 p2 p3 p4 p5 p6 p7 p8 p9 p10 p11 p12 p13 p14 p15 p16 p17 p18 p19 p20 p21 p22 p23 p24 p25 p26 p27 p28 p29 p30 p31 p32 p33 p34 q0 HC; obtain ⟨⟨p0, p1, p2, p3, p4, p5, p6, p7, p8, p9, p10, p11, p12, p13, p14, p15, p16, p17, p18, p19, p20, p21, p22, p23, p24, p25, p26, p27, p28, p29, p30, p31, p32, p33, p34⟩, q0⟩ := HO.out _ G3.out)
      | (go_at_call 69; with_reducible refine (HAA.out _ G3.out _ (by omega)).mono ?_; rintro e w7 ⟨rfl, h7⟩; have G4 := Lib.hid (G3.out.thenNo h7); clear h7 p0 p1 p2 p3 p4 p5 p6 p7 p8 p9 p10 p11 p12 p13 p14 p15 p16 p17 p18 p19 p20 p21 p22 p23 p24 p25 p26 p27 p28 p29 p30 p31 p32 p33 p34 q0 HAA; obtain ⟨⟨p0, p1, p2, p3, p4, p5, p6, p7, p8, p9, p10, p11, p12, p13, p14, p15, p16, p17, p18, p19, p20, p21, p22, p23, p24, p25, p26, p27, p28, p29, p30, p31, p32, p33, p34⟩, q0⟩ := HO.out _ G4.out)
      | (go_at_call 88; with_reducible refine (HX1.out _ G4.out _ (by omega)).mono ?_; rintro e w8 ⟨rfl, h8⟩; have G5 := Lib.hid (G4.out.thenNo h8); clear h8 p0 p1 p2 p3 p4 p5 p6 p7 p8 p9 p10 p11 p12 p13 p14 p15 p16 p17 p18 p19 p20 p21 p22 p23 p24 p25 p26 p27 p28 p29 p30 p31 p32 p33 p34 q0 HX1; obtain ⟨⟨p0, p1, p2, p3, p4, p5, p6, p7, p8, p9, p10, p11, p12, p13, p14, p15, p16, p17, p18, p19, p20, p21, p22, p23, p24, p25, p26, p27, p28, p29, p30, p31, p32, p33, p34⟩, q0⟩ := HO.out _ G5.out)
      | (go_at_call 88; with_reducible refine (HX2.out _ G5.out _ (by omega)).mono ?_; rintro e w9 ⟨rfl, h9⟩; have G6 := Lib.hid (G5.out.thenNo h9); clear h9 p0 p1 p2 p3 p4 p5 p6 p7 p8 p9 p10 p11 p12 p13 p14 p15 p16 p17 p18 p19 p20 p21 p22 p23 p24 p25 p26 p27 p28 p29 p30 p31 p32 p33 p34 q0 HX2; obtain ⟨⟨p0, p1, p2, p3, p4, p5, p6, p7, p8, p9, p10, p11, p12, p13, p14, p15, p16, p17, p18, p19, p20, p21, p22, p23, p24, p25, p26, p27, p28, p29, p30, p31, p32, p33, p34⟩, q0⟩ := HO.out _ G6.out)
      | (go_at_call 70; with_reducible refine (HS1.out _ G6.out _ (by omega)).mono ?_; rintro e w10 ⟨rfl, h10⟩; have G7 := Lib.hid (G6.out.thenNo h10); clear h10 p0 p1 p2 p3 p4 p5 p6 p7 p8 p9 p10 p11 p12 p13 p14 p15 p16 p17 p18 p19 p20 p21 p22 p23 p24 p25 p26 p27 p28 p29 p30 p31 p32 p33 p34 q0 HS1; obtain ⟨⟨p0, p1, p2, p3, p4, p5, p6, p7, p8, p9, p10, p11, p12, p13, p14, p15, p16, p17, p18, p19, p20, p21, p22, p23, p24, p25, p26, p27, p28, p29, p30, p31, p32, p33, p34⟩, q0⟩ := HO.out _ G7.out)
      | (go_at_call 70; with_reducible refine (HS2.out _ G7.out _ (by omega)).mono ?_; rintro e w11 ⟨rfl, h11⟩; have G8 := Lib.hid (G7.out.thenNo h11); clear h11 p0 p1 p2 p3 p4 p5 p6 p7 p8 p9 p10 p11 p12 p13 p14 p15 p16 p17 p18 p19 p20 p21 p22 p23 p24 p25 p26 p27 p28 p29 p30 p31 p32 p33 p34 q0 HS2; obtain ⟨⟨p0, p1, p2, p3, p4, p5, p6, p7, p8, p9, p10, p11, p12, p13, p14, p15, p16, p17, p18, p19, p20, p21, p22, p23, p24, p25, p26, p27, p28, p29, p30, p31, p32, p33, p34⟩, q0⟩ := HO.out _ G8.out))
    go_ret
    exact ⟨rfl, h3.out.1.thenNo G8.out⟩
theorem deepS_8 {m n : Nat} {x : CT m n} {R : Nat → Prop} {w : World} {ck : Int} {cA : Option Addr} {cel cca : Nat} {cB : Option Addr} {ckl cck : Nat} {cs : Array Value} (hcs : cs = stm8 ck cA cel cca cB ckl cck) (hx : (condV m n) R w [.int .i64 ck, .slice cA cel cca, .slice cB ckl cck] x) {bs : Nat} (hbs : w.heap[bs]? = some (.cells cs 96 (0, 0))) (b : Nat) (z : Int) (hz : z = b) (hb : 4 ≤ b) (hb2 : b ≤ 1000) :
    Calls Tryz.prog 70 #[.slice (some ⟨bs, 0, none⟩) 1 1, .int .i64 z] w fun e w' => e = .returned (.bool (deepC m n x (b - 1))) ∧ Chg No w w' := by
  subst hz
  have h3 : Hid (Chg No w (w.alloc (.cells #[.int .i64 b] 3))) := (Chg.refl _ _).alloc _
  have q0 : (w.alloc (.cells #[.int .i64 b] 3)).cell? ⟨w.heap.size, 0, none⟩ = some (.int .i64 b) := obj_1 (heap_alloc_new _ _)
  have HCF := Lib.hid (containsStmt1 (h3.out.obj hbs id) (by rw [hcs]; rfl) 87 entered_deepS1 (.pointer (some ⟨w.heap.size, 0, none⟩)) (deepC m n x (b - 1)) (fun W hW =>
    deepS1_8 hcs ((condV_good m n).no hx (h3.out.thenNo hW)) w.heap.size b hb hb2 (hW.cell q0 id)))
  generalize deepC m n x (b - 1) = ans at *
  clear hx hbs hcs
  go_enter Tryz.func70, Tryz.ntmps70
  go_wp2_with (go_at_call 86; refine HCF.out.mono ?_; rintro e w1 ⟨rfl, h1⟩)
  go_ret
  exact ⟨rfl, h3.out.thenNo h1⟩
end Go.Proofs.YtpmndblakmobdaaGreatDoor
