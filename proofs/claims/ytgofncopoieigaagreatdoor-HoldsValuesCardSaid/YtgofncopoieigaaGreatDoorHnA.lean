/-
  How deep a statement of one expression and one condition is: the reference's.
-/
import Derived.Test.YtgofncopoieigaaGreatDoorShI
import Derived.Test.YtgofncopoieigaaGreatDoorHmC
namespace Go.Proofs.YtgofncopoieigaaGreatDoor
open Go Go.RowKit

/-- A statement of an expression and a condition. -/
def stmG (kd : Int) (nm : ByteArray) (ek en : Int) (es : ByteArray) (eB : Option Addr) (ekl eck : Nat) (ck : Int) (cA : Option Addr) (cel cca : Nat) (cB : Option Addr) (ckl cck : Nat) : Array Value := #[.int .i64 kd, .string nm, .string ⟨#[]⟩, .string ⟨#[]⟩, .int .i64 ek, .int .i64 en, .string es, .slice eB ekl eck, .int .i64 0, .int .i64 0, .string ⟨#[]⟩, .slice none 0 0, .int .i64 ck, .slice cA cel cca, .slice cB ckl cck, .int .i64 0, .int .i64 0, .slice none 0 0, .slice none 0 0, .int .i64 0, .int .i64 0, .string ⟨#[]⟩, .slice none 0 0, .int .i64 0, .int .i64 0, .string ⟨#[]⟩, .slice none 0 0, .string ⟨#[]⟩, .int .i64 0, .slice none 0 0, .slice none 0 0, .slice none 0 0, .slice none 0 0, .slice none 0 0, .slice none 0 0]
theorem stmG_1 (ek en : Int) (es : ByteArray) (eB : Option Addr) (ekl eck : Nat) : stm1 ek en es eB ekl eck = stmG 1 ⟨#[120]⟩ ek en es eB ekl eck 0 none 0 0 none 0 0 := rfl
theorem stmG_8 (ck : Int) (cA : Option Addr) (cel cca : Nat) (cB : Option Addr) (ckl cck : Nat) : stm8 ck cA cel cca cB ckl cck = stmG 8 ⟨#[]⟩ 0 0 ⟨#[]⟩ none 0 0 ck cA cel cca cB ckl cck := rfl
theorem stmG_cells {w : World} {g : Nat} {kd : Int} {nm : ByteArray} {ek en : Int} {es : ByteArray} {eB : Option Addr} {ekl eck : Nat} {ck : Int} {cA : Option Addr} {cel cca : Nat} {cB : Option Addr} {ckl cck : Nat} (h : w.heap[g]? = some (.cells (stmG kd nm ek en es eB ekl eck ck cA cel cca cB ckl cck) 58 (0, 0))) : w.cell? ⟨g, 0, none⟩ = some (.int .i64 kd) ∧ w.cell? ⟨g, 1, none⟩ = some (.string nm) ∧ w.cell? ⟨g, 2, none⟩ = some (.string ⟨#[]⟩) ∧ w.cell? ⟨g, 3, none⟩ = some (.string ⟨#[]⟩) ∧ w.cell? ⟨g, 4, none⟩ = some (.int .i64 ek) ∧ w.cell? ⟨g, 5, none⟩ = some (.int .i64 en) ∧ w.cell? ⟨g, 6, none⟩ = some (.string es) ∧ w.cell? ⟨g, 7, none⟩ = some (.slice eB ekl eck) ∧ w.cell? ⟨g, 8, none⟩ = some (.int .i64 0) ∧ w.cell? ⟨g, 9, none⟩ = some (.int .i64 0) ∧ w.cell? ⟨g, 10, none⟩ = some (.string ⟨#[]⟩) ∧ w.cell? ⟨g, 11, none⟩ = some (.slice none 0 0) ∧ w.cell? ⟨g, 12, none⟩ = some (.int .i64 ck) ∧ w.cell? ⟨g, 13, none⟩ = some (.slice cA cel cca) ∧ w.cell? ⟨g, 14, none⟩ = some (.slice cB ckl cck) ∧ w.cell? ⟨g, 15, none⟩ = some (.int .i64 0) ∧ w.cell? ⟨g, 16, none⟩ = some (.int .i64 0) ∧ w.cell? ⟨g, 17, none⟩ = some (.slice none 0 0) ∧ w.cell? ⟨g, 18, none⟩ = some (.slice none 0 0) ∧ w.cell? ⟨g, 19, none⟩ = some (.int .i64 0) ∧ w.cell? ⟨g, 20, none⟩ = some (.int .i64 0) ∧ w.cell? ⟨g, 21, none⟩ = some (.string ⟨#[]⟩) ∧ w.cell? ⟨g, 22, none⟩ = some (.slice none 0 0) ∧ w.cell? ⟨g, 23, none⟩ = some (.int .i64 0) ∧ w.cell? ⟨g, 24, none⟩ = some (.int .i64 0) ∧ w.cell? ⟨g, 25, none⟩ = some (.string ⟨#[]⟩) ∧ w.cell? ⟨g, 26, none⟩ = some (.slice none 0 0) ∧ w.cell? ⟨g, 27, none⟩ = some (.string ⟨#[]⟩) ∧ w.cell? ⟨g, 28, none⟩ = some (.int .i64 0) ∧ w.cell? ⟨g, 29, none⟩ = some (.slice none 0 0) ∧ w.cell? ⟨g, 30, none⟩ = some (.slice none 0 0) ∧ w.cell? ⟨g, 31, none⟩ = some (.slice none 0 0) ∧ w.cell? ⟨g, 32, none⟩ = some (.slice none 0 0) ∧ w.cell? ⟨g, 33, none⟩ = some (.slice none 0 0) ∧ w.cell? ⟨g, 34, none⟩ = some (.slice none 0 0) := by
  unfold stmG at h
  simp [World.cell?, h]
def dS (me mc n : Nat) (x : ET me) (y : CT mc n) : Nat := max (max (dC mc n y 99) (max (dE me x 99) (dE 1 zE 99))) (dA 1 1 1 zA 99) + 1
theorem dS_deep (me mc n : Nat) (x : ET me) (y : CT mc n) : decide (100 < dS me mc n x y) = (deepC mc n y 99 || deepE me x 99) := by
  have h1 := dC_deep mc n y 99
  have h2 := dE_deep me x 99
  have h3 := dE_deep 1 zE 99
  have h4 := dA_deep 1 1 1 zA 99
  rw [zE_deep (by omega)] at h3
  rw [zA_deep (by omega)] at h4
  have h3' : ¬ 99 < dE 1 zE 99 := of_decide_eq_false h3
  have h4' : ¬ 99 < dA 1 1 1 zA 99 := of_decide_eq_false h4
  rw [← h1, ← h2]
  unfold dS
  generalize dC mc n y 99 = a at *
  generalize dE me x 99 = b at *
  generalize dE 1 zE 99 = c at *
  generalize dA 1 1 1 zA 99 = d at *
  rw [Bool.eq_iff_iff, Bool.or_eq_true]
  simp only [decide_eq_true_eq]
  omega

set_option maxRecDepth 100000 in
set_option maxHeartbeats 4000000 in
theorem depthS15_any {me mc n : Nat} {x : ET me} {y : CT mc n} {R R2 : Nat → Prop} {w : World} {kd : Int} {nm : ByteArray} {ek en : Int} {es : ByteArray} {eB : Option Addr} {ekl eck : Nat} {ck : Int} {cA : Option Addr} {cel cca : Nat} {cB : Option Addr} {ckl cck : Nat} {cs : Array Value} (hcs : cs = stmG kd nm ek en es eB ekl eck ck cA cel cca cB ckl cck) (hx : (exprV me) R w [.int .i64 ek, .int .i64 en, .string es, .slice eB ekl eck] x) (hy : (condV mc n) R2 w [.int .i64 ck, .slice cA cel cca, .slice cB ckl cck] y) {z : Int} (hz : z = 100) :
    Calls Tryz.prog 63 #[.agg cs, .int .i64 z] w fun e w' => e = .returned (.int .i64 (dS me mc n x y)) ∧ Chg No w w' := by
  obtain ⟨w3, hw3⟩ : ∃ w3, w3 = w.alloc (.cells cs 58) := ⟨_, rfl⟩
  have h3 : Hid (Chg No w w3 ∧ w3.heap[w.heap.size]? = some (.cells cs 58 (0, 0))) := by
    rw [hw3]; exact ⟨(Chg.refl _ _).alloc _, heap_alloc_new _ _⟩
  have HO := Lib.hid (fun W (hW : Chg No w3 W) => stmG_cells (hcs ▸ hW.obj h3.out.2 id))
  have HCC : Hid (∀ d os, Calls Tryz.prog 96 #[.agg #[.int .i64 ck, .slice cA cel cca, .slice cB ckl cck], .int .i64 (z - 1)] (later w3 d os) fun e w'' => e = .returned (.int .i64 (dC mc n y 99)) ∧ ∃ p : Lat, w'' = later w3 p.d p.os) := fun d os =>
    Calls.later_of (depthC_any mc n _ _ _ _ ((condV_good mc n).no ((condV_good mc n).no hy h3.out.1) (chg_later w3 d os)) 99 (z - 1) (by omega) (by omega))
  have HCE : Hid (∀ d os, Calls Tryz.prog 97 #[.agg #[.int .i64 ek, .int .i64 en, .string es, .slice eB ekl eck], .int .i64 (z - 1)] (later w3 d os) fun e w'' => e = .returned (.int .i64 (dE me x 99)) ∧ ∃ p : Lat, w'' = later w3 p.d p.os) := fun d os =>
    Calls.later_of (depthE_any me _ _ _ _ ((exprV_good me).no ((exprV_good me).no hx h3.out.1) (chg_later w3 d os)) 99 (z - 1) (by omega) (by omega))
  have HCV : Hid (∀ d os, Calls Tryz.prog 97 #[.agg #[.int .i64 0, .int .i64 0, .string ⟨#[]⟩, .slice none 0 0], .int .i64 (z - 1)] (later w3 d os) fun e w'' => e = .returned (.int .i64 (dE 1 zE 99)) ∧ ∃ p : Lat, w'' = later w3 p.d p.os) := fun d os =>
    Calls.later_of (depthE_any 1 _ No _ _ (zE_is No _) 99 (z - 1) (by omega) (by omega))
  have HCA := Lib.hid (fun W => depthA_any 1 1 1 zA No W _ (zA_is No W) 99 (z - 1) (by omega) (by omega))
  have hz0 : (z == 0) = false := by simp; omega
  have hzl : 1 ≤ z := by omega
  have hzh : z ≤ 1000 := by omega
  have hw1 : IntKind.i64.wrap (z - 1) = z - 1 := by rw [IntKind.wrap_i64]; omega
  have hl1 := dC_le mc n y 99
  have hl2 := dE_le me x 99
  have hl3 := dE_le 1 zE 99
  have hl4 := dA_le 1 1 1 zA 99
  unfold dS
  clear hx hy hcs hz
  generalize dC mc n y 99 = d1 at *
  generalize dE me x 99 = d2 at *
  generalize dE 1 zE 99 = d3 at *
  generalize dA 1 1 1 zA 99 = d4 at *
  have HB1 : Hid (∀ d os, Calls Tryz.prog 95 #[.int .i64 d2, .int .i64 d3] (later w3 d os) fun e w'' => e = .returned (.int .i64 ((max d2 d3 : Nat) : Int)) ∧ ∃ p : Lat, w'' = later w3 p.d p.os) := fun d os => Calls.later_same (big15_any d2 d3 _)
  have HB2 : Hid (∀ d os, Calls Tryz.prog 95 #[.int .i64 d1, .int .i64 ((max d2 d3 : Nat) : Int)] (later w3 d os) fun e w'' => e = .returned (.int .i64 ((max d1 (max d2 d3) : Nat) : Int)) ∧ ∃ p : Lat, w'' = later w3 p.d p.os) := fun d os => Calls.later_same (big15_any d1 (max d2 d3) _)
  have HB3 := Lib.hid (fun W => big15_any (max d1 (max d2 d3)) d4 W)
  have hm1 : max (max d1 (max d2 d3)) d4 ≤ 1000 := Nat.max_le.2 ⟨Nat.max_le.2 ⟨by omega, Nat.max_le.2 ⟨by omega, by omega⟩⟩, by omega⟩
  generalize max (max d1 (max d2 d3)) d4 = m3 at *
  generalize max d1 (max d2 d3) = m1 at *
  generalize max d2 d3 = m2 at *
  obtain ⟨p0, p1, p2, p3, p4, p5, p6, p7, p8, p9, p10, p11, p12, p13, p14, p15, p16, p17, p18, p19, p20, p21, p22, p23, p24, p25, p26, p27, p28, p29, p30, p31, p32, p33, p34⟩ := HO.out w3 (Chg.refl _ _)
  have l4 := cell_later p4
  have l5 := cell_later p5
  have l6 := cell_later p6
  have l7 := cell_later p7
  have l8 := cell_later p8
  have l9 := cell_later p9
  have l10 := cell_later p10
  have l11 := cell_later p11
  have l12 := cell_later p12
  have l13 := cell_later p13
  have l14 := cell_later p14
  go_enter Tryz.func63, Tryz.ntmps63
  go_upto_region 1 with fail
  rw [← hw3]
  clear hw3
  go_upto_region 3 with fail
  refine wp_region_later (by kernel_rfl) (by kernel_rfl) ?_
  repeat (go_big_quiet_step (first
    | (go_at_call 96; with_reducible exact HCC.out _ _)
    | (go_at_call 97; with_reducible exact HCE.out _ _)
    | (go_at_call 97; with_reducible exact HCV.out _ _)
    | (go_at_call 95; with_reducible exact HB1.out _ _)
    | (go_at_call 95; with_reducible exact HB2.out _ _)))
  refine wpQuiet_nil ?_
  intro _ hw'
  obtain ⟨⟨dq, osq⟩, hw''⟩ := hw'
  subst hw''
  clear p0 p1 p2 p3 p4 p5 p6 p7 p8 p9 p10 p11 p12 p13 p14 p15 p16 p17 p18 p19 p20 p21 p22 p23 p24 p25 p26 p27 p28 p29 p30 p31 p32 p33 p34 l4 l5 l6 l7 l8 l9 l10 l11 l12 l13 l14 HCC HCE HCV HB1 HB2
  have HCH : Hid (Chg No w3 (later w3 dq osq)) := chg_later w3 dq osq
  generalize later w3 dq osq = w4 at *
  obtain ⟨p0, p1, p2, p3, p4, p5, p6, p7, p8, p9, p10, p11, p12, p13, p14, p15, p16, p17, p18, p19, p20, p21, p22, p23, p24, p25, p26, p27, p28, p29, p30, p31, p32, p33, p34⟩ := HO.out w4 HCH.out
  go_upto_region 5 with (first
    | (go_at_call 62; (with_reducible refine (HCA.out _).mono ?_); rintro e w5 ⟨rfl, h5⟩; have H5 := Lib.hid (HCH.out.thenNo h5); clear h5)
    | (go_at_call 95; (with_reducible refine (HB3.out _).mono ?_); rintro e w6 ⟨rfl, rfl⟩))
  clear p0 p1 p2 p3 p4 p5 p6 p7 p8 p9 p10 p11 p12 p13 p14 p15 p16 p17 p18 p19 p20 p21 p22 p23 p24 p25 p26 p27 p28 p29 p30 p31 p32 p33 p34 HCA HB3
  have HC0 := Lib.hid (HO.out w5 H5.out)
  clear HO
  obtain ⟨p0, p1, p2, p3, p4, p5, p6, p7, p8, p9, p10, p11, p12, p13, p14, p15, p16, p17, p18, p19, p20, p21, p22, p23, p24, p25, p26, p27, p28, p29, p30, p31, p32, p33, p34⟩ := HC0.out
  clear p0 p1 p2 p3 p4 p5 p6 p7 p8 p9 p10 p11 p12 p13 p14 p15 p16 p17 p18 p19 p20 p21 p22 p23 p24 p25 p26 p27 p28 p29 p32
  go_wp2_with fail
  go_loop [5, 6] (fun d i => d = .int .i64 m3 ∧ i = .int .i64 0) (fun _ _ => 0)
  case atStart => exact ⟨rfl, rfl⟩
  case round =>
    obtain ⟨rfl, rfl⟩ := hrel
    go_wp2_with fail
    go_loop [5, 7] (fun d i => d = .int .i64 m3 ∧ i = .int .i64 0) (fun _ _ => 0)
    case atStart => exact ⟨rfl, rfl⟩
    case round =>
      obtain ⟨rfl, rfl⟩ := hrel
      go_wp2_with fail
      go_loop [5, 8] (fun d i => d = .int .i64 m3 ∧ i = .int .i64 0) (fun _ _ => 0)
      case atStart => exact ⟨rfl, rfl⟩
      case round =>
        obtain ⟨rfl, rfl⟩ := hrel
        go_wp2_with fail
        go_loop [5, 9] (fun d i => d = .int .i64 m3 ∧ i = .int .i64 0) (fun _ _ => 0)
        case atStart => exact ⟨rfl, rfl⟩
        case round =>
          obtain ⟨rfl, rfl⟩ := hrel
          go_wp2_with fail
          go_ret
          exact ⟨rfl, h3.out.1.thenNo H5.out⟩
end Go.Proofs.YtgofncopoieigaaGreatDoor
