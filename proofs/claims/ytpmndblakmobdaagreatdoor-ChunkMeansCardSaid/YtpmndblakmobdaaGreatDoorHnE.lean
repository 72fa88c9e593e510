/-
  The reference's SizeS of one statement ends; chapter 18's smallS.
-/
import Derived.Test.YtpmndblakmobdaaGreatDoorHnA
import Derived.Test.YtpmndblakmobdaaGreatDoorHlI
import Derived.Test.YtpmndblakmobdaaGreatDoorShJ
namespace Go.Proofs.YtpmndblakmobdaaGreatDoor
open Go Go.RowKit

set_option maxRecDepth 100000 in
theorem sizeS_nil (w : World) : SzCall 32 w (.slice none 0 0) := by
  intro left d z h1 h2 hz hd
  by_cases h0 : z = 0
  · subst h0
    go_enter Tryz.func32, Tryz.ntmps32
    go_wp2_with fail
    go_ret
    exact ⟨-1, rfl, by omega, h1, Chg.refl _ _⟩
  have hz0 : (z == 0) = false := by simpa using h0
  clear hz
  go_enter Tryz.func32, Tryz.ntmps32
  go_wp2_with fail
  go_loopw [1, 7] (fun s1 s7 wr => s1 = .int .i64 left ∧ s7 = .int .i64 0 ∧ w = wr) (fun _ _ _ => 0)
  case atStart => exact ⟨rfl, rfl, rfl⟩
  case round =>
    obtain ⟨rfl, rfl, rfl⟩ := hrel
    go_wp2_with fail
    go_ret
    exact ⟨left, rfl, h1, Int.le_refl _, Chg.refl _ _⟩
theorem exprV_zero {m : Nat} {x : ET m} {R : Nat → Prop} {w : World} {cs : List Value} (hx : (exprV m) R w cs x) : ∃ y : ET m, ∀ (R : Nat → Prop) (w : World), (exprV m) R w [.int .i64 0, .int .i64 0, .string ⟨#[]⟩, .slice none 0 0] y := by
  cases m with
  | zero => exact hx.elim
  | succ k => exact ⟨(⟨0, 0, ⟨#[]⟩, []⟩ : ENode (ET k)), fun R w => ⟨none, 0, rfl, I64.of (show (-9000000000000000000 : Int) ≤ 0 by decide) (show (0 : Int) ≤ 9000000000000000000 by decide), I64.of (show (-9000000000000000000 : Int) ≤ 0 by decide) (show (0 : Int) ≤ 9000000000000000000 by decide), show (0 : Nat) ≤ maxLen by decide, Sl.empty⟩⟩

set_option maxRecDepth 100000 in
set_option maxHeartbeats 8000000 in
theorem sizeS_one {me mc n : Nat} {x : ET me} {y : CT mc n} {R R2 : Nat → Prop} {w : World} {ek en : Int} {es : ByteArray} {eB : Option Addr} {ekl eck : Nat} {ck : Int} {cA : Option Addr} {cel cca : Nat} {cB : Option Addr} {ckl cck : Nat} {cs : Array Value} (hcs : cs = stmG 0 ⟨#[]⟩ ek en es eB ekl eck ck cA cel cca cB ckl cck) (hx : (exprV me) R w [.int .i64 ek, .int .i64 en, .string es, .slice eB ekl eck] x) (hy : (condV mc n) R2 w [.int .i64 ck, .slice cA cel cca, .slice cB ckl cck] y) {bs : Nat} (hbs : w.heap[bs]? = some (.cells cs 96 (0, 0))) {left z : Int} (hl : left = 300) (hz : z = 300) :
    Calls Tryz.prog 32 #[.slice (some ⟨bs, 0, none⟩) 1 1, .int .i64 left, .int .i64 z] w (SzRet w left) := by
  have hx2 := (exprV_good me).mono hx (R' := fun q => q < w.heap.size) (fun q hq _ => hq)
  have hy2 := (condV_good mc n).mono hy (R' := fun q => q < w.heap.size) (fun q hq _ => hq)
  obtain ⟨y0, hy0⟩ := exprV_zero hx
  have HSC : Hid (∀ W c, Chg No w W → w.heap.size ≤ c → W.heap[c]? = some (.cells #[.int .i64 ck, .slice cA cel cca, .slice cB ckl cck] 56 (0, 0)) → Calls Tryz.prog 50 #[.slice (some ⟨c, 0, none⟩) 1 1, .int .i64 (left - 1), .int .i64 (z - 1)] W (SzRet W (left - 1))) := fun W c hW hc ho =>
    szc_one ((condV_good mc n).no hy2 hW) (fun q hq => by omega) ho (left - 1) 299 (z - 1) (by omega) (by omega) (by omega) (by omega)
  have HSE : Hid (∀ W c (u : Int), -1 ≤ u → u ≤ 300 → Chg No w W → w.heap.size ≤ c → W.heap[c]? = some (.cells #[.int .i64 ek, .int .i64 en, .string es, .slice eB ekl eck, .int .i64 0, .int .i64 0, .string ⟨#[]⟩, .slice none 0 0] 53 (0, 0)) → Calls Tryz.prog 51 #[.slice (some ⟨c, 0, none⟩) 2 2, .int .i64 u, .int .i64 (z - 1)] W (SzRet W u)) := fun W c u hu hu2 hW hc ho =>
    sze_two ((exprV_good me).no hx2 hW) (hy0 (fun q => q < w.heap.size) W) (fun q hq => by omega) ho u 299 (z - 1) hu (by omega) (by omega) (by omega)
  have HSN : Hid (∀ W (u : Int), -1 ≤ u → u ≤ 300 → Calls Tryz.prog 51 #[.slice none 0 0, .int .i64 u, .int .i64 (z - 1)] W (SzRet W u)) := fun W u hu hu2 =>
    sze_any 1 (R := No) (w := W) (A := none) (l := []) (cap := 0) Sl.empty u 299 (z - 1) hu (by omega) (by omega) (by omega)
  have HSA : Hid (∀ W c (u : Int), -1 ≤ u → u ≤ 300 → W.heap[c]? = some (.cells #[.int .i64 0, .int .i64 0, .slice none 0 0, .slice none 0 0, .int .i64 0, .int .i64 0, .string ⟨#[]⟩, .slice none 0 0, .int .i64 0, .int .i64 0, .string ⟨#[]⟩, .slice none 0 0, .string ⟨#[]⟩, .int .i64 0, .slice none 0 0] 92 (0, 0)) → Calls Tryz.prog 52 #[.slice (some ⟨c, 0, none⟩) 1 1, .int .i64 u, .int .i64 (z - 1)] W (SzRetA W u (lvA 1 1 1 zA))) := fun W c u hu hu2 ho =>
    sza_one (zA_is No W) (fun q hq => hq.elim) ho u 299 (z - 1) hu (by omega) (by omega) (by omega)
  have HSS : Hid (∀ W (u : Int), -1 ≤ u → u ≤ 300 → Calls Tryz.prog 32 #[.slice none 0 0, .int .i64 u, .int .i64 (z - 1)] W (SzRet W u)) := fun W u hu hu2 =>
    sizeS_nil W u 299 (z - 1) hu (by omega) (by omega) (by omega)
  have hinfo : Hid ((Tryz.prog.info? 96).map (·.size) = some cs.size) := by unfold Hid; rw [hcs]; kernel_rfl
  have HONE : Hid (cs.all (·.oneCell') = true) := by unfold Hid; rw [hcs]; unfold stmG; simp [Value.oneCell']
  have HSZ : Hid (cs.size = 35) := by unfold Hid; rw [hcs]; rfl
  have HO : Hid (∀ (g : Nat) (W : World), W.heap[g]? = some (.cells cs 96 (0, 0)) → W.cell? ⟨g, 0, none⟩ = some (.int .i64 0) ∧ W.cell? ⟨g, 1, none⟩ = some (.string ⟨#[]⟩) ∧ W.cell? ⟨g, 2, none⟩ = some (.string ⟨#[]⟩) ∧ W.cell? ⟨g, 3, none⟩ = some (.string ⟨#[]⟩) ∧ W.cell? ⟨g, 4, none⟩ = some (.int .i64 ek) ∧ W.cell? ⟨g, 5, none⟩ = some (.int .i64 en) ∧ W.cell? ⟨g, 6, none⟩ = some (.string es) ∧ W.cell? ⟨g, 7, none⟩ = some (.slice eB ekl eck) ∧ W.cell? ⟨g, 8, none⟩ = some (.int .i64 0) ∧ W.cell? ⟨g, 9, none⟩ = some (.int .i64 0) ∧ W.cell? ⟨g, 10, none⟩ = some (.string ⟨#[]⟩) ∧ W.cell? ⟨g, 11, none⟩ = some (.slice none 0 0) ∧ W.cell? ⟨g, 12, none⟩ = some (.int .i64 ck) ∧ W.cell? ⟨g, 13, none⟩ = some (.slice cA cel cca) ∧ W.cell? ⟨g, 14, none⟩ = some (.slice cB ckl cck) ∧ W.cell? ⟨g, 15, none⟩ = some (.int .i64 0) ∧ W.cell? ⟨g, 16, none⟩ = some (.int .i64 0) ∧ W.cell? ⟨g, 17, none⟩ = some (.slice none 0 0) ∧ W.cell? ⟨g, 18, none⟩ = some (.slice none 0 0) ∧ W.cell? ⟨g, 19, none⟩ = some (.int .i64 0) ∧ W.cell? ⟨g, 20, none⟩ = some (.int .i64 0) ∧ W.cell? ⟨g, 21, none⟩ = some (.string ⟨#[]⟩) ∧ W.cell? ⟨g, 22, none⟩ = some (.slice none 0 0) ∧ W.cell? ⟨g, 23, none⟩ = some (.int .i64 0) ∧ W.cell? ⟨g, 24, none⟩ = some (.int .i64 0) ∧ W.cell? ⟨g, 25, none⟩ = some (.string ⟨#[]⟩) ∧ W.cell? ⟨g, 26, none⟩ = some (.slice none 0 0) ∧ W.cell? ⟨g, 27, none⟩ = some (.string ⟨#[]⟩) ∧ W.cell? ⟨g, 28, none⟩ = some (.int .i64 0) ∧ W.cell? ⟨g, 29, none⟩ = some (.slice none 0 0) ∧ W.cell? ⟨g, 30, none⟩ = some (.slice none 0 0) ∧ W.cell? ⟨g, 31, none⟩ = some (.slice none 0 0) ∧ W.cell? ⟨g, 32, none⟩ = some (.slice none 0 0) ∧ W.cell? ⟨g, 33, none⟩ = some (.slice none 0 0) ∧ W.cell? ⟨g, 34, none⟩ = some (.slice none 0 0)) := fun g W h => stmG_cells (hcs ▸ h)
  have HB := Lib.hid hbs
  have hz0 : (z == 0) = false := by simp; omega
  have hzl : 1 ≤ z := by omega
  have hzh : z ≤ 1000 := by omega
  have hll : 1 ≤ left := by omega
  have hlh : left ≤ 300 := by omega
  have hw1 : IntKind.i64.wrap (z - 1) = z - 1 := by rw [IntKind.wrap_i64]; omega
  have hw2 : IntKind.i64.wrap (left - 1) = left - 1 := by rw [IntKind.wrap_i64]; omega
  clear hx hy hx2 hy2 hy0 y0 hbs hcs hl hz
  go_enter Tryz.func32, Tryz.ntmps32
  go_wp2_with fail
  go_loopw [1, 7] (fun s1 s7 wr => (s1 = .int .i64 left ∧ s7 = .int .i64 0 ∧ w = wr) ∨ (∃ v : Int, s1 = .int .i64 v ∧ s7 = .int .i64 1 ∧ -1 ≤ v ∧ v ≤ left ∧ Hid (Chg No w wr))) (fun _ s7 _ => 1 - (intOf s7).toNat)
  case atStart => exact .inl ⟨rfl, rfl, rfl⟩
  case round =>
    rcases hrel with ⟨rfl, rfl, rfl⟩ | ⟨v, rfl, rfl, gv1, gv2, hch⟩
    · have hv : (0 : Int) ≤ left := by omega
      go_upto_region 7 with (first
        | (refine wpList_load_row rfl 96 _ rfl bs rfl 96 cs (0, 0) _ HB.out Tryz.underlying96 rfl hinfo.out ?_)
        | (refine wpList_store_row rfl 96 _ _ rfl w.heap.size cs rfl rfl 96 _ (heap_alloc_new _ _) hinfo.out (by rw [HSZ.out]; rfl) HONE.out ?_))
      obtain ⟨w4, hw4⟩ : ∃ w4, w4 = (w.alloc (.cells #[.int .i64 0, .string ⟨#[]⟩, .string ⟨#[]⟩, .string ⟨#[]⟩, .int .i64 0, .int .i64 0, .string ⟨#[]⟩, .slice none 0 0, .int .i64 0, .int .i64 0, .string ⟨#[]⟩, .slice none 0 0, .int .i64 0, .slice none 0 0, .slice none 0 0, .int .i64 0, .int .i64 0, .slice none 0 0, .slice none 0 0, .int .i64 0, .int .i64 0, .string ⟨#[]⟩, .slice none 0 0, .int .i64 0, .int .i64 0, .string ⟨#[]⟩, .slice none 0 0, .string ⟨#[]⟩, .int .i64 0, .slice none 0 0, .slice none 0 0, .slice none 0 0, .slice none 0 0, .slice none 0 0, .slice none 0 0] 96)).setRow w.heap.size cs := ⟨_, rfl⟩
      rw [← hw4]
      obtain ⟨g, hg⟩ : ∃ g, g = w.heap.size := ⟨_, rfl⟩
      rw [← hg]
      have C4 : Hid (Chg No w w4 ∧ w4.heap[g]? = some (.cells cs 96 (0, 0))) := by
        rw [hw4, hg]
        exact ⟨chg_setRow cs, setRow_heap _ _ _ _ _ _ (heap_alloc_new _ _)⟩
      have HOg := Lib.hid (fun W (hW : Chg No w4 W) => HO.out g W (hW.obj C4.out.2 id))
      have G0 := Lib.hid C4.out.1
      have D0 : Hid (Chg No w4 w4) := Chg.refl _ _
      clear hw4 hg HB HO hinfo HONE HSZ C4
      obtain ⟨p0, p1, p2, p3, p4, p5, p6, p7, p8, p9, p10, p11, p12, p13, p14, p15, p16, p17, p18, p19, p20, p21, p22, p23, p24, p25, p26, p27, p28, p29, p30, p31, p32, p33, p34⟩ := HOg.out _ D0.out
      go_upto_region 8 with (go_at_call 50; (with_reducible refine (HSC.out _ _ (G0.out.alloc _) G0.out.size (heap_alloc_new _ _)).mono ?_); rintro e u1 ⟨v1, rfl, a1, b1, h1⟩; have G1 := Lib.hid ((G0.out.alloc (.cells #[.int .i64 ck, .slice cA cel cca, .slice cB ckl cck] 56)).thenNo h1); have D1 := Lib.hid ((D0.out.alloc (.cells #[.int .i64 ck, .slice cA cel cca, .slice cB ckl cck] 56)).thenNo h1); clear h1)
      clear p0 p1 p2 p3 p4 p5 p6 p7 p8 p9 p10 p11 p12 p13 p14 p15 p16 p17 p18 p19 p20 p21 p22 p23 p24 p25 p26 p27 p28 p29 p30 p31 p32 p33 p34
      by_cases hv1 : 0 ≤ v1
      · obtain ⟨p0, p1, p2, p3, p4, p5, p6, p7, p8, p9, p10, p11, p12, p13, p14, p15, p16, p17, p18, p19, p20, p21, p22, p23, p24, p25, p26, p27, p28, p29, p30, p31, p32, p33, p34⟩ := HOg.out _ D1.out
        have HN1 := Lib.hid (fun W c hW hc ho => HSE.out W c v1 a1 (by omega) hW hc ho)
        go_upto_region 10 with (go_at_call 51; (with_reducible refine (HN1.out _ _ (G1.out.alloc _) G1.out.size (heap_alloc_new _ _)).mono ?_); rintro e u2 ⟨v2, rfl, a2, b2, h2⟩; have G2 := Lib.hid ((G1.out.alloc (.cells #[.int .i64 ek, .int .i64 en, .string es, .slice eB ekl eck, .int .i64 0, .int .i64 0, .string ⟨#[]⟩, .slice none 0 0] 53)).thenNo h2); have D2 := Lib.hid ((D1.out.alloc (.cells #[.int .i64 ek, .int .i64 en, .string es, .slice eB ekl eck, .int .i64 0, .int .i64 0, .string ⟨#[]⟩, .slice none 0 0] 53)).thenNo h2); clear h2)
        clear p0 p1 p2 p3 p4 p5 p6 p7 p8 p9 p10 p11 p12 p13 p14 p15 p16 p17 p18 p19 p20 p21 p22 p23 p24 p25 p26 p27 p28 p29 p30 p31 p32 p33 p34
        by_cases hv2 : 0 ≤ v2
        · obtain ⟨p0, p1, p2, p3, p4, p5, p6, p7, p8, p9, p10, p11, p12, p13, p14, p15, p16, p17, p18, p19, p20, p21, p22, p23, p24, p25, p26, p27, p28, p29, p30, p31, p32, p33, p34⟩ := HOg.out _ D2.out
          have HN2 := Lib.hid (HSN.out u2 v2 a2 (by omega))
          go_upto_region 12 with (go_at_call 51; (with_reducible refine HN2.out.mono ?_); rintro e u3 ⟨v3, rfl, a3, b3, h3⟩; have G3 := Lib.hid (G2.out.thenNo h3); have D3 := Lib.hid (D2.out.thenNo h3); clear h3)
          clear p0 p1 p2 p3 p4 p5 p6 p7 p8 p9 p10 p11 p12 p13 p14 p15 p16 p17 p18 p19 p20 p21 p22 p23 p24 p25 p26 p27 p28 p29 p30 p31 p32 p33 p34
          by_cases hv3 : 0 ≤ v3
          · obtain ⟨p0, p1, p2, p3, p4, p5, p6, p7, p8, p9, p10, p11, p12, p13, p14, p15, p16, p17, p18, p19, p20, p21, p22, p23, p24, p25, p26, p27, p28, p29, p30, p31, p32, p33, p34⟩ := HOg.out _ D3.out
            have HN3 := Lib.hid (HSN.out u3 v3 a3 (by omega))
            go_upto_region 14 with (go_at_call 51; (with_reducible refine HN3.out.mono ?_); rintro e u4 ⟨v4, rfl, a4, b4, h4⟩; have G4 := Lib.hid (G3.out.thenNo h4); have D4 := Lib.hid (D3.out.thenNo h4); clear h4)
            clear p0 p1 p2 p3 p4 p5 p6 p7 p8 p9 p10 p11 p12 p13 p14 p15 p16 p17 p18 p19 p20 p21 p22 p23 p24 p25 p26 p27 p28 p29 p30 p31 p32 p33 p34
            by_cases hv4 : 0 ≤ v4
            · obtain ⟨p0, p1, p2, p3, p4, p5, p6, p7, p8, p9, p10, p11, p12, p13, p14, p15, p16, p17, p18, p19, p20, p21, p22, p23, p24, p25, p26, p27, p28, p29, p30, p31, p32, p33, p34⟩ := HOg.out _ D4.out
              have HN4 := Lib.hid (fun W c ho => HSA.out W c v4 a4 (by omega) ho)
              go_upto_region 16 with (go_at_call 52; (with_reducible refine (HN4.out _ _ (heap_alloc_new _ _)).mono ?_); rintro e u5 ⟨v5, rfl, a5, b5, _, h5⟩; have G5 := Lib.hid ((G4.out.alloc (.cells #[.int .i64 0, .int .i64 0, .slice none 0 0, .slice none 0 0, .int .i64 0, .int .i64 0, .string ⟨#[]⟩, .slice none 0 0, .int .i64 0, .int .i64 0, .string ⟨#[]⟩, .slice none 0 0, .string ⟨#[]⟩, .int .i64 0, .slice none 0 0] 92)).thenNo h5); have D5 := Lib.hid ((D4.out.alloc (.cells #[.int .i64 0, .int .i64 0, .slice none 0 0, .slice none 0 0, .int .i64 0, .int .i64 0, .string ⟨#[]⟩, .slice none 0 0, .int .i64 0, .int .i64 0, .string ⟨#[]⟩, .slice none 0 0, .string ⟨#[]⟩, .int .i64 0, .slice none 0 0] 92)).thenNo h5); clear h5)
              clear p0 p1 p2 p3 p4 p5 p6 p7 p8 p9 p10 p11 p12 p13 p14 p15 p16 p17 p18 p19 p20 p21 p22 p23 p24 p25 p26 p27 p28 p29 p30 p31 p32 p33 p34
              by_cases hv5 : 0 ≤ v5
              · obtain ⟨p0, p1, p2, p3, p4, p5, p6, p7, p8, p9, p10, p11, p12, p13, p14, p15, p16, p17, p18, p19, p20, p21, p22, p23, p24, p25, p26, p27, p28, p29, p30, p31, p32, p33, p34⟩ := HOg.out _ D5.out
                have HN5 := Lib.hid (HSS.out u5 v5 a5 (by omega))
                go_upto_region 18 with (go_at_call 32; (with_reducible refine HN5.out.mono ?_); rintro e u6 ⟨v6, rfl, a6, b6, h6⟩; have G6 := Lib.hid (G5.out.thenNo h6); have D6 := Lib.hid (D5.out.thenNo h6); clear h6)
                clear p0 p1 p2 p3 p4 p5 p6 p7 p8 p9 p10 p11 p12 p13 p14 p15 p16 p17 p18 p19 p20 p21 p22 p23 p24 p25 p26 p27 p28 p29 p30 p31 p32 p33 p34
                by_cases hv6 : 0 ≤ v6
                · obtain ⟨p0, p1, p2, p3, p4, p5, p6, p7, p8, p9, p10, p11, p12, p13, p14, p15, p16, p17, p18, p19, p20, p21, p22, p23, p24, p25, p26, p27, p28, p29, p30, p31, p32, p33, p34⟩ := HOg.out _ D6.out
                  have HN6 := Lib.hid (HSS.out u6 v6 a6 (by omega))
                  go_upto_region 20 with (go_at_call 32; (with_reducible refine HN6.out.mono ?_); rintro e u7 ⟨v7, rfl, a7, b7, h7⟩; have G7 := Lib.hid (G6.out.thenNo h7); have D7 := Lib.hid (D6.out.thenNo h7); clear h7)
                  clear p0 p1 p2 p3 p4 p5 p6 p7 p8 p9 p10 p11 p12 p13 p14 p15 p16 p17 p18 p19 p20 p21 p22 p23 p24 p25 p26 p27 p28 p29 p30 p31 p32 p33 p34
                  obtain ⟨p0, p1, p2, p3, p4, p5, p6, p7, p8, p9, p10, p11, p12, p13, p14, p15, p16, p17, p18, p19, p20, p21, p22, p23, p24, p25, p26, p27, p28, p29, p30, p31, p32, p33, p34⟩ := HOg.out _ D7.out
                  go_wp2_with fail
                  go_roundw
                  case rel => exact .inr ⟨v7, rfl, by go_num, by omega, by omega, G7.out⟩
                  case measure => simp [intOf]
                · obtain ⟨p0, p1, p2, p3, p4, p5, p6, p7, p8, p9, p10, p11, p12, p13, p14, p15, p16, p17, p18, p19, p20, p21, p22, p23, p24, p25, p26, p27, p28, p29, p30, p31, p32, p33, p34⟩ := HOg.out _ D6.out
                  go_wp2_with fail
                  go_roundw
                  case rel => exact .inr ⟨v6, rfl, by go_num, by omega, by omega, G6.out⟩
                  case measure => simp [intOf]
              · obtain ⟨p0, p1, p2, p3, p4, p5, p6, p7, p8, p9, p10, p11, p12, p13, p14, p15, p16, p17, p18, p19, p20, p21, p22, p23, p24, p25, p26, p27, p28, p29, p30, p31, p32, p33, p34⟩ := HOg.out _ D5.out
                go_wp2_with fail
                go_roundw
                case rel => exact .inr ⟨v5, rfl, by go_num, by omega, by omega, G5.out⟩
                case measure => simp [intOf]
            · obtain ⟨p0, p1, p2, p3, p4, p5, p6, p7, p8, p9, p10, p11, p12, p13, p14, p15, p16, p17, p18, p19, p20, p21, p22, p23, p24, p25, p26, p27, p28, p29, p30, p31, p32, p33, p34⟩ := HOg.out _ D4.out
              go_wp2_with fail
              go_roundw
              case rel => exact .inr ⟨v4, rfl, by go_num, by omega, by omega, G4.out⟩
              case measure => simp [intOf]
          · obtain ⟨p0, p1, p2, p3, p4, p5, p6, p7, p8, p9, p10, p11, p12, p13, p14, p15, p16, p17, p18, p19, p20, p21, p22, p23, p24, p25, p26, p27, p28, p29, p30, p31, p32, p33, p34⟩ := HOg.out _ D3.out
            go_wp2_with fail
            go_roundw
            case rel => exact .inr ⟨v3, rfl, by go_num, by omega, by omega, G3.out⟩
            case measure => simp [intOf]
        · obtain ⟨p0, p1, p2, p3, p4, p5, p6, p7, p8, p9, p10, p11, p12, p13, p14, p15, p16, p17, p18, p19, p20, p21, p22, p23, p24, p25, p26, p27, p28, p29, p30, p31, p32, p33, p34⟩ := HOg.out _ D2.out
          go_wp2_with fail
          go_roundw
          case rel => exact .inr ⟨v2, rfl, by go_num, by omega, by omega, G2.out⟩
          case measure => simp [intOf]
      · obtain ⟨p0, p1, p2, p3, p4, p5, p6, p7, p8, p9, p10, p11, p12, p13, p14, p15, p16, p17, p18, p19, p20, p21, p22, p23, p24, p25, p26, p27, p28, p29, p30, p31, p32, p33, p34⟩ := HOg.out _ D1.out
        go_wp2_with fail
        go_roundw
        case rel => exact .inr ⟨v1, rfl, by go_num, by omega, by omega, G1.out⟩
        case measure => simp [intOf]
    · go_wp2_with fail
      go_ret
      exact ⟨v, rfl, gv1, gv2, hch.out⟩

end Go.Proofs.YtpmndblakmobdaaGreatDoor
