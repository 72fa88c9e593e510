/-
  A statement 'x := e' or 'assert c' can be shown: the reference's.
-/
import Derived.Test.YtgofncopoieigaaGreatDoorHnA
import Derived.Test.YtgofncopoieigaaGreatDoorHmJ
namespace Go.Proofs.YtgofncopoieigaaGreatDoor
open Go Go.RowKit

set_option maxRecDepth 100000 in
set_option maxHeartbeats 1000000 in
theorem hasA15_zero (w : World) : Calls Tryz.prog 123 #[.agg #[.int .i64 0, .int .i64 0, .slice none 0 0, .slice none 0 0, .int .i64 0, .int .i64 0, .string ⟨#[]⟩, .slice none 0 0, .int .i64 0, .int .i64 0, .string ⟨#[]⟩, .slice none 0 0, .string ⟨#[]⟩, .int .i64 0, .slice none 0 0]] w fun e w' => e = .returned (.bool false) ∧ Chg No w w' := by
  have HC := Lib.hid (fun W => hasC15_any (zC_is No W))
  have HE := Lib.hid (fun W => hasE15_any (zE_is No W))
  have HE2 := Lib.hid (fun W => hasE15_any (zE_is No W))
  rw [zC_has] at HC
  rw [zE_has] at HE HE2
  obtain ⟨w3, hw3⟩ : ∃ w3, w3 = w.alloc (.cells #[.int .i64 0, .int .i64 0, .slice none 0 0, .slice none 0 0, .int .i64 0, .int .i64 0, .string ⟨#[]⟩, .slice none 0 0, .int .i64 0, .int .i64 0, .string ⟨#[]⟩, .slice none 0 0, .string ⟨#[]⟩, .int .i64 0, .slice none 0 0] 30) := ⟨_, rfl⟩
  have h3 : Hid (Chg No w w3 ∧ w3.heap[w.heap.size]? = some (.cells #[.int .i64 0, .int .i64 0, .slice none 0 0, .slice none 0 0, .int .i64 0, .int .i64 0, .string ⟨#[]⟩, .slice none 0 0, .int .i64 0, .int .i64 0, .string ⟨#[]⟩, .slice none 0 0, .string ⟨#[]⟩, .int .i64 0, .slice none 0 0] 30 (0, 0))) := by
    rw [hw3]; exact ⟨(Chg.refl _ _).alloc _, heap_alloc_new _ _⟩
  have HO := Lib.hid (fun W (hW : Chg No w3 W) => obj_15 (hW.obj h3.out.2 id))
  have G0 : Hid (Chg No w3 w3) := Chg.refl _ _
  obtain ⟨p0, p1, p2, p3, p4, p5, p6, p7, p8, p9, p10, p11, p12, p13, p14⟩ := HO.out _ G0.out
  go_enter Tryz.func123, Tryz.ntmps123
  go_upto_region 1 with fail
  rw [← hw3]
  clear hw3
  go_wp2_with (first
    | (go_at_call 100; with_reducible refine (HC.out _).mono ?_; rintro e w4 ⟨rfl, h4⟩; have G1 := Lib.hid (G0.out.thenNo h4); clear h4 p0 p1 p2 p3 p4 p5 p6 p7 p8 p9 p10 p11 p12 p13 p14 HC; obtain ⟨p0, p1, p2, p3, p4, p5, p6, p7, p8, p9, p10, p11, p12, p13, p14⟩ := HO.out _ G1.out)
    | (go_at_call 101; with_reducible refine (HE.out _).mono ?_; rintro e w5 ⟨rfl, h5⟩; have G2 := Lib.hid (G1.out.thenNo h5); clear h5 p0 p1 p2 p3 p4 p5 p6 p7 p8 p9 p10 p11 p12 p13 p14 HE; obtain ⟨p0, p1, p2, p3, p4, p5, p6, p7, p8, p9, p10, p11, p12, p13, p14⟩ := HO.out _ G2.out)
    | (go_at_call 101; with_reducible refine (HE2.out _).mono ?_; rintro e w6 ⟨rfl, h6⟩; have G3 := Lib.hid (G2.out.thenNo h6); clear h6 p0 p1 p2 p3 p4 p5 p6 p7 p8 p9 p10 p11 p12 p13 p14 HE2; obtain ⟨p0, p1, p2, p3, p4, p5, p6, p7, p8, p9, p10, p11, p12, p13, p14⟩ := HO.out _ G3.out))
  go_ret
  exact ⟨rfl, h3.out.1.thenNo G3.out⟩

set_option maxRecDepth 100000 in
set_option maxHeartbeats 8000000 in
theorem stmt15_1 {m : Nat} {x : ET m} {R : Nat → Prop} {w : World} {ek en : Int} {es : ByteArray} {eB : Option Addr} {ekl eck : Nat} {cs : Array Value} (hcs : cs = stm1 ek en es eB ekl eck) (hx : (exprV m) R w [.int .i64 ek, .int .i64 en, .string es, .slice eB ekl eck] x) :
    Calls Tryz.prog 104 #[.agg cs] w fun e w' => e = .returned (.bool (okE m x)) ∧ Chg No w w' := by
  obtain ⟨w3, hw3⟩ : ∃ w3, w3 = w.alloc (.cells cs 58) := ⟨_, rfl⟩
  have h3 : Hid (Chg No w w3 ∧ w3.heap[w.heap.size]? = some (.cells cs 58 (0, 0))) := by
    rw [hw3]; exact ⟨(Chg.refl _ _).alloc _, heap_alloc_new _ _⟩
  have HO : Hid (∀ W, Chg No w3 W → W.cell? ⟨w.heap.size, 0, none⟩ = some (.int .i64 1) ∧ W.cell? ⟨w.heap.size, 1, none⟩ = some (.string ⟨#[120]⟩) ∧ W.cell? ⟨w.heap.size, 2, none⟩ = some (.string ⟨#[]⟩) ∧ W.cell? ⟨w.heap.size, 3, none⟩ = some (.string ⟨#[]⟩) ∧ W.cell? ⟨w.heap.size, 4, none⟩ = some (.int .i64 ek) ∧ W.cell? ⟨w.heap.size, 5, none⟩ = some (.int .i64 en) ∧ W.cell? ⟨w.heap.size, 6, none⟩ = some (.string es) ∧ W.cell? ⟨w.heap.size, 7, none⟩ = some (.slice eB ekl eck) ∧ W.cell? ⟨w.heap.size, 8, none⟩ = some (.int .i64 0) ∧ W.cell? ⟨w.heap.size, 9, none⟩ = some (.int .i64 0) ∧ W.cell? ⟨w.heap.size, 10, none⟩ = some (.string ⟨#[]⟩) ∧ W.cell? ⟨w.heap.size, 11, none⟩ = some (.slice none 0 0) ∧ W.cell? ⟨w.heap.size, 12, none⟩ = some (.int .i64 0) ∧ W.cell? ⟨w.heap.size, 13, none⟩ = some (.slice none 0 0) ∧ W.cell? ⟨w.heap.size, 14, none⟩ = some (.slice none 0 0) ∧ W.cell? ⟨w.heap.size, 15, none⟩ = some (.int .i64 0) ∧ W.cell? ⟨w.heap.size, 16, none⟩ = some (.int .i64 0) ∧ W.cell? ⟨w.heap.size, 17, none⟩ = some (.slice none 0 0) ∧ W.cell? ⟨w.heap.size, 18, none⟩ = some (.slice none 0 0) ∧ W.cell? ⟨w.heap.size, 19, none⟩ = some (.int .i64 0) ∧ W.cell? ⟨w.heap.size, 20, none⟩ = some (.int .i64 0) ∧ W.cell? ⟨w.heap.size, 21, none⟩ = some (.string ⟨#[]⟩) ∧ W.cell? ⟨w.heap.size, 22, none⟩ = some (.slice none 0 0) ∧ W.cell? ⟨w.heap.size, 23, none⟩ = some (.int .i64 0) ∧ W.cell? ⟨w.heap.size, 24, none⟩ = some (.int .i64 0) ∧ W.cell? ⟨w.heap.size, 25, none⟩ = some (.string ⟨#[]⟩) ∧ W.cell? ⟨w.heap.size, 26, none⟩ = some (.slice none 0 0) ∧ W.cell? ⟨w.heap.size, 27, none⟩ = some (.string ⟨#[]⟩) ∧ W.cell? ⟨w.heap.size, 28, none⟩ = some (.int .i64 0) ∧ W.cell? ⟨w.heap.size, 29, none⟩ = some (.slice none 0 0) ∧ W.cell? ⟨w.heap.size, 30, none⟩ = some (.slice none 0 0) ∧ W.cell? ⟨w.heap.size, 31, none⟩ = some (.slice none 0 0) ∧ W.cell? ⟨w.heap.size, 32, none⟩ = some (.slice none 0 0) ∧ W.cell? ⟨w.heap.size, 33, none⟩ = some (.slice none 0 0) ∧ W.cell? ⟨w.heap.size, 34, none⟩ = some (.slice none 0 0)) := fun W hW => by
    have h := hW.obj h3.out.2 id
    rw [hcs] at h
    unfold stm1 at h
    simp [World.cell?, h]
  have HX := Lib.hid (fun W (hW : Chg No w3 W) => expr15_any m x R W _ ((exprV_good m).no ((exprV_good m).no hx h3.out.1) hW))
  have HC := Lib.hid (fun W => hasC15_any (zC_is No W))
  have HE := Lib.hid (fun W => hasE15_any (zE_is No W))
  have HE2 := Lib.hid (fun W => hasE15_any (zE_is No W))
  rw [zC_has] at HC
  rw [zE_has] at HE HE2
  have HAA := Lib.hid (fun W => hasA15_zero W)
  have HN := Lib.hid (fun W => name13_any (w := W) ⟨#[120]⟩ (by decide))
  rw [show nameB ⟨#[120]⟩ = true by kernel_rfl] at HN
  generalize okE m x = q at *
  clear hx hcs
  obtain ⟨w4, hw4⟩ : ∃ w4, w4 = w3.alloc (.cells #[.string ⟨#[]⟩, .string ⟨#[110, 101]⟩, .string ⟨#[110, 101, 102]⟩, .string ⟨#[101, 102, 118]⟩, .string ⟨#[110, 108]⟩, .string ⟨#[101, 102]⟩, .string ⟨#[99, 98, 120]⟩, .string ⟨#[99, 97, 98]⟩, .string ⟨#[99]⟩, .string ⟨#[110, 107]⟩] 9) := ⟨_, rfl⟩
  have C4 : Hid (Chg No w3 w4 ∧ w4.cell? ⟨w3.heap.size, 1, none⟩ = some (.string ⟨#[110, 101]⟩)) := by
    rw [hw4]
    refine ⟨(Chg.refl _ _).alloc _, ?_⟩
    have := heap_alloc_new w3 (.cells #[.string ⟨#[]⟩, .string ⟨#[110, 101]⟩, .string ⟨#[110, 101, 102]⟩, .string ⟨#[101, 102, 118]⟩, .string ⟨#[110, 108]⟩, .string ⟨#[101, 102]⟩, .string ⟨#[99, 98, 120]⟩, .string ⟨#[99, 97, 98]⟩, .string ⟨#[99]⟩, .string ⟨#[110, 107]⟩] 9)
    simp only [World.cell?, this]
    rfl
  obtain ⟨g, hg⟩ : ∃ g, g = w3.heap.size := ⟨_, rfl⟩
  rw [← hg] at C4
  have G0 := Lib.hid C4.out.1
  have q0 := C4.out.2
  obtain ⟨p0, p1, p2, p3, p4, p5, p6, p7, p8, p9, p10, p11, p12, p13, p14, p15, p16, p17, p18, p19, p20, p21, p22, p23, p24, p25, p26, p27, p28, p29, p30, p31, p32, p33, p34⟩ := HO.out w4 G0.out
  go_enter Tryz.func104, Tryz.ntmps104
  go_upto_region 1 with fail
  rw [← hw3]
  clear hw3
  go_upto_region 2 with fail
  rw [← hw4, ← hg]
  clear hw4 hg
  go_wp2_with fail
  go_loopw [5, 6, 7, 8, 9, 10, 11, 12, 13, 14, 15] (fun s5 s6 s7 s8 s9 s10 s11 s12 s13 s14 s15 wr => s7 = .bool false ∧ s8 = .bool false ∧ s9 = .bool false ∧ s10 = .bool false ∧ s11 = .bool false ∧ s12 = .bool false ∧ s13 = .bool false ∧ s14 = .bool false ∧ w4 = wr ∧ ((s5 = .bool false ∧ s6 = .bool false ∧ s15 = .int .i64 0) ∨ (s5 = .bool true ∧ s6 = .bool false ∧ s15 = .int .i64 1) ∨ (s5 = .bool true ∧ s6 = .bool true ∧ s15 = .int .i64 2))) (fun _ _ _ _ _ _ _ _ _ _ s15 _ => 2 - (intOf s15).toNat)
  case atStart => exact ⟨rfl, rfl, rfl, rfl, rfl, rfl, rfl, rfl, rfl, .inl ⟨rfl, rfl, rfl⟩⟩
  case round =>
    obtain ⟨rfl, rfl, rfl, rfl, rfl, rfl, rfl, rfl, rfl, hrel⟩ := hrel
    rcases hrel with ⟨rfl, rfl, rfl⟩ | ⟨rfl, rfl, rfl⟩ | ⟨rfl, rfl, rfl⟩
    · go_wp2_with fail
      go_roundw
      case rel => exact ⟨rfl, rfl, rfl, rfl, rfl, rfl, rfl, rfl, by trivial, .inr (.inl ⟨rfl, rfl, rfl⟩)⟩
      case measure => simp [intOf]
    · go_wp2_with fail
      go_roundw
      case rel => exact ⟨rfl, rfl, rfl, rfl, rfl, rfl, rfl, rfl, by trivial, .inr (.inr ⟨rfl, rfl, rfl⟩)⟩
      case measure => simp [intOf]
    · cases q
      · go_wp2_with (first
          | (go_at_call 64; with_reducible refine (HN.out _).mono ?_; rintro e v1 ⟨rfl, h1⟩; have G1 := Lib.hid (G0.out.thenNo h1); clear h1 p0 p1 p2 p3 p4 p5 p6 p7 p8 p9 p10 p11 p12 p13 p14 p15 p16 p17 p18 p19 p20 p21 p22 p23 p24 p25 p26 p27 p28 p29 p30 p31 p32 p33 p34 HN; obtain ⟨p0, p1, p2, p3, p4, p5, p6, p7, p8, p9, p10, p11, p12, p13, p14, p15, p16, p17, p18, p19, p20, p21, p22, p23, p24, p25, p26, p27, p28, p29, p30, p31, p32, p33, p34⟩ := HO.out _ G1.out)
          | (go_at_call 102; with_reducible refine (HX.out _ G1.out).mono ?_; rintro e v2 ⟨rfl, h2⟩; have G2 := Lib.hid (G1.out.thenNo h2); clear h2 p0 p1 p2 p3 p4 p5 p6 p7 p8 p9 p10 p11 p12 p13 p14 p15 p16 p17 p18 p19 p20 p21 p22 p23 p24 p25 p26 p27 p28 p29 p30 p31 p32 p33 p34 HX; obtain ⟨p0, p1, p2, p3, p4, p5, p6, p7, p8, p9, p10, p11, p12, p13, p14, p15, p16, p17, p18, p19, p20, p21, p22, p23, p24, p25, p26, p27, p28, p29, p30, p31, p32, p33, p34⟩ := HO.out _ G2.out))
        go_ret
        exact ⟨rfl, h3.out.1.thenNo G2.out⟩
      · go_wp2_with (first
          | (go_at_call 64; with_reducible refine (HN.out _).mono ?_; rintro e v1 ⟨rfl, h1⟩; have G1 := Lib.hid (G0.out.thenNo h1); clear h1 p0 p1 p2 p3 p4 p5 p6 p7 p8 p9 p10 p11 p12 p13 p14 p15 p16 p17 p18 p19 p20 p21 p22 p23 p24 p25 p26 p27 p28 p29 p30 p31 p32 p33 p34 HN; obtain ⟨p0, p1, p2, p3, p4, p5, p6, p7, p8, p9, p10, p11, p12, p13, p14, p15, p16, p17, p18, p19, p20, p21, p22, p23, p24, p25, p26, p27, p28, p29, p30, p31, p32, p33, p34⟩ := HO.out _ G1.out)
          | (go_at_call 102; with_reducible refine (HX.out _ G1.out).mono ?_; rintro e v2 ⟨rfl, h2⟩; have G2 := Lib.hid (G1.out.thenNo h2); clear h2 p0 p1 p2 p3 p4 p5 p6 p7 p8 p9 p10 p11 p12 p13 p14 p15 p16 p17 p18 p19 p20 p21 p22 p23 p24 p25 p26 p27 p28 p29 p30 p31 p32 p33 p34 HX; obtain ⟨p0, p1, p2, p3, p4, p5, p6, p7, p8, p9, p10, p11, p12, p13, p14, p15, p16, p17, p18, p19, p20, p21, p22, p23, p24, p25, p26, p27, p28, p29, p30, p31, p32, p33, p34⟩ := HO.out _ G2.out)
          | (go_at_call 101; with_reducible refine (HE2.out _).mono ?_; rintro e v3 ⟨rfl, h3⟩; have G3 := Lib.hid (G2.out.thenNo h3); clear h3 p0 p1 p2 p3 p4 p5 p6 p7 p8 p9 p10 p11 p12 p13 p14 p15 p16 p17 p18 p19 p20 p21 p22 p23 p24 p25 p26 p27 p28 p29 p30 p31 p32 p33 p34 HE2; obtain ⟨p0, p1, p2, p3, p4, p5, p6, p7, p8, p9, p10, p11, p12, p13, p14, p15, p16, p17, p18, p19, p20, p21, p22, p23, p24, p25, p26, p27, p28, p29, p30, p31, p32, p33, p34⟩ := HO.out _ G3.out)
          | (go_at_call 100; with_reducible refine (HC.out _).mono ?_; rintro e v4 ⟨rfl, h4⟩; have G4 := Lib.hid (G3.out.thenNo h4); clear h4 p0 p1 p2 p3 p4 p5 p6 p7 p8 p9 p10 p11 p12 p13 p14 p15 p16 p17 p18 p19 p20 p21 p22 p23 p24 p25 p26 p27 p28 p29 p30 p31 p32 p33 p34 HC; obtain ⟨p0, p1, p2, p3, p4, p5, p6, p7, p8, p9, p10, p11, p12, p13, p14, p15, p16, p17, p18, p19, p20, p21, p22, p23, p24, p25, p26, p27, p28, p29, p30, p31, p32, p33, p34⟩ := HO.out _ G4.out)
          | (go_at_call 123; with_reducible refine (HAA.out _).mono ?_; rintro e v5 ⟨rfl, h5⟩; have G5 := Lib.hid (G4.out.thenNo h5); clear h5 p0 p1 p2 p3 p4 p5 p6 p7 p8 p9 p10 p11 p12 p13 p14 p15 p16 p17 p18 p19 p20 p21 p22 p23 p24 p25 p26 p27 p28 p29 p30 p31 p32 p33 p34 HAA; obtain ⟨p0, p1, p2, p3, p4, p5, p6, p7, p8, p9, p10, p11, p12, p13, p14, p15, p16, p17, p18, p19, p20, p21, p22, p23, p24, p25, p26, p27, p28, p29, p30, p31, p32, p33, p34⟩ := HO.out _ G5.out))
        go_ret
        exact ⟨rfl, h3.out.1.thenNo G5.out⟩

set_option maxRecDepth 100000 in
set_option maxHeartbeats 1000000 in
theorem stmts15_1 {m : Nat} {x : ET m} {R : Nat → Prop} {w : World} {ek en : Int} {es : ByteArray} {eB : Option Addr} {ekl eck : Nat} {cs : Array Value} (hcs : cs = stm1 ek en es eB ekl eck) (hx : (exprV m) R w [.int .i64 ek, .int .i64 en, .string es, .slice eB ekl eck] x) {bs : Nat} (hbs : w.heap[bs]? = some (.cells cs 58 (0, 0))) :
    Calls Tryz.prog 67 #[.slice (some ⟨bs, 0, none⟩) 1 1] w fun e w' => e = .returned (.bool (okE m x)) ∧ Chg No w w' := by
  have HX := Lib.hid (stmt15_1 hcs hx)
  have hinfo : (Tryz.prog.info? 58).map (·.size) = some cs.size := by rw [hcs]; kernel_rfl
  have HI := Lib.hid hinfo
  have HB := Lib.hid hbs
  generalize okE m x = q at *
  clear hinfo hbs hcs hx
  go_enter Tryz.func67, Tryz.ntmps67
  go_wp2_with fail
  go_loopw [3] (fun s3 wr => (s3 = .int .i64 0 ∧ w = wr) ∨ (s3 = .int .i64 1 ∧ Hid (Chg No w wr) ∧ Hid (q = true))) (fun s3 _ => 1 - (intOf s3).toNat)
  case atStart => exact .inl ⟨rfl, rfl⟩
  case round =>
    rcases hrel with ⟨rfl, rfl⟩ | ⟨rfl, hch, hq⟩
    · cases q
      · go_wp2_with (first
          | (refine wpList_load_row rfl 58 _ rfl bs rfl 58 cs (0, 0) _ HB.out Tryz.underlying58 rfl HI.out ?_)
          | (go_at_call 104; (with_reducible refine HX.out.mono ?_); rintro e v1 ⟨rfl, h1⟩))
        go_ret
        exact ⟨rfl, h1⟩
      · go_wp2_with (first
          | (refine wpList_load_row rfl 58 _ rfl bs rfl 58 cs (0, 0) _ HB.out Tryz.underlying58 rfl HI.out ?_)
          | (go_at_call 104; (with_reducible refine HX.out.mono ?_); rintro e v1 ⟨rfl, h1⟩; have H1 := Lib.hid h1; clear h1))
        go_roundw
        case rel => exact .inr ⟨by go_num, H1.out, by unfold Hid; trivial⟩
        case measure => simp [intOf]
    · obtain rfl : q = true := hq.out
      go_wp2_with fail
      go_ret
      exact ⟨rfl, hch.out⟩

set_option maxRecDepth 100000 in
set_option maxHeartbeats 8000000 in
theorem stmt15_8 {m n : Nat} {x : CT m n} {R : Nat → Prop} {w : World} {ck : Int} {cA : Option Addr} {cel cca : Nat} {cB : Option Addr} {ckl cck : Nat} {cs : Array Value} (hcs : cs = stm8 ck cA cel cca cB ckl cck) (hx : (condV m n) R w [.int .i64 ck, .slice cA cel cca, .slice cB ckl cck] x) :
    Calls Tryz.prog 104 #[.agg cs] w fun e w' => e = .returned (.bool (okC m n x)) ∧ Chg No w w' := by
  obtain ⟨w3, hw3⟩ : ∃ w3, w3 = w.alloc (.cells cs 58) := ⟨_, rfl⟩
  have h3 : Hid (Chg No w w3 ∧ w3.heap[w.heap.size]? = some (.cells cs 58 (0, 0))) := by
    rw [hw3]; exact ⟨(Chg.refl _ _).alloc _, heap_alloc_new _ _⟩
  have HO : Hid (∀ W, Chg No w3 W → W.cell? ⟨w.heap.size, 0, none⟩ = some (.int .i64 8) ∧ W.cell? ⟨w.heap.size, 1, none⟩ = some (.string ⟨#[]⟩) ∧ W.cell? ⟨w.heap.size, 2, none⟩ = some (.string ⟨#[]⟩) ∧ W.cell? ⟨w.heap.size, 3, none⟩ = some (.string ⟨#[]⟩) ∧ W.cell? ⟨w.heap.size, 4, none⟩ = some (.int .i64 0) ∧ W.cell? ⟨w.heap.size, 5, none⟩ = some (.int .i64 0) ∧ W.cell? ⟨w.heap.size, 6, none⟩ = some (.string ⟨#[]⟩) ∧ W.cell? ⟨w.heap.size, 7, none⟩ = some (.slice none 0 0) ∧ W.cell? ⟨w.heap.size, 8, none⟩ = some (.int .i64 0) ∧ W.cell? ⟨w.heap.size, 9, none⟩ = some (.int .i64 0) ∧ W.cell? ⟨w.heap.size, 10, none⟩ = some (.string ⟨#[]⟩) ∧ W.cell? ⟨w.heap.size, 11, none⟩ = some (.slice none 0 0) ∧ W.cell? ⟨w.heap.size, 12, none⟩ = some (.int .i64 ck) ∧ W.cell? ⟨w.heap.size, 13, none⟩ = some (.slice cA cel cca) ∧ W.cell? ⟨w.heap.size, 14, none⟩ = some (.slice cB ckl cck) ∧ W.cell? ⟨w.heap.size, 15, none⟩ = some (.int .i64 0) ∧ W.cell? ⟨w.heap.size, 16, none⟩ = some (.int .i64 0) ∧ W.cell? ⟨w.heap.size, 17, none⟩ = some (.slice none 0 0) ∧ W.cell? ⟨w.heap.size, 18, none⟩ = some (.slice none 0 0) ∧ W.cell? ⟨w.heap.size, 19, none⟩ = some (.int .i64 0) ∧ W.cell? ⟨w.heap.size, 20, none⟩ = some (.int .i64 0) ∧ W.cell? ⟨w.heap.size, 21, none⟩ = some (.string ⟨#[]⟩) ∧ W.cell? ⟨w.heap.size, 22, none⟩ = some (.slice none 0 0) ∧ W.cell? ⟨w.heap.size, 23, none⟩ = some (.int .i64 0) ∧ W.cell? ⟨w.heap.size, 24, none⟩ = some (.int .i64 0) ∧ W.cell? ⟨w.heap.size, 25, none⟩ = some (.string ⟨#[]⟩) ∧ W.cell? ⟨w.heap.size, 26, none⟩ = some (.slice none 0 0) ∧ W.cell? ⟨w.heap.size, 27, none⟩ = some (.string ⟨#[]⟩) ∧ W.cell? ⟨w.heap.size, 28, none⟩ = some (.int .i64 0) ∧ W.cell? ⟨w.heap.size, 29, none⟩ = some (.slice none 0 0) ∧ W.cell? ⟨w.heap.size, 30, none⟩ = some (.slice none 0 0) ∧ W.cell? ⟨w.heap.size, 31, none⟩ = some (.slice none 0 0) ∧ W.cell? ⟨w.heap.size, 32, none⟩ = some (.slice none 0 0) ∧ W.cell? ⟨w.heap.size, 33, none⟩ = some (.slice none 0 0) ∧ W.cell? ⟨w.heap.size, 34, none⟩ = some (.slice none 0 0)) := fun W hW => by
    have h := hW.obj h3.out.2 id
    rw [hcs] at h
    unfold stm8 at h
    simp [World.cell?, h]
  have HX := Lib.hid (fun W (hW : Chg No w3 W) => cond15_any m n x R W _ ((condV_good m n).no ((condV_good m n).no hx h3.out.1) hW))
  have HC := Lib.hid (fun W => hasC15_any (zC_is No W))
  have HE := Lib.hid (fun W => hasE15_any (zE_is No W))
  have HE2 := Lib.hid (fun W => hasE15_any (zE_is No W))
  rw [zC_has] at HC
  rw [zE_has] at HE HE2
  have HAA := Lib.hid (fun W => hasA15_zero W)
  generalize okC m n x = q at *
  clear hx hcs
  obtain ⟨w4, hw4⟩ : ∃ w4, w4 = w3.alloc (.cells #[.string ⟨#[]⟩, .string ⟨#[110, 101]⟩, .string ⟨#[110, 101, 102]⟩, .string ⟨#[101, 102, 118]⟩, .string ⟨#[110, 108]⟩, .string ⟨#[101, 102]⟩, .string ⟨#[99, 98, 120]⟩, .string ⟨#[99, 97, 98]⟩, .string ⟨#[99]⟩, .string ⟨#[110, 107]⟩] 9) := ⟨_, rfl⟩
  have C4 : Hid (Chg No w3 w4 ∧ w4.cell? ⟨w3.heap.size, 8, none⟩ = some (.string ⟨#[99]⟩)) := by
    rw [hw4]
    refine ⟨(Chg.refl _ _).alloc _, ?_⟩
    have := heap_alloc_new w3 (.cells #[.string ⟨#[]⟩, .string ⟨#[110, 101]⟩, .string ⟨#[110, 101, 102]⟩, .string ⟨#[101, 102, 118]⟩, .string ⟨#[110, 108]⟩, .string ⟨#[101, 102]⟩, .string ⟨#[99, 98, 120]⟩, .string ⟨#[99, 97, 98]⟩, .string ⟨#[99]⟩, .string ⟨#[110, 107]⟩] 9)
    simp only [World.cell?, this]
    rfl
  obtain ⟨g, hg⟩ : ∃ g, g = w3.heap.size := ⟨_, rfl⟩
  rw [← hg] at C4
  have G0 := Lib.hid C4.out.1
  have q0 := C4.out.2
  obtain ⟨p0, p1, p2, p3, p4, p5, p6, p7, p8, p9, p10, p11, p12, p13, p14, p15, p16, p17, p18, p19, p20, p21, p22, p23, p24, p25, p26, p27, p28, p29, p30, p31, p32, p33, p34⟩ := HO.out w4 G0.out
  go_enter Tryz.func104, Tryz.ntmps104
  go_upto_region 1 with fail
  rw [← hw3]
  clear hw3
  go_upto_region 2 with fail
  rw [← hw4, ← hg]
  clear hw4 hg
  go_wp2_with fail
  go_loopw [5, 6, 7, 8, 9, 10, 11, 12, 13, 14, 15] (fun s5 s6 s7 s8 s9 s10 s11 s12 s13 s14 s15 wr => s5 = .bool false ∧ s6 = .bool false ∧ s7 = .bool false ∧ s8 = .bool false ∧ s9 = .bool false ∧ s11 = .bool false ∧ s12 = .bool false ∧ s13 = .bool false ∧ s14 = .bool false ∧ w4 = wr ∧ ((s10 = .bool false ∧ s15 = .int .i64 0) ∨ (s10 = .bool true ∧ s15 = .int .i64 1))) (fun _ _ _ _ _ _ _ _ _ _ s15 _ => 1 - (intOf s15).toNat)
  case atStart => exact ⟨rfl, rfl, rfl, rfl, rfl, rfl, rfl, rfl, rfl, rfl, .inl ⟨rfl, rfl⟩⟩
  case round =>
    obtain ⟨rfl, rfl, rfl, rfl, rfl, rfl, rfl, rfl, rfl, rfl, hrel⟩ := hrel
    rcases hrel with ⟨rfl, rfl⟩ | ⟨rfl, rfl⟩
    · go_wp2_with fail
      go_roundw
      case rel => exact ⟨rfl, rfl, rfl, rfl, rfl, rfl, rfl, rfl, rfl, by trivial, .inr ⟨rfl, rfl⟩⟩
      case measure => simp [intOf]
    · cases q
      · go_wp2_with (first
          | (go_at_call 101; with_reducible refine (HE.out _).mono ?_; rintro e v1 ⟨rfl, h1⟩; have G1 := Lib.hid (G0.out.thenNo h1); clear h1 p0 p1 p2 p3 p4 p5 p6 p7 p8 p9 p10 p11 p12 p13 p14 p15 p16 p17 p18 p19 p20 p21 p22 p23 p24 p25 p26 p27 p28 p29 p30 p31 p32 p33 p34 HE; obtain ⟨p0, p1, p2, p3, p4, p5, p6, p7, p8, p9, p10, p11, p12, p13, p14, p15, p16, p17, p18, p19, p20, p21, p22, p23, p24, p25, p26, p27, p28, p29, p30, p31, p32, p33, p34⟩ := HO.out _ G1.out)
          | (go_at_call 101; with_reducible refine (HE2.out _).mono ?_; rintro e v2 ⟨rfl, h2⟩; have G2 := Lib.hid (G1.out.thenNo h2); clear h2 p0 p1 p2 p3 p4 p5 p6 p7 p8 p9 p10 p11 p12 p13 p14 p15 p16 p17 p18 p19 p20 p21 p22 p23 p24 p25 p26 p27 p28 p29 p30 p31 p32 p33 p34 HE2; obtain ⟨p0, p1, p2, p3, p4, p5, p6, p7, p8, p9, p10, p11, p12, p13, p14, p15, p16, p17, p18, p19, p20, p21, p22, p23, p24, p25, p26, p27, p28, p29, p30, p31, p32, p33, p34⟩ := HO.out _ G2.out)
          | (go_at_call 103; with_reducible refine (HX.out _ G2.out).mono ?_; rintro e v3 ⟨rfl, h3⟩; have G3 := Lib.hid (G2.out.thenNo h3); clear h3 p0 p1 p2 p3 p4 p5 p6 p7 p8 p9 p10 p11 p12 p13 p14 p15 p16 p17 p18 p19 p20 p21 p22 p23 p24 p25 p26 p27 p28 p29 p30 p31 p32 p33 p34 HX; obtain ⟨p0, p1, p2, p3, p4, p5, p6, p7, p8, p9, p10, p11, p12, p13, p14, p15, p16, p17, p18, p19, p20, p21, p22, p23, p24, p25, p26, p27, p28, p29, p30, p31, p32, p33, p34⟩ := HO.out _ G3.out))
        go_ret
        exact ⟨rfl, h3.out.1.thenNo G3.out⟩
      · go_wp2_with (first
          | (go_at_call 101; with_reducible refine (HE.out _).mono ?_; rintro e v1 ⟨rfl, h1⟩; have G1 := Lib.hid (G0.out.thenNo h1); clear h1 p0 p1 p2 p3 p4 p5 p6 p7 p8 p9 p10 p11 p12 p13 p14 p15 p16 p17 p18 p19 p20 p21 p22 p23 p24 p25 p26 p27 p28 p29 p30 p31 p32 p33 p34 HE; obtain ⟨p0, p1, p2, p3, p4, p5, p6, p7, p8, p9, p10, p11, p12, p13, p14, p15, p16, p17, p18, p19, p20, p21, p22, p23, p24, p25, p26, p27, p28, p29, p30, p31, p32, p33, p34⟩ := HO.out _ G1.out)
          | (go_at_call 101; with_reducible refine (HE2.out _).mono ?_; rintro e v2 ⟨rfl, h2⟩; have G2 := Lib.hid (G1.out.thenNo h2); clear h2 p0 p1 p2 p3 p4 p5 p6 p7 p8 p9 p10 p11 p12 p13 p14 p15 p16 p17 p18 p19 p20 p21 p22 p23 p24 p25 p26 p27 p28 p29 p30 p31 p32 p33 p34 HE2; obtain ⟨p0, p1, p2, p3, p4, p5, p6, p7, p8, p9, p10, p11, p12, p13, p14, p15, p16, p17, p18, p19, p20, p21, p22, p23, p24, p25, p26, p27, p28, p29, p30, p31, p32, p33, p34⟩ := HO.out _ G2.out)
          | (go_at_call 103; with_reducible refine (HX.out _ G2.out).mono ?_; rintro e v3 ⟨rfl, h3⟩; have G3 := Lib.hid (G2.out.thenNo h3); clear h3 p0 p1 p2 p3 p4 p5 p6 p7 p8 p9 p10 p11 p12 p13 p14 p15 p16 p17 p18 p19 p20 p21 p22 p23 p24 p25 p26 p27 p28 p29 p30 p31 p32 p33 p34 HX; obtain ⟨p0, p1, p2, p3, p4, p5, p6, p7, p8, p9, p10, p11, p12, p13, p14, p15, p16, p17, p18, p19, p20, p21, p22, p23, p24, p25, p26, p27, p28, p29, p30, p31, p32, p33, p34⟩ := HO.out _ G3.out)
          | (go_at_call 123; with_reducible refine (HAA.out _).mono ?_; rintro e v4 ⟨rfl, h4⟩; have G4 := Lib.hid (G3.out.thenNo h4); clear h4 p0 p1 p2 p3 p4 p5 p6 p7 p8 p9 p10 p11 p12 p13 p14 p15 p16 p17 p18 p19 p20 p21 p22 p23 p24 p25 p26 p27 p28 p29 p30 p31 p32 p33 p34 HAA; obtain ⟨p0, p1, p2, p3, p4, p5, p6, p7, p8, p9, p10, p11, p12, p13, p14, p15, p16, p17, p18, p19, p20, p21, p22, p23, p24, p25, p26, p27, p28, p29, p30, p31, p32, p33, p34⟩ := HO.out _ G4.out))
        go_ret
        exact ⟨rfl, h3.out.1.thenNo G4.out⟩

set_option maxRecDepth 100000 in
set_option maxHeartbeats 1000000 in
theorem stmts15_8 {m n : Nat} {x : CT m n} {R : Nat → Prop} {w : World} {ck : Int} {cA : Option Addr} {cel cca : Nat} {cB : Option Addr} {ckl cck : Nat} {cs : Array Value} (hcs : cs = stm8 ck cA cel cca cB ckl cck) (hx : (condV m n) R w [.int .i64 ck, .slice cA cel cca, .slice cB ckl cck] x) {bs : Nat} (hbs : w.heap[bs]? = some (.cells cs 58 (0, 0))) :
    Calls Tryz.prog 67 #[.slice (some ⟨bs, 0, none⟩) 1 1] w fun e w' => e = .returned (.bool (okC m n x)) ∧ Chg No w w' := by
  have HX := Lib.hid (stmt15_8 hcs hx)
  have hinfo : (Tryz.prog.info? 58).map (·.size) = some cs.size := by rw [hcs]; kernel_rfl
  have HI := Lib.hid hinfo
  have HB := Lib.hid hbs
  generalize okC m n x = q at *
  clear hinfo hbs hcs hx
  go_enter Tryz.func67, Tryz.ntmps67
  go_wp2_with fail
  go_loopw [3] (fun s3 wr => (s3 = .int .i64 0 ∧ w = wr) ∨ (s3 = .int .i64 1 ∧ Hid (Chg No w wr) ∧ Hid (q = true))) (fun s3 _ => 1 - (intOf s3).toNat)
  case atStart => exact .inl ⟨rfl, rfl⟩
  case round =>
    rcases hrel with ⟨rfl, rfl⟩ | ⟨rfl, hch, hq⟩
    · cases q
      · go_wp2_with (first
          | (refine wpList_load_row rfl 58 _ rfl bs rfl 58 cs (0, 0) _ HB.out Tryz.underlying58 rfl HI.out ?_)
          | (go_at_call 104; (with_reducible refine HX.out.mono ?_); rintro e v1 ⟨rfl, h1⟩))
        go_ret
        exact ⟨rfl, h1⟩
      · go_wp2_with (first
          | (refine wpList_load_row rfl 58 _ rfl bs rfl 58 cs (0, 0) _ HB.out Tryz.underlying58 rfl HI.out ?_)
          | (go_at_call 104; (with_reducible refine HX.out.mono ?_); rintro e v1 ⟨rfl, h1⟩; have H1 := Lib.hid h1; clear h1))
        go_roundw
        case rel => exact .inr ⟨by go_num, H1.out, by unfold Hid; trivial⟩
        case measure => simp [intOf]
    · obtain rfl : q = true := hq.out
      go_wp2_with fail
      go_ret
      exact ⟨rfl, hch.out⟩
end Go.Proofs.YtgofncopoieigaaGreatDoor
