/-
  HnC, HnD, HnE, HnF, in one file.
-/
import Derived.Test.YtgofncopoieigaaGreatDoorHnB
import Derived.Test.YtgofncopoieigaaGreatDoorHmG
import Derived.Test.YtgofncopoieigaaGreatDoorHmH
import Derived.Test.YtgofncopoieigaaGreatDoorHlH
import Derived.Test.YtgofncopoieigaaGreatDoorHnA
import Derived.Test.YtgofncopoieigaaGreatDoorHlI
import Derived.Test.YtgofncopoieigaaGreatDoorShJ
/- HnC -/
namespace Go.Proofs.YtgofncopoieigaaGreatDoor
open Go Go.RowKit

def chkB (d q : Bool) : Int := if d = true then 4 else if q = true then 0 else 5
set_option maxRecDepth 100000 in
set_option maxHeartbeats 16000000 in
theorem check15_body {w : World} {ps cs : Array Value} {bs bp D : Nat} {q : Bool} (hps : ps = prcA 0 0 none 0 0 none 0 0 0 0 ⟨#[]⟩ none 0 0 0 0 ⟨#[]⟩ none 0 0 ⟨#[]⟩ 0 none 0 0 (.slice (some ⟨bs, 0, none⟩) 1 1)) (hinS : (Tryz.prog.info? 58).map (·.size) = some cs.size) (hbs : w.heap[bs]? = some (.cells cs 58 (0, 0)))
    (hD : ∀ W, Chg No w W → Calls Tryz.prog 63 #[.agg cs, .int .i64 100] W fun e w' => e = .returned (.int .i64 D) ∧ Chg No W w')
    (hS : ∀ W, Chg No w W → Calls Tryz.prog 67 #[.slice (some ⟨bs, 0, none⟩) 1 1] W fun e w' => e = .returned (.bool q) ∧ Chg No W w') (hbp : w.heap[bp]? = some (.cells ps 93 (0, 0))) :
    Calls Tryz.prog 41 #[.agg #[.slice (some ⟨bp, 0, none⟩) 1 1]] w fun e w' => e = .returned (.int .i64 (chkB (decide (100 < D)) q)) ∧ Chg No w w' := by
  have hinfo : Hid ((Tryz.prog.info? 93).map (·.size) = some ps.size) := by unfold Hid; rw [hps]; kernel_rfl
  have HIS := Lib.hid hinS
  have HONE : Hid (ps.all (·.oneCell') = true) := by unfold Hid; rw [hps]; unfold prcA; simp [Value.oneCell']
  have HSZ : Hid (ps.size = 34) := by unfold Hid; rw [hps]; rfl
  have HPS := Lib.hid hps
  have HBS := Lib.hid (fun W (hW : Chg No w W) => hW.obj hbs id)
  obtain ⟨w3, hw3⟩ : ∃ w3, w3 = w.alloc (.cells #[.slice (some ⟨bp, 0, none⟩) 1 1] 96) := ⟨_, rfl⟩
  have h3 : Hid (Chg No w w3 ∧ w3.heap[w.heap.size]? = some (.cells #[.slice (some ⟨bp, 0, none⟩) 1 1] 96 (0, 0)) ∧ w3.heap[bp]? = some (.cells ps 93 (0, 0))) := by
    rw [hw3]; exact ⟨(Chg.refl _ _).alloc _, heap_alloc_new _ _, ((Chg.refl No _).alloc _).obj hbp id⟩
  have HDS := Lib.hid hD
  have HSS := Lib.hid hS
  have HA1 := Lib.hid (fun W => assn15_any 1 1 1 zA No W _ (zA_is No W))
  rw [zA_ok] at HA1
  have HA0 := Lib.hid HA1.out
  have HN := Lib.hid (fun W => name13_any (w := W) ⟨#[112]⟩ (by decide))
  rw [show nameB ⟨#[112]⟩ = true by kernel_rfl] at HN
  have HNN := Lib.hid (fun W => names15_nil W)
  have hd0 := dA_deep 1 1 1 zA 100
  rw [zA_deep (by omega)] at hd0
  have HD1 := Lib.hid (fun W => depthA_any 1 1 1 zA No W _ (zA_is No W) 100 100 rfl (by omega))
  generalize dA 1 1 1 zA 100 = D0 at *
  have HD0 := Lib.hid HD1.out
  have hn0 : ¬ 100 < D0 := of_decide_eq_false hd0
  have hn0' : ¬ (100 : Int) < (D0 : Int) := by omega
  obtain ⟨ans, hans⟩ : ∃ ans, ans = chkB (decide (100 < D)) q := ⟨_, rfl⟩
  rw [← hans]
  have HANS := Lib.hid hans
  clear hd0 hans hD hS hbp hps hbs hinS
  have HO : Hid (∀ (g : Nat) (W : World), W.heap[g]? = some (.cells ps 93 (0, 0)) → W.cell? ⟨g, 0, none⟩ = some (.string ⟨#[112]⟩) ∧ W.cell? ⟨g, 1, none⟩ = some (.slice none 0 0) ∧ W.cell? ⟨g, 2, none⟩ = some (.slice none 0 0) ∧ W.cell? ⟨g, 3, none⟩ = some (.int .i64 0) ∧ W.cell? ⟨g, 4, none⟩ = some (.int .i64 0) ∧ W.cell? ⟨g, 5, none⟩ = some (.slice none 0 0) ∧ W.cell? ⟨g, 6, none⟩ = some (.slice none 0 0) ∧ W.cell? ⟨g, 7, none⟩ = some (.int .i64 0) ∧ W.cell? ⟨g, 8, none⟩ = some (.int .i64 0) ∧ W.cell? ⟨g, 9, none⟩ = some (.string ⟨#[]⟩) ∧ W.cell? ⟨g, 10, none⟩ = some (.slice none 0 0) ∧ W.cell? ⟨g, 11, none⟩ = some (.int .i64 0) ∧ W.cell? ⟨g, 12, none⟩ = some (.int .i64 0) ∧ W.cell? ⟨g, 13, none⟩ = some (.string ⟨#[]⟩) ∧ W.cell? ⟨g, 14, none⟩ = some (.slice none 0 0) ∧ W.cell? ⟨g, 15, none⟩ = some (.string ⟨#[]⟩) ∧ W.cell? ⟨g, 16, none⟩ = some (.int .i64 0) ∧ W.cell? ⟨g, 17, none⟩ = some (.slice none 0 0) ∧ W.cell? ⟨g, 18, none⟩ = some (.int .i64 0) ∧ W.cell? ⟨g, 19, none⟩ = some (.int .i64 0) ∧ W.cell? ⟨g, 20, none⟩ = some (.slice none 0 0) ∧ W.cell? ⟨g, 21, none⟩ = some (.slice none 0 0) ∧ W.cell? ⟨g, 22, none⟩ = some (.int .i64 0) ∧ W.cell? ⟨g, 23, none⟩ = some (.int .i64 0) ∧ W.cell? ⟨g, 24, none⟩ = some (.string ⟨#[]⟩) ∧ W.cell? ⟨g, 25, none⟩ = some (.slice none 0 0) ∧ W.cell? ⟨g, 26, none⟩ = some (.int .i64 0) ∧ W.cell? ⟨g, 27, none⟩ = some (.int .i64 0) ∧ W.cell? ⟨g, 28, none⟩ = some (.string ⟨#[]⟩) ∧ W.cell? ⟨g, 29, none⟩ = some (.slice none 0 0) ∧ W.cell? ⟨g, 30, none⟩ = some (.string ⟨#[]⟩) ∧ W.cell? ⟨g, 31, none⟩ = some (.int .i64 0) ∧ W.cell? ⟨g, 32, none⟩ = some (.slice none 0 0) ∧ W.cell? ⟨g, 33, none⟩ = some (.slice (some ⟨bs, 0, none⟩) 1 1)) := fun g W h => by
    rw [HPS.out] at h
    unfold prcA at h
    simp [World.cell?, h]
  have HEN : Hid (∀ W, Chg No w3 W → W.cell? ⟨w.heap.size, 0, none⟩ = some (.slice (some ⟨bp, 0, none⟩) 1 1) ∧ W.heap[bp]? = some (.cells ps 93 (0, 0)) ∧ Chg No w W) := fun W hW =>
    ⟨obj_1 (hW.obj h3.out.2.1 id), hW.obj h3.out.2.2 id, h3.out.1.thenNo hW⟩
  go_enter Tryz.func41, Tryz.ntmps41
  go_upto_region 1 with fail
  rw [← hw3]
  clear hw3
  go_wp2_with fail
  go_loopw [3] (fun s3 wr => (s3 = .int .i64 0 ∧ Hid (Chg No w3 wr)) ∨ (s3 = .int .i64 1 ∧ Hid (Chg No w3 wr) ∧ Hid (¬ 100 < D))) (fun s3 _ => 1 - (intOf s3).toNat)
  case atStart => exact .inl ⟨rfl, Chg.refl _ _⟩
  case round =>
    rcases hrel with ⟨rfl, hch⟩ | ⟨rfl, hch, hdd⟩
    · obtain ⟨p0, HB, HW⟩ := HEN.out wr hch.out
      have HB := Lib.hid HB
      have HW := Lib.hid HW
      go_upto_region 5 with (first
        | (refine wpList_load_row rfl 93 _ rfl bp rfl 93 ps (0, 0) _ HB.out Tryz.underlying93 rfl hinfo.out ?_)
        | (refine wpList_store_row rfl 93 _ _ rfl wr.heap.size ps rfl rfl 93 _ (heap_alloc_new _ _) hinfo.out (by rw [HSZ.out]; rfl) HONE.out ?_))
      obtain ⟨w4, hw4⟩ : ∃ w4, w4 = (wr.alloc (.cells #[.string ⟨#[]⟩, .slice none 0 0, .slice none 0 0, .int .i64 0, .int .i64 0, .slice none 0 0, .slice none 0 0, .int .i64 0, .int .i64 0, .string ⟨#[]⟩, .slice none 0 0, .int .i64 0, .int .i64 0, .string ⟨#[]⟩, .slice none 0 0, .string ⟨#[]⟩, .int .i64 0, .slice none 0 0, .int .i64 0, .int .i64 0, .slice none 0 0, .slice none 0 0, .int .i64 0, .int .i64 0, .string ⟨#[]⟩, .slice none 0 0, .int .i64 0, .int .i64 0, .string ⟨#[]⟩, .slice none 0 0, .string ⟨#[]⟩, .int .i64 0, .slice none 0 0, .slice none 0 0] 93)).setRow wr.heap.size ps := ⟨_, rfl⟩
      rw [← hw4]
      obtain ⟨g, hg⟩ : ∃ g, g = wr.heap.size := ⟨_, rfl⟩
      rw [← hg]
      have C4 : Hid (Chg No wr w4 ∧ w4.heap[g]? = some (.cells ps 93 (0, 0))) := by
        rw [hw4, hg]
        exact ⟨chg_setRow ps, setRow_heap _ _ _ _ _ _ (heap_alloc_new _ _)⟩
      have HOg := Lib.hid (fun W (hW : Chg No w4 W) => HO.out g W (hW.obj C4.out.2 id))
      have W4 := Lib.hid (HW.out.thenNo C4.out.1)
      have BW4 := Lib.hid (HBS.out w4 W4.out)
      clear hw4 hg HB p0
      obtain ⟨p0, p1, p2, p3, p4, p5, p6, p7, p8, p9, p10, p11, p12, p13, p14, p15, p16, p17, p18, p19, p20, p21, p22, p23, p24, p25, p26, p27, p28, p29, p30, p31, p32, p33⟩ := HOg.out w4 (Chg.refl _ _)
      clear HA1 HA0 HN HNN HSS HEN
      go_upto_region 7 with (first
          | (go_at_call 62; (with_reducible refine (HD1.out _).mono ?_); rintro e v1 ⟨rfl, h1⟩; have G1 := Lib.hid h1; clear h1 HD1; clear p0 p1 p2 p3 p4 p5 p6 p7 p8 p9 p10 p11 p12 p13 p14 p15 p16 p17 p18 p19 p20 p21 p22 p23 p24 p25 p26 p27 p28 p29 p30 p31 p32 p33; obtain ⟨p0, p1, p2, p3, p4, p5, p6, p7, p8, p9, p10, p11, p12, p13, p14, p15, p16, p17, p18, p19, p20, p21, p22, p23, p24, p25, p26, p27, p28, p29, p30, p31, p32, p33⟩ := HOg.out _ G1.out)
          | (go_at_call 62; (with_reducible refine (HD0.out _).mono ?_); rintro e v2 ⟨rfl, h2⟩; have G2 := Lib.hid (G1.out.thenNo h2); clear h2 HD0))
      clear p0 p1 p2 p3 p4 p5 p6 p7 p8 p9 p10 p11 p12 p13 p14 p15 p16 p17 p18 p19 p20 p21 p22 p23 p24 p25 p26 p27 p28 p29 p30 p31 p32 p33; obtain ⟨p0, p1, p2, p3, p4, p5, p6, p7, p8, p9, p10, p11, p12, p13, p14, p15, p16, p17, p18, p19, p20, p21, p22, p23, p24, p25, p26, p27, p28, p29, p30, p31, p32, p33⟩ := HOg.out _ G2.out
      have B2 := Lib.hid (G2.out.obj BW4.out id)
      have HD2 := Lib.hid (HDS.out v2 (W4.out.thenNo G2.out))
      obtain ⟨wo, hwo⟩ : ∃ wo, wo = wr := ⟨_, rfl⟩
      subst hwo
      have R4 := Lib.hid (C4.out.1.thenNo G2.out)
      have R5 := Lib.hid (W4.out.thenNo G2.out)
      by_cases hdd : 100 < D
      · have hdi : (100 : Int) < (D : Int) := by omega
        obtain rfl : ans = 4 := by rw [HANS.out, decide_eq_true hdd]; rfl
        clear HANS
        go_wp2_with fail
        go_loopw [5] (fun s5 wr => s5 = .int .i64 0 ∧ v2 = wr) (fun _ _ => 0)
        case atStart => exact ⟨rfl, rfl⟩
        case round =>
          obtain ⟨rfl, rfl⟩ := hrel
          go_wp2_with (first
            | (refine wpList_load_row rfl 58 _ rfl bs rfl 58 cs (0, 0) _ B2.out Tryz.underlying58 rfl HIS.out ?_)
            | (go_at_call 63; (with_reducible refine HD2.out.mono ?_); rintro e v3 ⟨rfl, h3'⟩; have G3 := Lib.hid h3'; clear h3'))
          go_ret
          exact ⟨rfl, R5.out.thenNo G3.out⟩
      · have hdi : ¬ (100 : Int) < (D : Int) := by omega
        have HDD := Lib.hid hdd
        clear hdd
        go_wp2_with fail
        go_loopw [5] (fun s5 wr => (s5 = .int .i64 0 ∧ v2 = wr) ∨ (s5 = .int .i64 1 ∧ Hid (Chg No v2 wr))) (fun s5 _ => 1 - (intOf s5).toNat)
        case atStart => exact .inl ⟨rfl, rfl⟩
        case round =>
          rcases hrel with ⟨rfl, rfl⟩ | ⟨rfl, hch5⟩
          · go_wp2_with (first
              | (refine wpList_load_row rfl 58 _ rfl bs rfl 58 cs (0, 0) _ B2.out Tryz.underlying58 rfl HIS.out ?_)
              | (go_at_call 63; (with_reducible refine HD2.out.mono ?_); rintro e v3 ⟨rfl, h3'⟩; have G3 := Lib.hid h3'; clear h3'))
            go_roundw
            case rel => exact .inr ⟨by go_num, G3.out⟩
            case measure => simp [intOf]
          · clear p0 p1 p2 p3 p4 p5 p6 p7 p8 p9 p10 p11 p12 p13 p14 p15 p16 p17 p18 p19 p20 p21 p22 p23 p24 p25 p26 p27 p28 p29 p30 p31 p32 p33; obtain ⟨p0, p1, p2, p3, p4, p5, p6, p7, p8, p9, p10, p11, p12, p13, p14, p15, p16, p17, p18, p19, p20, p21, p22, p23, p24, p25, p26, p27, p28, p29, p30, p31, p32, p33⟩ := HOg.out _ (Lib.hid (G2.out.thenNo hch5.out)).out
            go_wp2_with fail
            go_roundw
            case rel => exact .inr ⟨by go_num, hch.out.thenNo (R4.out.thenNo hch5.out), HDD.out⟩
            case measure => simp [intOf]
    · obtain ⟨p0, HB0, HW0⟩ := HEN.out wr hch.out
      have HA2 : Hid (ans = if q = true then 0 else 5) := by
        unfold Hid
        rw [HANS.out, decide_eq_false hdd.out]
        cases q <;> rfl
      clear HB0 HW0 HD1 HD0 HANS HDS HIS
      obtain ⟨wo, hwo⟩ : ∃ wo, wo = wr := ⟨_, rfl⟩
      subst hwo
      go_wp2_with fail
      clear p0
      go_loopw [6] (fun s6 wr => (s6 = .int .i64 0 ∧ Hid (Chg No w3 wr)) ∨ (s6 = .int .i64 1 ∧ Hid (Chg No w3 wr) ∧ Hid (q = true))) (fun s6 _ => 1 - (intOf s6).toNat)
      case atStart => exact .inl ⟨rfl, hch.out⟩
      case round =>
        clear hch
        rcases hrel with ⟨rfl, hch⟩ | ⟨rfl, hch, haa⟩
        · obtain ⟨p0, HB, HW⟩ := HEN.out wr hch.out
          have HB := Lib.hid HB
          have HW := Lib.hid HW
          go_upto_region 16 with (first
        | (refine wpList_load_row rfl 93 _ rfl bp rfl 93 ps (0, 0) _ HB.out Tryz.underlying93 rfl hinfo.out ?_)
        | (refine wpList_store_row rfl 93 _ _ rfl wr.heap.size ps rfl rfl 93 _ (heap_alloc_new _ _) hinfo.out (by rw [HSZ.out]; rfl) HONE.out ?_))
          obtain ⟨w4, hw4⟩ : ∃ w4, w4 = (wr.alloc (.cells #[.string ⟨#[]⟩, .slice none 0 0, .slice none 0 0, .int .i64 0, .int .i64 0, .slice none 0 0, .slice none 0 0, .int .i64 0, .int .i64 0, .string ⟨#[]⟩, .slice none 0 0, .int .i64 0, .int .i64 0, .string ⟨#[]⟩, .slice none 0 0, .string ⟨#[]⟩, .int .i64 0, .slice none 0 0, .int .i64 0, .int .i64 0, .slice none 0 0, .slice none 0 0, .int .i64 0, .int .i64 0, .string ⟨#[]⟩, .slice none 0 0, .int .i64 0, .int .i64 0, .string ⟨#[]⟩, .slice none 0 0, .string ⟨#[]⟩, .int .i64 0, .slice none 0 0, .slice none 0 0] 93)).setRow wr.heap.size ps := ⟨_, rfl⟩
          rw [← hw4]
          obtain ⟨g, hg⟩ : ∃ g, g = wr.heap.size := ⟨_, rfl⟩
          rw [← hg]
          have C4 : Hid (Chg No wr w4 ∧ w4.heap[g]? = some (.cells ps 93 (0, 0))) := by
            rw [hw4, hg]
            exact ⟨chg_setRow ps, setRow_heap _ _ _ _ _ _ (heap_alloc_new _ _)⟩
          have HOg := Lib.hid (fun W (hW : Chg No w4 W) => HO.out g W (hW.obj C4.out.2 id))
          have W4 := Lib.hid (HW.out.thenNo C4.out.1)
          have BW4 := Lib.hid (HBS.out w4 W4.out)
          clear hw4 hg HB p0
          obtain ⟨p0, p1, p2, p3, p4, p5, p6, p7, p8, p9, p10, p11, p12, p13, p14, p15, p16, p17, p18, p19, p20, p21, p22, p23, p24, p25, p26, p27, p28, p29, p30, p31, p32, p33⟩ := HOg.out w4 (Chg.refl _ _)
          go_upto_region 17 with (go_at_call 64; (with_reducible refine (HN.out _).mono ?_); rintro e v1 ⟨rfl, h1⟩; have G1 := Lib.hid h1; clear h1)
          clear p0 p1 p2 p3 p4 p5 p6 p7 p8 p9 p10 p11 p12 p13 p14 p15 p16 p17 p18 p19 p20 p21 p22 p23 p24 p25 p26 p27 p28 p29 p30 p31 p32 p33; obtain ⟨p0, p1, p2, p3, p4, p5, p6, p7, p8, p9, p10, p11, p12, p13, p14, p15, p16, p17, p18, p19, p20, p21, p22, p23, p24, p25, p26, p27, p28, p29, p30, p31, p32, p33⟩ := HOg.out _ G1.out
          cases q
          · obtain rfl : ans = 5 := HA2.out
            clear HA2
            go_wp2_with (first
              | (go_at_call 65; (with_reducible refine (HNN.out _).mono ?_); rintro e v2 ⟨rfl, rfl⟩)
              | (go_at_call 66; (with_reducible refine (HA1.out _).mono ?_); rintro e v3 ⟨rfl, h3'⟩; have G3 := Lib.hid (G1.out.thenNo h3'); clear h3' HA1; clear p0 p1 p2 p3 p4 p5 p6 p7 p8 p9 p10 p11 p12 p13 p14 p15 p16 p17 p18 p19 p20 p21 p22 p23 p24 p25 p26 p27 p28 p29 p30 p31 p32 p33; obtain ⟨p0, p1, p2, p3, p4, p5, p6, p7, p8, p9, p10, p11, p12, p13, p14, p15, p16, p17, p18, p19, p20, p21, p22, p23, p24, p25, p26, p27, p28, p29, p30, p31, p32, p33⟩ := HOg.out _ G3.out)
              | (go_at_call 66; (with_reducible refine (HA0.out _).mono ?_); rintro e v4 ⟨rfl, h4'⟩; have G4 := Lib.hid (G3.out.thenNo h4'); clear h4' HA0; clear p0 p1 p2 p3 p4 p5 p6 p7 p8 p9 p10 p11 p12 p13 p14 p15 p16 p17 p18 p19 p20 p21 p22 p23 p24 p25 p26 p27 p28 p29 p30 p31 p32 p33; obtain ⟨p0, p1, p2, p3, p4, p5, p6, p7, p8, p9, p10, p11, p12, p13, p14, p15, p16, p17, p18, p19, p20, p21, p22, p23, p24, p25, p26, p27, p28, p29, p30, p31, p32, p33⟩ := HOg.out _ G4.out)
              | (go_at_call 67; (with_reducible refine (HSS.out _ (W4.out.thenNo G4.out)).mono ?_); rintro e v5 ⟨rfl, h5'⟩; have G5 := Lib.hid (G4.out.thenNo h5'); clear h5'))
            go_ret
            exact ⟨rfl, W4.out.thenNo G5.out⟩
          · go_wp2_with (first
              | (go_at_call 65; (with_reducible refine (HNN.out _).mono ?_); rintro e v2 ⟨rfl, rfl⟩)
              | (go_at_call 66; (with_reducible refine (HA1.out _).mono ?_); rintro e v3 ⟨rfl, h3'⟩; have G3 := Lib.hid (G1.out.thenNo h3'); clear h3' HA1; clear p0 p1 p2 p3 p4 p5 p6 p7 p8 p9 p10 p11 p12 p13 p14 p15 p16 p17 p18 p19 p20 p21 p22 p23 p24 p25 p26 p27 p28 p29 p30 p31 p32 p33; obtain ⟨p0, p1, p2, p3, p4, p5, p6, p7, p8, p9, p10, p11, p12, p13, p14, p15, p16, p17, p18, p19, p20, p21, p22, p23, p24, p25, p26, p27, p28, p29, p30, p31, p32, p33⟩ := HOg.out _ G3.out)
              | (go_at_call 66; (with_reducible refine (HA0.out _).mono ?_); rintro e v4 ⟨rfl, h4'⟩; have G4 := Lib.hid (G3.out.thenNo h4'); clear h4' HA0; clear p0 p1 p2 p3 p4 p5 p6 p7 p8 p9 p10 p11 p12 p13 p14 p15 p16 p17 p18 p19 p20 p21 p22 p23 p24 p25 p26 p27 p28 p29 p30 p31 p32 p33; obtain ⟨p0, p1, p2, p3, p4, p5, p6, p7, p8, p9, p10, p11, p12, p13, p14, p15, p16, p17, p18, p19, p20, p21, p22, p23, p24, p25, p26, p27, p28, p29, p30, p31, p32, p33⟩ := HOg.out _ G4.out)
              | (go_at_call 67; (with_reducible refine (HSS.out _ (W4.out.thenNo G4.out)).mono ?_); rintro e v5 ⟨rfl, h5'⟩; have G5 := Lib.hid (G4.out.thenNo h5'); clear h5'))
            go_roundw
            case rel => exact .inr ⟨by go_num, hch.out.thenNo (C4.out.1.thenNo G5.out), by unfold Hid; trivial⟩
            case measure => simp [intOf]
        · obtain ⟨p0, HB0, HW0⟩ := HEN.out wr hch.out
          obtain rfl : ans = 0 := by rw [HA2.out, if_pos haa.out]
          clear HB0 HA2
          go_wp2_with fail
          go_ret
          exact ⟨rfl, HW0⟩
end Go.Proofs.YtgofncopoieigaaGreatDoor
/- HnD -/
namespace Go.Proofs.YtgofncopoieigaaGreatDoor
open Go Go.RowKit

set_option maxRecDepth 100000 in
set_option maxHeartbeats 2000000 in
theorem shown18_body {w : World} {cs : Array Value} {bs D : Nat} {q : Bool} (hinS : (Tryz.prog.info? 58).map (·.size) = some cs.size) (hbs : w.heap[bs]? = some (.cells cs 58 (0, 0)))
    (hD : ∀ W, Chg No w W → Calls Tryz.prog 63 #[.agg cs, .int .i64 100] W fun e w' => e = .returned (.int .i64 D) ∧ Chg No W w')
    (hS : ∀ W, Chg No w W → Calls Tryz.prog 67 #[.slice (some ⟨bs, 0, none⟩) 1 1] W fun e w' => e = .returned (.bool q) ∧ Chg No W w') :
    Calls Tryz.prog 26 #[.slice (some ⟨bs, 0, none⟩) 1 1, .agg #[.int .i64 0, .int .i64 0, .slice none 0 0, .slice none 0 0, .int .i64 0, .int .i64 0, .string ⟨#[]⟩, .slice none 0 0, .int .i64 0, .int .i64 0, .string ⟨#[]⟩, .slice none 0 0, .string ⟨#[]⟩, .int .i64 0, .slice none 0 0]] w fun e w' => e = .returned (.bool (!decide (100 < D) && q)) ∧ Chg No w w' := by
  obtain ⟨w3, hw3⟩ : ∃ w3, w3 = w.alloc (.cells #[.int .i64 0, .int .i64 0, .slice none 0 0, .slice none 0 0, .int .i64 0, .int .i64 0, .string ⟨#[]⟩, .slice none 0 0, .int .i64 0, .int .i64 0, .string ⟨#[]⟩, .slice none 0 0, .string ⟨#[]⟩, .int .i64 0, .slice none 0 0] 30) := ⟨_, rfl⟩
  have h3 : Hid (Chg No w w3 ∧ w3.heap[w.heap.size]? = some (.cells #[.int .i64 0, .int .i64 0, .slice none 0 0, .slice none 0 0, .int .i64 0, .int .i64 0, .string ⟨#[]⟩, .slice none 0 0, .int .i64 0, .int .i64 0, .string ⟨#[]⟩, .slice none 0 0, .string ⟨#[]⟩, .int .i64 0, .slice none 0 0] 30 (0, 0))) := by
    rw [hw3]; exact ⟨(Chg.refl _ _).alloc _, heap_alloc_new _ _⟩
  obtain ⟨p0, p1, p2, p3, p4, p5, p6, p7, p8, p9, p10, p11, p12, p13, p14⟩ := obj_15 h3.out.2
  have HC : Hid (Chg No w (w3.alloc (.cells #[.string ⟨#[112]⟩, .slice none 0 0, .slice none 0 0, .int .i64 0, .int .i64 0, .slice none 0 0, .slice none 0 0, .int .i64 0, .int .i64 0, .string ⟨#[]⟩, .slice none 0 0, .int .i64 0, .int .i64 0, .string ⟨#[]⟩, .slice none 0 0, .string ⟨#[]⟩, .int .i64 0, .slice none 0 0, .int .i64 0, .int .i64 0, .slice none 0 0, .slice none 0 0, .int .i64 0, .int .i64 0, .string ⟨#[]⟩, .slice none 0 0, .int .i64 0, .int .i64 0, .string ⟨#[]⟩, .slice none 0 0, .string ⟨#[]⟩, .int .i64 0, .slice none 0 0, .slice (some ⟨bs, 0, none⟩) 1 1] 93))) := h3.out.1.alloc _
  have HCK : Hid (Calls Tryz.prog 41 #[.agg #[.slice (some ⟨w3.heap.size, 0, none⟩) 1 1]] (w3.alloc (.cells #[.string ⟨#[112]⟩, .slice none 0 0, .slice none 0 0, .int .i64 0, .int .i64 0, .slice none 0 0, .slice none 0 0, .int .i64 0, .int .i64 0, .string ⟨#[]⟩, .slice none 0 0, .int .i64 0, .int .i64 0, .string ⟨#[]⟩, .slice none 0 0, .string ⟨#[]⟩, .int .i64 0, .slice none 0 0, .int .i64 0, .int .i64 0, .slice none 0 0, .slice none 0 0, .int .i64 0, .int .i64 0, .string ⟨#[]⟩, .slice none 0 0, .int .i64 0, .int .i64 0, .string ⟨#[]⟩, .slice none 0 0, .string ⟨#[]⟩, .int .i64 0, .slice none 0 0, .slice (some ⟨bs, 0, none⟩) 1 1] 93)) fun e w' => e = .returned (.int .i64 (chkB (decide (100 < D)) q)) ∧ Chg No (w3.alloc (.cells #[.string ⟨#[112]⟩, .slice none 0 0, .slice none 0 0, .int .i64 0, .int .i64 0, .slice none 0 0, .slice none 0 0, .int .i64 0, .int .i64 0, .string ⟨#[]⟩, .slice none 0 0, .int .i64 0, .int .i64 0, .string ⟨#[]⟩, .slice none 0 0, .string ⟨#[]⟩, .int .i64 0, .slice none 0 0, .int .i64 0, .int .i64 0, .slice none 0 0, .slice none 0 0, .int .i64 0, .int .i64 0, .string ⟨#[]⟩, .slice none 0 0, .int .i64 0, .int .i64 0, .string ⟨#[]⟩, .slice none 0 0, .string ⟨#[]⟩, .int .i64 0, .slice none 0 0, .slice (some ⟨bs, 0, none⟩) 1 1] 93)) w') :=
    check15_body (ps := prcA 0 0 none 0 0 none 0 0 0 0 ⟨#[]⟩ none 0 0 0 0 ⟨#[]⟩ none 0 0 ⟨#[]⟩ 0 none 0 0 (.slice (some ⟨bs, 0, none⟩) 1 1)) rfl hinS (HC.out.obj hbs id) (fun W hW => hD W (HC.out.thenNo hW)) (fun W hW => hS W (HC.out.thenNo hW)) (heap_alloc_new w3 (.cells (prcA 0 0 none 0 0 none 0 0 0 0 ⟨#[]⟩ none 0 0 0 0 ⟨#[]⟩ none 0 0 ⟨#[]⟩ 0 none 0 0 (.slice (some ⟨bs, 0, none⟩) 1 1)) 93))
  clear hD hS hbs hinS
  generalize decide (100 < D) = d at *
  cases d
  · cases q
    · rw [show chkB false false = 5 from rfl] at HCK
      go_enter Tryz.func26, Tryz.ntmps26
      go_upto_region 1 with fail
      rw [← hw3]
      clear hw3
      go_wp2_with (go_at_call 41; (with_reducible refine HCK.out.mono ?_); rintro e w4 ⟨rfl, h4⟩)
      go_ret
      exact ⟨rfl, HC.out.thenNo h4⟩
    · rw [show chkB false true = 0 from rfl] at HCK
      go_enter Tryz.func26, Tryz.ntmps26
      go_upto_region 1 with fail
      rw [← hw3]
      clear hw3
      go_wp2_with (go_at_call 41; (with_reducible refine HCK.out.mono ?_); rintro e w4 ⟨rfl, h4⟩)
      go_ret
      exact ⟨rfl, HC.out.thenNo h4⟩
  · rw [show chkB true q = 4 from rfl] at HCK
    go_enter Tryz.func26, Tryz.ntmps26
    go_upto_region 1 with fail
    rw [← hw3]
    clear hw3
    go_wp2_with (go_at_call 41; (with_reducible refine HCK.out.mono ?_); rintro e w4 ⟨rfl, h4⟩)
    go_ret
    exact ⟨rfl, HC.out.thenNo h4⟩
theorem shown18_1 {m : Nat} {x : ET m} {R : Nat → Prop} {w : World} {ek en : Int} {es : ByteArray} {eB : Option Addr} {ekl eck : Nat} (hx : (exprV m) R w [.int .i64 ek, .int .i64 en, .string es, .slice eB ekl eck] x) {bs : Nat} (hbs : w.heap[bs]? = some (.cells (stm1 ek en es eB ekl eck) 58 (0, 0))) :
    Calls Tryz.prog 26 #[.slice (some ⟨bs, 0, none⟩) 1 1, .agg #[.int .i64 0, .int .i64 0, .slice none 0 0, .slice none 0 0, .int .i64 0, .int .i64 0, .string ⟨#[]⟩, .slice none 0 0, .int .i64 0, .int .i64 0, .string ⟨#[]⟩, .slice none 0 0, .string ⟨#[]⟩, .int .i64 0, .slice none 0 0]] w fun e w' => e = .returned (.bool (!deepE m x 99 && okE m x)) ∧ Chg No w w' := by
  have h := shown18_body (w := w) (q := okE m x) (D := dS m 1 1 x zC) (by kernel_rfl) hbs
    (fun W hW => depthS15_any (stmG_1 ek en es eB ekl eck) ((exprV_good m).no hx hW) (zC_is No W) rfl)
    (fun W hW => stmts15_1 rfl ((exprV_good m).no hx hW) (hW.obj hbs id))
  rw [dS_deep, zC_deep (by omega)] at h
  exact h
theorem shown18_8 {m n : Nat} {x : CT m n} {R : Nat → Prop} {w : World} {ck : Int} {cA : Option Addr} {cel cca : Nat} {cB : Option Addr} {ckl cck : Nat} (hx : (condV m n) R w [.int .i64 ck, .slice cA cel cca, .slice cB ckl cck] x) {bs : Nat} (hbs : w.heap[bs]? = some (.cells (stm8 ck cA cel cca cB ckl cck) 58 (0, 0))) :
    Calls Tryz.prog 26 #[.slice (some ⟨bs, 0, none⟩) 1 1, .agg #[.int .i64 0, .int .i64 0, .slice none 0 0, .slice none 0 0, .int .i64 0, .int .i64 0, .string ⟨#[]⟩, .slice none 0 0, .int .i64 0, .int .i64 0, .string ⟨#[]⟩, .slice none 0 0, .string ⟨#[]⟩, .int .i64 0, .slice none 0 0]] w fun e w' => e = .returned (.bool (!deepC m n x 99 && okC m n x)) ∧ Chg No w w' := by
  have h := shown18_body (w := w) (q := okC m n x) (D := dS 1 m n zE x) (by kernel_rfl) hbs
    (fun W hW => depthS15_any (stmG_8 ck cA cel cca cB ckl cck) (zE_is No W) ((condV_good m n).no hx hW) rfl)
    (fun W hW => stmts15_8 rfl ((condV_good m n).no hx hW) (hW.obj hbs id))
  rw [dS_deep, zE_deep (by omega), Bool.or_false] at h
  exact h

set_option maxRecDepth 100000 in
set_option maxHeartbeats 4000000 in
theorem refExpr18_any {m : Nat} {x : ET m} {R Rs : Nat → Prop} {w : World} {cs : List Value} (hx : (exprV m) R w cs x) {A : Option Addr} {l : List Vr} {cap : Nat} (hl : Vars Rs w A l cap) :
    Calls Tryz.prog 18 #[.agg cs.toArray, .slice A l.length cap] w fun e w' => e = .returned (.tuple #[.int .i64 (hexR l m x).1, .int .i64 (hexR l m x).2]) ∧ Chg No w w' := by
  obtain ⟨ek, en, es, eB, ekl, eck, rfl⟩ := expr_shape hx
  obtain ⟨w3, hw3⟩ : ∃ w3, w3 = w.alloc (.cells #[.int .i64 ek, .int .i64 en, .string es, .slice eB ekl eck] 27) := ⟨_, rfl⟩
  have h3 : Hid (Chg No w w3 ∧ w3.heap[w.heap.size]? = some (.cells #[.int .i64 ek, .int .i64 en, .string es, .slice eB ekl eck] 27 (0, 0))) := by
    rw [hw3]; exact ⟨(Chg.refl _ _).alloc _, heap_alloc_new _ _⟩
  have HO := Lib.hid (fun W (hW : Chg No w3 W) => obj_4 (hW.obj h3.out.2 id))
  obtain ⟨p0, p1, p2, p3⟩ := HO.out w3 (Chg.refl _ _)
  have HF : Hid (∀ (W : World) (bs : Nat), Chg No w3 W → W.heap[bs]? = some (.cells (stm1 ek en es eB ekl eck) 58 (0, 0)) → Calls Tryz.prog 26 #[.slice (some ⟨bs, 0, none⟩) 1 1, .agg #[.int .i64 0, .int .i64 0, .slice none 0 0, .slice none 0 0, .int .i64 0, .int .i64 0, .string ⟨#[]⟩, .slice none 0 0, .int .i64 0, .int .i64 0, .string ⟨#[]⟩, .slice none 0 0, .string ⟨#[]⟩, .int .i64 0, .slice none 0 0]] W fun e w' => e = .returned (.bool (!deepE m x 99 && okE m x)) ∧ Chg No W w') := fun W bs hW hb => shown18_1 ((exprV_good m).no ((exprV_good m).no hx h3.out.1) hW) hb
  have HW : Hid ((!deepE m x 99 && okE m x) = true → ∀ W, Chg No w W → Calls Tryz.prog 32 #[.agg #[.int .i64 ek, .int .i64 en, .string es, .slice eB ekl eck], .slice A l.length cap] W (VlRet W (exH l m x))) := fun hf W hW => by
    rw [Bool.and_eq_true] at hf
    exact val18_any m x R Rs W _ A l cap hf.2 ((exprV_good m).no hx hW) (hl.no varE_good hW)
  obtain ⟨ans, hans⟩ : ∃ ans, ans = hexR l m x := ⟨_, rfl⟩
  rw [← hans]
  unfold hexR at hans
  have HA := Lib.hid hans
  clear hans hx hl
  generalize (!deepE m x 99 && okE m x) = q at *
  generalize exH l m x = r at *
  cases q
  · obtain rfl : ans = (0, 5) := by rw [HA.out]; rfl
    clear HA HW
    go_enter Tryz.func18, Tryz.ntmps18
    go_upto_region 1 with fail
    rw [← hw3]
    clear hw3
    go_wp2_with (go_at_call 26; (refine (HF.out _ w3.heap.size ((Chg.refl _ _).alloc _) (heap_alloc_new _ _)).mono ?_); rintro e w4 ⟨rfl, h4⟩)
    go_ret2
    exact ⟨rfl, h3.out.1.thenNo (((Chg.refl _ _).alloc _).thenNo h4)⟩
  · have HW1 := Lib.hid (HW.out rfl)
    rw [if_pos rfl] at HA
    clear HW
    obtain ⟨va, far⟩ := r
    unfold VlRet at HW1
    simp only at HW1 HA
    go_enter Tryz.func18, Tryz.ntmps18
    go_upto_region 1 with fail
    rw [← hw3]
    clear hw3
    go_upto_region 4 with (go_at_call 26; (refine (HF.out _ w3.heap.size ((Chg.refl _ _).alloc _) (heap_alloc_new _ _)).mono ?_); rintro e w4 ⟨rfl, h4⟩; have H4 : Hid (Chg No w3 w4) := ((Chg.refl No w3).alloc _).thenNo h4; clear h4)
    clear p0 p1 p2 p3
    obtain ⟨p0, p1, p2, p3⟩ := HO.out w4 H4.out
    have HC := Lib.hid (HW1.out w4 (h3.out.1.thenNo H4.out))
    cases far
    · obtain rfl : ans = (va, 0) := by rw [HA.out]; rfl
      clear HA
      go_wp2_with (go_at_call 32; (with_reducible refine HC.out.mono ?_); rintro e w5 ⟨v5, rfl, _, hv5, h5⟩; have H5 := Lib.hid (h3.out.1.thenNo (H4.out.thenNo h5)); have HV5 := Lib.hid hv5; clear h5 hv5)
      go_ret2
      exact ⟨by rw [HV5.out trivial]; rfl, H5.out⟩
    · obtain rfl : ans = (0, 3) := by rw [HA.out]; rfl
      clear HA
      go_wp2_with (go_at_call 32; (with_reducible refine HC.out.mono ?_); rintro e w5 ⟨v5, rfl, _, hv5, h5⟩; have H5 := Lib.hid (h3.out.1.thenNo (H4.out.thenNo h5)); clear h5 hv5)
      go_ret2
      exact ⟨rfl, H5.out⟩

set_option maxRecDepth 100000 in
set_option maxHeartbeats 4000000 in
theorem refCond18_any {m n : Nat} {x : CT m n} {R Rs : Nat → Prop} {w : World} {cs : List Value} (hx : (condV m n) R w cs x) {A : Option Addr} {l : List Vr} {cap : Nat} (hl : Vars Rs w A l cap) :
    Calls Tryz.prog 19 #[.agg cs.toArray, .slice A l.length cap] w fun e w' => e = .returned (.tuple #[.bool (hcoR l m n x).1, .int .i64 (hcoR l m n x).2]) ∧ Chg No w w' := by
  obtain ⟨ck, cA, cel, cca, cB, ckl, cck, rfl⟩ := cond_shape hx
  obtain ⟨w3, hw3⟩ : ∃ w3, w3 = w.alloc (.cells #[.int .i64 ck, .slice cA cel cca, .slice cB ckl cck] 25) := ⟨_, rfl⟩
  have h3 : Hid (Chg No w w3 ∧ w3.heap[w.heap.size]? = some (.cells #[.int .i64 ck, .slice cA cel cca, .slice cB ckl cck] 25 (0, 0))) := by
    rw [hw3]; exact ⟨(Chg.refl _ _).alloc _, heap_alloc_new _ _⟩
  have HO := Lib.hid (fun W (hW : Chg No w3 W) => obj_3 (hW.obj h3.out.2 id))
  obtain ⟨p0, p1, p2⟩ := HO.out w3 (Chg.refl _ _)
  have HF : Hid (∀ (W : World) (bs : Nat), Chg No w3 W → W.heap[bs]? = some (.cells (stm8 ck cA cel cca cB ckl cck) 58 (0, 0)) → Calls Tryz.prog 26 #[.slice (some ⟨bs, 0, none⟩) 1 1, .agg #[.int .i64 0, .int .i64 0, .slice none 0 0, .slice none 0 0, .int .i64 0, .int .i64 0, .string ⟨#[]⟩, .slice none 0 0, .int .i64 0, .int .i64 0, .string ⟨#[]⟩, .slice none 0 0, .string ⟨#[]⟩, .int .i64 0, .slice none 0 0]] W fun e w' => e = .returned (.bool (!deepC m n x 99 && okC m n x)) ∧ Chg No W w') := fun W bs hW hb => shown18_8 ((condV_good m n).no ((condV_good m n).no hx h3.out.1) hW) hb
  have HW : Hid ((!deepC m n x 99 && okC m n x) = true → ∀ W, Chg No w W → Calls Tryz.prog 33 #[.agg #[.int .i64 ck, .slice cA cel cca, .slice cB ckl cck], .slice A l.length cap] W (TrRet W (coH l m n x))) := fun hf W hW => by
    rw [Bool.and_eq_true] at hf
    exact tru18_any m n x R Rs W _ A l cap hf.2 ((condV_good m n).no hx hW) (hl.no varE_good hW)
  obtain ⟨ans, hans⟩ : ∃ ans, ans = hcoR l m n x := ⟨_, rfl⟩
  rw [← hans]
  unfold hcoR at hans
  have HA := Lib.hid hans
  clear hans hx hl
  generalize (!deepC m n x 99 && okC m n x) = q at *
  generalize coH l m n x = r at *
  cases q
  · obtain rfl : ans = (false, 5) := by rw [HA.out]; rfl
    clear HA HW
    go_enter Tryz.func19, Tryz.ntmps19
    go_upto_region 1 with fail
    rw [← hw3]
    clear hw3
    go_wp2_with (go_at_call 26; (refine (HF.out _ w3.heap.size ((Chg.refl _ _).alloc _) (heap_alloc_new _ _)).mono ?_); rintro e w4 ⟨rfl, h4⟩)
    go_ret2
    exact ⟨rfl, h3.out.1.thenNo (((Chg.refl _ _).alloc _).thenNo h4)⟩
  · have HW1 := Lib.hid (HW.out rfl)
    rw [if_pos rfl] at HA
    clear HW
    obtain ⟨va, far⟩ := r
    unfold TrRet at HW1
    simp only at HW1 HA
    go_enter Tryz.func19, Tryz.ntmps19
    go_upto_region 1 with fail
    rw [← hw3]
    clear hw3
    go_upto_region 4 with (go_at_call 26; (refine (HF.out _ w3.heap.size ((Chg.refl _ _).alloc _) (heap_alloc_new _ _)).mono ?_); rintro e w4 ⟨rfl, h4⟩; have H4 : Hid (Chg No w3 w4) := ((Chg.refl No w3).alloc _).thenNo h4; clear h4)
    clear p0 p1 p2
    obtain ⟨p0, p1, p2⟩ := HO.out w4 H4.out
    have HC := Lib.hid (HW1.out w4 (h3.out.1.thenNo H4.out))
    cases far
    · obtain rfl : ans = (va, 0) := by rw [HA.out]; rfl
      clear HA
      go_wp2_with (go_at_call 33; (with_reducible refine HC.out.mono ?_); rintro e w5 ⟨v5, rfl, hv5, h5⟩; have H5 := Lib.hid (h3.out.1.thenNo (H4.out.thenNo h5)); have HV5 := Lib.hid hv5; clear h5 hv5)
      go_ret2
      exact ⟨by rw [HV5.out trivial]; rfl, H5.out⟩
    · obtain rfl : ans = (false, 3) := by rw [HA.out]; rfl
      clear HA
      go_wp2_with (go_at_call 33; (with_reducible refine HC.out.mono ?_); rintro e w5 ⟨v5, rfl, hv5, h5⟩; have H5 := Lib.hid (h3.out.1.thenNo (H4.out.thenNo h5)); clear h5 hv5)
      go_ret2
      exact ⟨rfl, H5.out⟩
end Go.Proofs.YtgofncopoieigaaGreatDoor
/- HnE -/
namespace Go.Proofs.YtgofncopoieigaaGreatDoor
open Go Go.RowKit

set_option maxRecDepth 100000 in
theorem sizeS_nil (w : World) : SzCall 29 w (.slice none 0 0) := by
  intro left d z h1 h2 hz hd
  by_cases h0 : z = 0
  · subst h0
    go_enter Tryz.func29, Tryz.ntmps29
    go_wp2_with fail
    go_ret
    exact ⟨-1, rfl, by omega, h1, Chg.refl _ _⟩
  have hz0 : (z == 0) = false := by simpa using h0
  clear hz
  go_enter Tryz.func29, Tryz.ntmps29
  go_wp2_with fail
  go_loopw [1, 7] (fun s1 s7 wr => s1 = .int .i64 left ∧ s7 = .int .i64 0 ∧ w = wr) (fun _ _ _ => 0)
  case atStart => exact ⟨rfl, rfl, rfl⟩
  case round =>
    obtain ⟨rfl, rfl, rfl⟩ := hrel
    go_wp2_with fail
    go_ret
    exact ⟨left, rfl, h1, Int.le_refl _, Chg.refl _ _⟩
theorem exprV_zero {m : Nat} {x : ET m} {R : Nat → Prop} {w : World} {cs : List Value} (hx : (exprV m) R w cs x) : ∃ y : ET m, ∀ (R : Nat → Prop) (w : World), (exprV m) R w [.int .i64 0, .int .i64 0, .string ⟨#[]⟩, .slice none 0 0] y := by
  cases m with
  | zero => exact hx.elim
  | succ k => exact ⟨(⟨0, 0, ⟨#[]⟩, []⟩ : ENode (ET k)), fun R w => ⟨none, 0, rfl, I64.of (show (-9000000000000000000 : Int) ≤ 0 by decide) (show (0 : Int) ≤ 9000000000000000000 by decide), I64.of (show (-9000000000000000000 : Int) ≤ 0 by decide) (show (0 : Int) ≤ 9000000000000000000 by decide), show (0 : Nat) ≤ maxLen by decide, Sl.empty⟩⟩

set_option maxRecDepth 100000 in
set_option maxHeartbeats 8000000 in
theorem sizeS_one {me mc n : Nat} {x : ET me} {y : CT mc n} {R R2 : Nat → Prop} {w : World} {ek en : Int} {es : ByteArray} {eB : Option Addr} {ekl eck : Nat} {ck : Int} {cA : Option Addr} {cel cca : Nat} {cB : Option Addr} {ckl cck : Nat} {cs : Array Value} (hcs : cs = stmG 0 ⟨#[]⟩ ek en es eB ekl eck ck cA cel cca cB ckl cck) (hx : (exprV me) R w [.int .i64 ek, .int .i64 en, .string es, .slice eB ekl eck] x) (hy : (condV mc n) R2 w [.int .i64 ck, .slice cA cel cca, .slice cB ckl cck] y) {bs : Nat} (hbs : w.heap[bs]? = some (.cells cs 58 (0, 0))) {left z : Int} (hl : left = 300) (hz : z = 300) :
    Calls Tryz.prog 29 #[.slice (some ⟨bs, 0, none⟩) 1 1, .int .i64 left, .int .i64 z] w (SzRet w left) := by
  have hx2 := (exprV_good me).mono hx (R' := fun q => q < w.heap.size) (fun q hq _ => hq)
  have hy2 := (condV_good mc n).mono hy (R' := fun q => q < w.heap.size) (fun q hq _ => hq)
  obtain ⟨y0, hy0⟩ := exprV_zero hx
  have HSC : Hid (∀ W c, Chg No w W → w.heap.size ≤ c → W.heap[c]? = some (.cells #[.int .i64 ck, .slice cA cel cca, .slice cB ckl cck] 25 (0, 0)) → Calls Tryz.prog 34 #[.slice (some ⟨c, 0, none⟩) 1 1, .int .i64 (left - 1), .int .i64 (z - 1)] W (SzRet W (left - 1))) := fun W c hW hc ho =>
    szc_one ((condV_good mc n).no hy2 hW) (fun q hq => by omega) ho (left - 1) 299 (z - 1) (by omega) (by omega) (by omega) (by omega)
  have HSE : Hid (∀ W c (u : Int), -1 ≤ u → u ≤ 300 → Chg No w W → w.heap.size ≤ c → W.heap[c]? = some (.cells #[.int .i64 ek, .int .i64 en, .string es, .slice eB ekl eck, .int .i64 0, .int .i64 0, .string ⟨#[]⟩, .slice none 0 0] 27 (0, 0)) → Calls Tryz.prog 35 #[.slice (some ⟨c, 0, none⟩) 2 2, .int .i64 u, .int .i64 (z - 1)] W (SzRet W u)) := fun W c u hu hu2 hW hc ho =>
    sze_two ((exprV_good me).no hx2 hW) (hy0 (fun q => q < w.heap.size) W) (fun q hq => by omega) ho u 299 (z - 1) hu (by omega) (by omega) (by omega)
  have HSN : Hid (∀ W (u : Int), -1 ≤ u → u ≤ 300 → Calls Tryz.prog 35 #[.slice none 0 0, .int .i64 u, .int .i64 (z - 1)] W (SzRet W u)) := fun W u hu hu2 =>
    sze_any 1 (R := No) (w := W) (A := none) (l := []) (cap := 0) Sl.empty u 299 (z - 1) hu (by omega) (by omega) (by omega)
  have HSA : Hid (∀ W c (u : Int), -1 ≤ u → u ≤ 300 → W.heap[c]? = some (.cells #[.int .i64 0, .int .i64 0, .slice none 0 0, .slice none 0 0, .int .i64 0, .int .i64 0, .string ⟨#[]⟩, .slice none 0 0, .int .i64 0, .int .i64 0, .string ⟨#[]⟩, .slice none 0 0, .string ⟨#[]⟩, .int .i64 0, .slice none 0 0] 30 (0, 0)) → Calls Tryz.prog 20 #[.slice (some ⟨c, 0, none⟩) 1 1, .int .i64 u, .int .i64 (z - 1)] W (SzRetA W u (lvA 1 1 1 zA))) := fun W c u hu hu2 ho =>
    sza_one (zA_is No W) (fun q hq => hq.elim) ho u 299 (z - 1) hu (by omega) (by omega) (by omega)
  have HSS : Hid (∀ W (u : Int), -1 ≤ u → u ≤ 300 → Calls Tryz.prog 29 #[.slice none 0 0, .int .i64 u, .int .i64 (z - 1)] W (SzRet W u)) := fun W u hu hu2 =>
    sizeS_nil W u 299 (z - 1) hu (by omega) (by omega) (by omega)
  have hinfo : Hid ((Tryz.prog.info? 58).map (·.size) = some cs.size) := by unfold Hid; rw [hcs]; kernel_rfl
  have HONE : Hid (cs.all (·.oneCell') = true) := by unfold Hid; rw [hcs]; unfold stmG; simp [Value.oneCell']
  have HSZ : Hid (cs.size = 35) := by unfold Hid; rw [hcs]; rfl
  have HO : Hid (∀ (g : Nat) (W : World), W.heap[g]? = some (.cells cs 58 (0, 0)) → W.cell? ⟨g, 0, none⟩ = some (.int .i64 0) ∧ W.cell? ⟨g, 1, none⟩ = some (.string ⟨#[]⟩) ∧ W.cell? ⟨g, 2, none⟩ = some (.string ⟨#[]⟩) ∧ W.cell? ⟨g, 3, none⟩ = some (.string ⟨#[]⟩) ∧ W.cell? ⟨g, 4, none⟩ = some (.int .i64 ek) ∧ W.cell? ⟨g, 5, none⟩ = some (.int .i64 en) ∧ W.cell? ⟨g, 6, none⟩ = some (.string es) ∧ W.cell? ⟨g, 7, none⟩ = some (.slice eB ekl eck) ∧ W.cell? ⟨g, 8, none⟩ = some (.int .i64 0) ∧ W.cell? ⟨g, 9, none⟩ = some (.int .i64 0) ∧ W.cell? ⟨g, 10, none⟩ = some (.string ⟨#[]⟩) ∧ W.cell? ⟨g, 11, none⟩ = some (.slice none 0 0) ∧ W.cell? ⟨g, 12, none⟩ = some (.int .i64 ck) ∧ W.cell? ⟨g, 13, none⟩ = some (.slice cA cel cca) ∧ W.cell? ⟨g, 14, none⟩ = some (.slice cB ckl cck) ∧ W.cell? ⟨g, 15, none⟩ = some (.int .i64 0) ∧ W.cell? ⟨g, 16, none⟩ = some (.int .i64 0) ∧ W.cell? ⟨g, 17, none⟩ = some (.slice none 0 0) ∧ W.cell? ⟨g, 18, none⟩ = some (.slice none 0 0) ∧ W.cell? ⟨g, 19, none⟩ = some (.int .i64 0) ∧ W.cell? ⟨g, 20, none⟩ = some (.int .i64 0) ∧ W.cell? ⟨g, 21, none⟩ = some (.string ⟨#[]⟩) ∧ W.cell? ⟨g, 22, none⟩ = some (.slice none 0 0) ∧ W.cell? ⟨g, 23, none⟩ = some (.int .i64 0) ∧ W.cell? ⟨g, 24, none⟩ = some (.int .i64 0) ∧ W.cell? ⟨g, 25, none⟩ = some (.string ⟨#[]⟩) ∧ W.cell? ⟨g, 26, none⟩ = some (.slice none 0 0) ∧ W.cell? ⟨g, 27, none⟩ = some (.string ⟨#[]⟩) ∧ W.cell? ⟨g, 28, none⟩ = some (.int .i64 0) ∧ W.cell? ⟨g, 29, none⟩ = some (.slice none 0 0) ∧ W.cell? ⟨g, 30, none⟩ = some (.slice none 0 0) ∧ W.cell? ⟨g, 31, none⟩ = some (.slice none 0 0) ∧ W.cell? ⟨g, 32, none⟩ = some (.slice none 0 0) ∧ W.cell? ⟨g, 33, none⟩ = some (.slice none 0 0) ∧ W.cell? ⟨g, 34, none⟩ = some (.slice none 0 0)) := fun g W h => stmG_cells (hcs ▸ h)
  have HB := Lib.hid hbs
  have hz0 : (z == 0) = false := by simp; omega
  have hzl : 1 ≤ z := by omega
  have hzh : z ≤ 1000 := by omega
  have hll : 1 ≤ left := by omega
  have hlh : left ≤ 300 := by omega
  have hw1 : IntKind.i64.wrap (z - 1) = z - 1 := by rw [IntKind.wrap_i64]; omega
  have hw2 : IntKind.i64.wrap (left - 1) = left - 1 := by rw [IntKind.wrap_i64]; omega
  clear hx hy hx2 hy2 hy0 y0 hbs hcs hl hz
  go_enter Tryz.func29, Tryz.ntmps29
  go_wp2_with fail
  go_loopw [1, 7] (fun s1 s7 wr => (s1 = .int .i64 left ∧ s7 = .int .i64 0 ∧ w = wr) ∨ (∃ v : Int, s1 = .int .i64 v ∧ s7 = .int .i64 1 ∧ -1 ≤ v ∧ v ≤ left ∧ Hid (Chg No w wr))) (fun _ s7 _ => 1 - (intOf s7).toNat)
  case atStart => exact .inl ⟨rfl, rfl, rfl⟩
  case round =>
    rcases hrel with ⟨rfl, rfl, rfl⟩ | ⟨v, rfl, rfl, gv1, gv2, hch⟩
    · have hv : (0 : Int) ≤ left := by omega
      go_upto_region 7 with (first
        | (refine wpList_load_row rfl 58 _ rfl bs rfl 58 cs (0, 0) _ HB.out Tryz.underlying58 rfl hinfo.out ?_)
        | (refine wpList_store_row rfl 58 _ _ rfl w.heap.size cs rfl rfl 58 _ (heap_alloc_new _ _) hinfo.out (by rw [HSZ.out]; rfl) HONE.out ?_))
      obtain ⟨w4, hw4⟩ : ∃ w4, w4 = (w.alloc (.cells #[.int .i64 0, .string ⟨#[]⟩, .string ⟨#[]⟩, .string ⟨#[]⟩, .int .i64 0, .int .i64 0, .string ⟨#[]⟩, .slice none 0 0, .int .i64 0, .int .i64 0, .string ⟨#[]⟩, .slice none 0 0, .int .i64 0, .slice none 0 0, .slice none 0 0, .int .i64 0, .int .i64 0, .slice none 0 0, .slice none 0 0, .int .i64 0, .int .i64 0, .string ⟨#[]⟩, .slice none 0 0, .int .i64 0, .int .i64 0, .string ⟨#[]⟩, .slice none 0 0, .string ⟨#[]⟩, .int .i64 0, .slice none 0 0, .slice none 0 0, .slice none 0 0, .slice none 0 0, .slice none 0 0, .slice none 0 0] 58)).setRow w.heap.size cs := ⟨_, rfl⟩
      rw [← hw4]
      obtain ⟨g, hg⟩ : ∃ g, g = w.heap.size := ⟨_, rfl⟩
      rw [← hg]
      have C4 : Hid (Chg No w w4 ∧ w4.heap[g]? = some (.cells cs 58 (0, 0))) := by
        rw [hw4, hg]
        exact ⟨chg_setRow cs, setRow_heap _ _ _ _ _ _ (heap_alloc_new _ _)⟩
      have HOg := Lib.hid (fun W (hW : Chg No w4 W) => HO.out g W (hW.obj C4.out.2 id))
      have G0 := Lib.hid C4.out.1
      have D0 : Hid (Chg No w4 w4) := Chg.refl _ _
      clear hw4 hg HB HO hinfo HONE HSZ C4
      obtain ⟨p0, p1, p2, p3, p4, p5, p6, p7, p8, p9, p10, p11, p12, p13, p14, p15, p16, p17, p18, p19, p20, p21, p22, p23, p24, p25, p26, p27, p28, p29, p30, p31, p32, p33, p34⟩ := HOg.out _ D0.out
      go_upto_region 8 with (go_at_call 34; (with_reducible refine (HSC.out _ _ (G0.out.alloc _) G0.out.size (heap_alloc_new _ _)).mono ?_); rintro e u1 ⟨v1, rfl, a1, b1, h1⟩; have G1 := Lib.hid ((G0.out.alloc (.cells #[.int .i64 ck, .slice cA cel cca, .slice cB ckl cck] 25)).thenNo h1); have D1 := Lib.hid ((D0.out.alloc (.cells #[.int .i64 ck, .slice cA cel cca, .slice cB ckl cck] 25)).thenNo h1); clear h1)
      clear p0 p1 p2 p3 p4 p5 p6 p7 p8 p9 p10 p11 p12 p13 p14 p15 p16 p17 p18 p19 p20 p21 p22 p23 p24 p25 p26 p27 p28 p29 p30 p31 p32 p33 p34
      by_cases hv1 : 0 ≤ v1
      · obtain ⟨p0, p1, p2, p3, p4, p5, p6, p7, p8, p9, p10, p11, p12, p13, p14, p15, p16, p17, p18, p19, p20, p21, p22, p23, p24, p25, p26, p27, p28, p29, p30, p31, p32, p33, p34⟩ := HOg.out _ D1.out
        have HN1 := Lib.hid (fun W c hW hc ho => HSE.out W c v1 a1 (by omega) hW hc ho)
        go_upto_region 10 with (go_at_call 35; (with_reducible refine (HN1.out _ _ (G1.out.alloc _) G1.out.size (heap_alloc_new _ _)).mono ?_); rintro e u2 ⟨v2, rfl, a2, b2, h2⟩; have G2 := Lib.hid ((G1.out.alloc (.cells #[.int .i64 ek, .int .i64 en, .string es, .slice eB ekl eck, .int .i64 0, .int .i64 0, .string ⟨#[]⟩, .slice none 0 0] 27)).thenNo h2); have D2 := Lib.hid ((D1.out.alloc (.cells #[.int .i64 ek, .int .i64 en, .string es, .slice eB ekl eck, .int .i64 0, .int .i64 0, .string ⟨#[]⟩, .slice none 0 0] 27)).thenNo h2); clear h2)
        clear p0 p1 p2 p3 p4 p5 p6 p7 p8 p9 p10 p11 p12 p13 p14 p15 p16 p17 p18 p19 p20 p21 p22 p23 p24 p25 p26 p27 p28 p29 p30 p31 p32 p33 p34
        by_cases hv2 : 0 ≤ v2
        · obtain ⟨p0, p1, p2, p3, p4, p5, p6, p7, p8, p9, p10, p11, p12, p13, p14, p15, p16, p17, p18, p19, p20, p21, p22, p23, p24, p25, p26, p27, p28, p29, p30, p31, p32, p33, p34⟩ := HOg.out _ D2.out
          have HN2 := Lib.hid (HSN.out u2 v2 a2 (by omega))
          go_upto_region 12 with (go_at_call 35; (with_reducible refine HN2.out.mono ?_); rintro e u3 ⟨v3, rfl, a3, b3, h3⟩; have G3 := Lib.hid (G2.out.thenNo h3); have D3 := Lib.hid (D2.out.thenNo h3); clear h3)
          clear p0 p1 p2 p3 p4 p5 p6 p7 p8 p9 p10 p11 p12 p13 p14 p15 p16 p17 p18 p19 p20 p21 p22 p23 p24 p25 p26 p27 p28 p29 p30 p31 p32 p33 p34
          by_cases hv3 : 0 ≤ v3
          · obtain ⟨p0, p1, p2, p3, p4, p5, p6, p7, p8, p9, p10, p11, p12, p13, p14, p15, p16, p17, p18, p19, p20, p21, p22, p23, p24, p25, p26, p27, p28, p29, p30, p31, p32, p33, p34⟩ := HOg.out _ D3.out
            have HN3 := Lib.hid (HSN.out u3 v3 a3 (by omega))
            go_upto_region 14 with (go_at_call 35; (with_reducible refine HN3.out.mono ?_); rintro e u4 ⟨v4, rfl, a4, b4, h4⟩; have G4 := Lib.hid (G3.out.thenNo h4); have D4 := Lib.hid (D3.out.thenNo h4); clear h4)
            clear p0 p1 p2 p3 p4 p5 p6 p7 p8 p9 p10 p11 p12 p13 p14 p15 p16 p17 p18 p19 p20 p21 p22 p23 p24 p25 p26 p27 p28 p29 p30 p31 p32 p33 p34
            by_cases hv4 : 0 ≤ v4
            · obtain ⟨p0, p1, p2, p3, p4, p5, p6, p7, p8, p9, p10, p11, p12, p13, p14, p15, p16, p17, p18, p19, p20, p21, p22, p23, p24, p25, p26, p27, p28, p29, p30, p31, p32, p33, p34⟩ := HOg.out _ D4.out
              have HN4 := Lib.hid (fun W c ho => HSA.out W c v4 a4 (by omega) ho)
              go_upto_region 16 with (go_at_call 20; (with_reducible refine (HN4.out _ _ (heap_alloc_new _ _)).mono ?_); rintro e u5 ⟨v5, rfl, a5, b5, _, h5⟩; have G5 := Lib.hid ((G4.out.alloc (.cells #[.int .i64 0, .int .i64 0, .slice none 0 0, .slice none 0 0, .int .i64 0, .int .i64 0, .string ⟨#[]⟩, .slice none 0 0, .int .i64 0, .int .i64 0, .string ⟨#[]⟩, .slice none 0 0, .string ⟨#[]⟩, .int .i64 0, .slice none 0 0] 30)).thenNo h5); have D5 := Lib.hid ((D4.out.alloc (.cells #[.int .i64 0, .int .i64 0, .slice none 0 0, .slice none 0 0, .int .i64 0, .int .i64 0, .string ⟨#[]⟩, .slice none 0 0, .int .i64 0, .int .i64 0, .string ⟨#[]⟩, .slice none 0 0, .string ⟨#[]⟩, .int .i64 0, .slice none 0 0] 30)).thenNo h5); clear h5)
              clear p0 p1 p2 p3 p4 p5 p6 p7 p8 p9 p10 p11 p12 p13 p14 p15 p16 p17 p18 p19 p20 p21 p22 p23 p24 p25 p26 p27 p28 p29 p30 p31 p32 p33 p34
              by_cases hv5 : 0 ≤ v5
              · obtain ⟨p0, p1, p2, p3, p4, p5, p6, p7, p8, p9, p10, p11, p12, p13, p14, p15, p16, p17, p18, p19, p20, p21, p22, p23, p24, p25, p26, p27, p28, p29, p30, p31, p32, p33, p34⟩ := HOg.out _ D5.out
                have HN5 := Lib.hid (HSS.out u5 v5 a5 (by omega))
                go_upto_region 18 with (go_at_call 29; (with_reducible refine HN5.out.mono ?_); rintro e u6 ⟨v6, rfl, a6, b6, h6⟩; have G6 := Lib.hid (G5.out.thenNo h6); have D6 := Lib.hid (D5.out.thenNo h6); clear h6)
                clear p0 p1 p2 p3 p4 p5 p6 p7 p8 p9 p10 p11 p12 p13 p14 p15 p16 p17 p18 p19 p20 p21 p22 p23 p24 p25 p26 p27 p28 p29 p30 p31 p32 p33 p34
                by_cases hv6 : 0 ≤ v6
                · obtain ⟨p0, p1, p2, p3, p4, p5, p6, p7, p8, p9, p10, p11, p12, p13, p14, p15, p16, p17, p18, p19, p20, p21, p22, p23, p24, p25, p26, p27, p28, p29, p30, p31, p32, p33, p34⟩ := HOg.out _ D6.out
                  have HN6 := Lib.hid (HSS.out u6 v6 a6 (by omega))
                  go_upto_region 20 with (go_at_call 29; (with_reducible refine HN6.out.mono ?_); rintro e u7 ⟨v7, rfl, a7, b7, h7⟩; have G7 := Lib.hid (G6.out.thenNo h7); have D7 := Lib.hid (D6.out.thenNo h7); clear h7)
                  clear p0 p1 p2 p3 p4 p5 p6 p7 p8 p9 p10 p11 p12 p13 p14 p15 p16 p17 p18 p19 p20 p21 p22 p23 p24 p25 p26 p27 p28 p29 p30 p31 p32 p33 p34
                  obtain ⟨p0, p1, p2, p3, p4, p5, p6, p7, p8, p9, p10, p11, p12, p13, p14, p15, p16, p17, p18, p19, p20, p21, p22, p23, p24, p25, p26, p27, p28, p29, p30, p31, p32, p33, p34⟩ := HOg.out _ D7.out
                  go_wp2_with fail
                  go_roundw
                  case rel => exact .inr ⟨v7, rfl, by go_num, by omega, by omega, G7.out⟩
                  case measure => simp [intOf]
                · obtain ⟨p0, p1, p2, p3, p4, p5, p6, p7, p8, p9, p10, p11, p12, p13, p14, p15, p16, p17, p18, p19, p20, p21, p22, p23, p24, p25, p26, p27, p28, p29, p30, p31, p32, p33, p34⟩ := HOg.out _ D6.out
                  go_wp2_with fail
                  go_roundw
                  case rel => exact .inr ⟨v6, rfl, by go_num, by omega, by omega, G6.out⟩
                  case measure => simp [intOf]
              · obtain ⟨p0, p1, p2, p3, p4, p5, p6, p7, p8, p9, p10, p11, p12, p13, p14, p15, p16, p17, p18, p19, p20, p21, p22, p23, p24, p25, p26, p27, p28, p29, p30, p31, p32, p33, p34⟩ := HOg.out _ D5.out
                go_wp2_with fail
                go_roundw
                case rel => exact .inr ⟨v5, rfl, by go_num, by omega, by omega, G5.out⟩
                case measure => simp [intOf]
            · obtain ⟨p0, p1, p2, p3, p4, p5, p6, p7, p8, p9, p10, p11, p12, p13, p14, p15, p16, p17, p18, p19, p20, p21, p22, p23, p24, p25, p26, p27, p28, p29, p30, p31, p32, p33, p34⟩ := HOg.out _ D4.out
              go_wp2_with fail
              go_roundw
              case rel => exact .inr ⟨v4, rfl, by go_num, by omega, by omega, G4.out⟩
              case measure => simp [intOf]
          · obtain ⟨p0, p1, p2, p3, p4, p5, p6, p7, p8, p9, p10, p11, p12, p13, p14, p15, p16, p17, p18, p19, p20, p21, p22, p23, p24, p25, p26, p27, p28, p29, p30, p31, p32, p33, p34⟩ := HOg.out _ D3.out
            go_wp2_with fail
            go_roundw
            case rel => exact .inr ⟨v3, rfl, by go_num, by omega, by omega, G3.out⟩
            case measure => simp [intOf]
        · obtain ⟨p0, p1, p2, p3, p4, p5, p6, p7, p8, p9, p10, p11, p12, p13, p14, p15, p16, p17, p18, p19, p20, p21, p22, p23, p24, p25, p26, p27, p28, p29, p30, p31, p32, p33, p34⟩ := HOg.out _ D2.out
          go_wp2_with fail
          go_roundw
          case rel => exact .inr ⟨v2, rfl, by go_num, by omega, by omega, G2.out⟩
          case measure => simp [intOf]
      · obtain ⟨p0, p1, p2, p3, p4, p5, p6, p7, p8, p9, p10, p11, p12, p13, p14, p15, p16, p17, p18, p19, p20, p21, p22, p23, p24, p25, p26, p27, p28, p29, p30, p31, p32, p33, p34⟩ := HOg.out _ D1.out
        go_wp2_with fail
        go_roundw
        case rel => exact .inr ⟨v1, rfl, by go_num, by omega, by omega, G1.out⟩
        case measure => simp [intOf]
    · go_wp2_with fail
      go_ret
      exact ⟨v, rfl, gv1, gv2, hch.out⟩

set_option maxRecDepth 100000 in
theorem smallS_any {me mc n : Nat} {x : ET me} {y : CT mc n} {R R2 : Nat → Prop} {w : World} {ek en : Int} {es : ByteArray} {eB : Option Addr} {ekl eck : Nat} {ck : Int} {cA : Option Addr} {cel cca : Nat} {cB : Option Addr} {ckl cck : Nat} (hx : (exprV me) R w [.int .i64 ek, .int .i64 en, .string es, .slice eB ekl eck] x) (hy : (condV mc n) R2 w [.int .i64 ck, .slice cA cel cca, .slice cB ckl cck] y) {bs : Nat} (hbs : w.heap[bs]? = some (.cells (stmG 0 ⟨#[]⟩ ek en es eB ekl eck ck cA cel cca cB ckl cck) 58 (0, 0))) :
    Calls Tryz.prog 15 #[.slice (some ⟨bs, 0, none⟩) 1 1] w fun e w' => ∃ q, e = .returned (.bool q) ∧ Chg No w w' := by
  have HS := Lib.hid (sizeS_one rfl hx hy hbs (left := 300) (z := 300) rfl rfl)
  clear hx hy hbs
  go_enter Tryz.func15, Tryz.ntmps15
  go_upto_region 1 with fail
  go_wp2_with (go_at_call 29; (with_reducible refine HS.out.mono ?_); rintro e w4 ⟨v, rfl, g1, g2, h4⟩; have H4 := Lib.hid h4; clear h4)
  go_ret
  exact ⟨_, rfl, H4.out⟩
end Go.Proofs.YtgofncopoieigaaGreatDoor
/- HnF -/
namespace Go.Proofs.YtgofncopoieigaaGreatDoor
open Go Go.RowKit

theorem hexR_facts (l : List Vr) (m : Nat) (x : ET m) : 0 ≤ (hexR l m x).2 ∧ (hexR l m x).2 ≤ 16 := by
  unfold hexR
  split
  · split
    · exact ⟨by show (0 : Int) ≤ 3; decide, by show (3 : Int) ≤ 16; decide⟩
    · exact ⟨by show (0 : Int) ≤ 0; decide, by show (0 : Int) ≤ 16; decide⟩
  · exact ⟨by show (0 : Int) ≤ 5; decide, by show (5 : Int) ≤ 16; decide⟩
theorem hcoR_facts (l : List Vr) (m n : Nat) (x : CT m n) : 0 ≤ (hcoR l m n x).2 ∧ (hcoR l m n x).2 ≤ 16 := by
  unfold hcoR
  split
  · split
    · exact ⟨by show (0 : Int) ≤ 3; decide, by show (3 : Int) ≤ 16; decide⟩
    · exact ⟨by show (0 : Int) ≤ 0; decide, by show (0 : Int) ≤ 16; decide⟩
  · exact ⟨by show (0 : Int) ≤ 5; decide, by show (5 : Int) ≤ 16; decide⟩

set_option maxRecDepth 100000 in
set_option maxHeartbeats 8000000 in
theorem holdsValues_walk {R R2 Rs : Nat → Prop} {w : World} (hK : Keys w) {me : Nat} {x : ET me} {cs : List Value} (hx : (exprV me) R w cs x) {m n : Nat} {y : CT m n} {ds : List Value} (hy : (condV m n) R2 w ds y) {A : Option Addr} {l : List Vr} {cap : Nat} (hl : Vars Rs w A l cap) :
    Calls Tryz.prog 5 #[.agg cs.toArray, .agg ds.toArray, .slice A l.length cap] w fun e w' => e = .returned (.bool true) ∧ Chg No w w' := by
  have hb1 := hl.big
  unfold big at hb1
  obtain ⟨ek, en, es, eB, ekl, eck, rfl⟩ := expr_shape hx
  obtain ⟨ck, cA, cel, cca, cB, ckl, cck, rfl⟩ := cond_shape hy
  have HU := Lib.hid (fun W (hW : Chg No w W) => up18_any (hK.no hW))
  have HSM : Hid (∀ W bs, Chg No w W → W.heap[bs]? = some (.cells (stmG 0 ⟨#[]⟩ ek en es eB ekl eck ck cA cel cca cB ckl cck) 58 (0, 0)) → Calls Tryz.prog 15 #[.slice (some ⟨bs, 0, none⟩) 1 1] W fun e w' => ∃ q, e = .returned (.bool q) ∧ Chg No W w') := fun W bs hW hb => smallS_any ((exprV_good me).no hx hW) ((condV_good m n).no hy hW) hb
  have HE1 := Lib.hid (fun W (hW : Chg No w W) => hexprF_any (hK.no hW) ((exprV_good me).no hx hW) (hl.no varE_good hW))
  have HC1 := Lib.hid (fun W (hW : Chg No w W) => hcondF_any (hK.no hW) ((condV_good m n).no hy hW) (hl.no varE_good hW))
  have HE2 := Lib.hid (fun W (hW : Chg No w W) => refExpr18_any ((exprV_good me).no hx hW) (hl.no varE_good hW))
  have HC2 := Lib.hid (fun W (hW : Chg No w W) => refCond18_any ((condV_good m n).no hy hW) (hl.no varE_good hW))
  obtain ⟨f1, f2⟩ := hexR_facts l me x
  obtain ⟨f3, f4⟩ := hcoR_facts l m n y
  obtain ⟨w3, hw3⟩ : ∃ w3, w3 = (w.alloc (.cells #[.int .i64 ek, .int .i64 en, .string es, .slice eB ekl eck] 27)).alloc (.cells #[.int .i64 ck, .slice cA cel cca, .slice cB ckl cck] 25) := ⟨_, rfl⟩
  obtain ⟨g, hg⟩ : ∃ g, g = w.heap.size + 1 := ⟨_, rfl⟩
  have hsz : (w.alloc (.cells #[.int .i64 ek, .int .i64 en, .string es, .slice eB ekl eck] 27)).heap.size = w.heap.size + 1 := by simp
  have h3 : Hid (Chg No w w3 ∧ w3.heap[w.heap.size]? = some (.cells #[.int .i64 ek, .int .i64 en, .string es, .slice eB ekl eck] 27 (0, 0)) ∧ w3.heap[g]? = some (.cells #[.int .i64 ck, .slice cA cel cca, .slice cB ckl cck] 25 (0, 0))) := by
    rw [hw3, hg, ← hsz]; exact ⟨((Chg.refl _ _).alloc _).alloc _, ((Chg.refl No _).alloc _).obj (heap_alloc_new _ _) id, heap_alloc_new _ _⟩
  have HO := Lib.hid (fun W (hW : Chg No w3 W) => And.intro (obj_4 (hW.obj h3.out.2.1 id)) (obj_3 (hW.obj h3.out.2.2 id)))
  clear hx hy hK hl hsz
  generalize hexR l me x = er at *
  generalize hcoR l m n y = cr at *
  obtain ⟨v1, c1⟩ := er
  obtain ⟨v2, c2⟩ := cr
  try simp only at HE1 HC1 HE2 HC2 f1 f2 f3 f4
  have HK1 := Lib.hid (fun W => code_any W c1 f1 f2)
  have HK2 := Lib.hid (fun W => code_any W c2 f3 f4)
  clear f1 f2 f3 f4
  generalize errV 70 c1 = E1 at *
  generalize errV 70 c2 = E2 at *
  go_enter Tryz.func5, Tryz.ntmps5
  go_upto_region 1 with fail
  rw [← hw3, ← hg]
  clear hw3 hg
  go_upto_region 2 with (go_at_call 6; (with_reducible refine (HU.out _ h3.out.1).mono ?_); rintro e w4 ⟨rfl, h4⟩; have H4 := Lib.hid h4; clear h4)
  obtain ⟨⟨p0, p1, p2, p3⟩, q0, q1, q2⟩ := HO.out _ H4.out
  go_upto_region 3 with (go_at_call 15; (refine (HSM.out _ w4.heap.size ((h3.out.1.thenNo H4.out).alloc _) (heap_alloc_new _ _)).mono ?_); rintro e w5 ⟨q, rfl, h5⟩; have H5 : Hid (Chg No w3 w5) := (H4.out.alloc _).thenNo h5; clear h5)
  clear p0 p1 p2 p3 q0 q1 q2
  cases q
  · go_wp2_with fail
    go_ret
    exact ⟨rfl, h3.out.1.thenNo H5.out⟩
  by_cases hb3 : 200 < l.length
  · have d1 : decide ((200 : Int) < (l.length : Int)) = true := decide_eq_true (by omega)
    go_wp2_with fail
    go_ret
    exact ⟨rfl, h3.out.1.thenNo H5.out⟩
  have d1 : decide ((200 : Int) < (l.length : Int)) = false := decide_eq_false (by omega)
  obtain ⟨⟨p0, p1, p2, p3⟩, q0, q1, q2⟩ := HO.out _ H5.out
  have K1 := Lib.hid (HE1.out w5 (h3.out.1.thenNo H5.out))
  go_upto_region 6 with (go_at_call 16; (with_reducible refine K1.out.mono ?_); rintro e w6 ⟨rfl, h6⟩; have H6 := Lib.hid (H5.out.thenNo h6); clear h6)
  clear p0 p1 p2 p3 q0 q1 q2
  obtain ⟨⟨p0, p1, p2, p3⟩, q0, q1, q2⟩ := HO.out _ H6.out
  have K2 := Lib.hid (HC1.out w6 (h3.out.1.thenNo H6.out))
  go_upto_region 7 with (go_at_call 17; (with_reducible refine K2.out.mono ?_); rintro e w7 ⟨rfl, h7⟩; have H7 := Lib.hid (H6.out.thenNo h7); clear h7)
  clear p0 p1 p2 p3 q0 q1 q2
  obtain ⟨⟨p0, p1, p2, p3⟩, q0, q1, q2⟩ := HO.out _ H7.out
  have K3 := Lib.hid (HE2.out w7 (h3.out.1.thenNo H7.out))
  go_upto_region 8 with (go_at_call 18; (with_reducible refine K3.out.mono ?_); rintro e w8 ⟨rfl, h8⟩; have H8 := Lib.hid (H7.out.thenNo h8); clear h8)
  clear p0 p1 p2 p3 q0 q1 q2
  obtain ⟨⟨p0, p1, p2, p3⟩, q0, q1, q2⟩ := HO.out _ H8.out
  have K4 := Lib.hid (HC2.out w8 (h3.out.1.thenNo H8.out))
  go_upto_region 9 with (go_at_call 19; (with_reducible refine K4.out.mono ?_); rintro e w9 ⟨rfl, h9⟩; have H9 := Lib.hid (h3.out.1.thenNo (H8.out.thenNo h9)); clear h9)
  clear p0 p1 p2 p3 q0 q1 q2
  go_wp2_with (first
    | (go_at_call 13; (with_reducible refine (HK1.out _).mono ?_); rintro e w11 ⟨rfl, rfl⟩)
    | (go_at_call 13; (with_reducible refine (HK2.out _).mono ?_); rintro e w12 ⟨rfl, rfl⟩))
  go_ret
  exact ⟨by simp, H9.out⟩
end Go.Proofs.YtgofncopoieigaaGreatDoor
