/-
  The reference's Check of one procedure with a precondition.
-/
import Derived.Test.YtgofncopoieigaaGreatDoorHmF
import Derived.Test.YtgofncopoieigaaGreatDoorHmC
import Derived.Test.YtgofncopoieigaaGreatDoorShK
namespace Go.Proofs.YtgofncopoieigaaGreatDoor
open Go Go.RowKit

theorem names15_nil (w : World) : Calls Tryz.prog 65 #[.slice none 0 0] w fun e w' => e = .returned (.bool true) ∧ w = w' := by
  go_enter Tryz.func65, Tryz.ntmps65
  go_wp2
  go_loop [3] (fun i => i = .int .i64 0) (fun _ => 0)
  case atStart => rfl
  case round =>
    obtain rfl := hrel
    go_wp2
    go_ret
    exact ⟨rfl, rfl⟩
theorem stmts15_nil (w : World) : Calls Tryz.prog 67 #[.slice none 0 0] w fun e w' => e = .returned (.bool true) ∧ w = w' := by
  go_enter Tryz.func67, Tryz.ntmps67
  go_wp2
  go_loop [3] (fun i => i = .int .i64 0) (fun _ => 0)
  case atStart => rfl
  case round =>
    obtain rfl := hrel
    go_wp2
    go_ret
    exact ⟨rfl, rfl⟩

set_option maxRecDepth 100000 in
set_option maxHeartbeats 16000000 in
theorem check15_nil {m n k : Nat} {x : AT m n k} {R : Nat → Prop} {w : World} {kd ck : Int} {cA : Option Addr} {cel cca : Nat} {cB : Option Addr} {ckl cck : Nat} {ek en : Int} {es : ByteArray} {eB : Option Addr} {ekl eck : Nat} {vk vn : Int} {vs : ByteArray} {vB : Option Addr} {vkl vck : Nat} {fd : ByteArray} {nm : Int} {B : Option Addr} {kl capk : Nat} {ps : Array Value} (hps : ps = prcA kd ck cA cel cca cB ckl cck ek en es eB ekl eck vk vn vs vB vkl vck fd nm B kl capk (.slice none 0 0)) (hx : (assnV m n k) R w [.int .i64 kd, .int .i64 ck, .slice cA cel cca, .slice cB ckl cck, .int .i64 ek, .int .i64 en, .string es, .slice eB ekl eck, .int .i64 vk, .int .i64 vn, .string vs, .slice vB vkl vck, .string fd, .int .i64 nm, .slice B kl capk] x) {bp : Nat} (hbp : w.heap[bp]? = some (.cells ps 93 (0, 0))) :
    Calls Tryz.prog 41 #[.agg #[.slice (some ⟨bp, 0, none⟩) 1 1]] w fun e w' => e = .returned (.int .i64 (chkP (deepA m n k x 100) false (okA m n k x) true)) ∧ Chg No w w' := by
  have hinfo : Hid ((Tryz.prog.info? 93).map (·.size) = some ps.size) := by unfold Hid; rw [hps]; kernel_rfl
  have HONE : Hid (ps.all (·.oneCell') = true) := by unfold Hid; rw [hps]; unfold prcA; simp [Value.oneCell']
  have HSZ : Hid (ps.size = 34) := by unfold Hid; rw [hps]; rfl
  have HPS := Lib.hid hps
  obtain ⟨w3, hw3⟩ : ∃ w3, w3 = w.alloc (.cells #[.slice (some ⟨bp, 0, none⟩) 1 1] 96) := ⟨_, rfl⟩
  have h3 : Hid (Chg No w w3 ∧ w3.heap[w.heap.size]? = some (.cells #[.slice (some ⟨bp, 0, none⟩) 1 1] 96 (0, 0)) ∧ w3.heap[bp]? = some (.cells ps 93 (0, 0))) := by
    rw [hw3]; exact ⟨(Chg.refl _ _).alloc _, heap_alloc_new _ _, ((Chg.refl No _).alloc _).obj hbp id⟩
  have HD1 := Lib.hid (fun W (hW : Chg No w W) => depthA_any m n k x R W _ ((assnV_good m n k).no hx hW) 100 100 rfl (by omega))
  have HD0 := Lib.hid (fun W => depthA_any 1 1 1 zA No W _ (zA_is No W) 100 100 rfl (by omega))
  have HA1 := Lib.hid (fun W (hW : Chg No w W) => assn15_any m n k x R W _ ((assnV_good m n k).no hx hW))
  have HA0 := Lib.hid (fun W => assn15_any 1 1 1 zA No W _ (zA_is No W))
  rw [zA_ok] at HA0
  have HN := Lib.hid (fun W => name13_any (w := W) ⟨#[112]⟩ (by decide))
  rw [show nameB ⟨#[112]⟩ = true by kernel_rfl] at HN
  have HNN := Lib.hid (fun W => names15_nil W)
  have HS1 := Lib.hid (fun W => stmts15_nil W)
  have hd1 := dA_deep m n k x 100
  have hd0 := dA_deep 1 1 1 zA 100
  rw [zA_deep (by omega)] at hd0
  obtain ⟨ans, hans⟩ : ∃ ans, ans = chkP (deepA m n k x 100) false (okA m n k x) true := ⟨_, rfl⟩
  rw [← hans]
  have HANS := Lib.hid hans
  clear hans hx hbp hps
  rw [← hd1] at HANS
  generalize dA m n k x 100 = D1 at *
  generalize dA 1 1 1 zA 100 = D0 at *
  generalize okA m n k x = a1 at *
  have hn0 : ¬ 100 < D0 := of_decide_eq_false hd0
  have hn0' : ¬ (100 : Int) < (D0 : Int) := by omega
  clear hd1 hd0
  have HO : Hid (∀ (g : Nat) (W : World), W.heap[g]? = some (.cells ps 93 (0, 0)) → W.cell? ⟨g, 0, none⟩ = some (.string ⟨#[112]⟩) ∧ W.cell? ⟨g, 1, none⟩ = some (.slice none 0 0) ∧ W.cell? ⟨g, 2, none⟩ = some (.slice none 0 0) ∧ W.cell? ⟨g, 3, none⟩ = some (.int .i64 kd) ∧ W.cell? ⟨g, 4, none⟩ = some (.int .i64 ck) ∧ W.cell? ⟨g, 5, none⟩ = some (.slice cA cel cca) ∧ W.cell? ⟨g, 6, none⟩ = some (.slice cB ckl cck) ∧ W.cell? ⟨g, 7, none⟩ = some (.int .i64 ek) ∧ W.cell? ⟨g, 8, none⟩ = some (.int .i64 en) ∧ W.cell? ⟨g, 9, none⟩ = some (.string es) ∧ W.cell? ⟨g, 10, none⟩ = some (.slice eB ekl eck) ∧ W.cell? ⟨g, 11, none⟩ = some (.int .i64 vk) ∧ W.cell? ⟨g, 12, none⟩ = some (.int .i64 vn) ∧ W.cell? ⟨g, 13, none⟩ = some (.string vs) ∧ W.cell? ⟨g, 14, none⟩ = some (.slice vB vkl vck) ∧ W.cell? ⟨g, 15, none⟩ = some (.string fd) ∧ W.cell? ⟨g, 16, none⟩ = some (.int .i64 nm) ∧ W.cell? ⟨g, 17, none⟩ = some (.slice B kl capk) ∧ W.cell? ⟨g, 18, none⟩ = some (.int .i64 0) ∧ W.cell? ⟨g, 19, none⟩ = some (.int .i64 0) ∧ W.cell? ⟨g, 20, none⟩ = some (.slice none 0 0) ∧ W.cell? ⟨g, 21, none⟩ = some (.slice none 0 0) ∧ W.cell? ⟨g, 22, none⟩ = some (.int .i64 0) ∧ W.cell? ⟨g, 23, none⟩ = some (.int .i64 0) ∧ W.cell? ⟨g, 24, none⟩ = some (.string ⟨#[]⟩) ∧ W.cell? ⟨g, 25, none⟩ = some (.slice none 0 0) ∧ W.cell? ⟨g, 26, none⟩ = some (.int .i64 0) ∧ W.cell? ⟨g, 27, none⟩ = some (.int .i64 0) ∧ W.cell? ⟨g, 28, none⟩ = some (.string ⟨#[]⟩) ∧ W.cell? ⟨g, 29, none⟩ = some (.slice none 0 0) ∧ W.cell? ⟨g, 30, none⟩ = some (.string ⟨#[]⟩) ∧ W.cell? ⟨g, 31, none⟩ = some (.int .i64 0) ∧ W.cell? ⟨g, 32, none⟩ = some (.slice none 0 0) ∧ W.cell? ⟨g, 33, none⟩ = some (.slice none 0 0)) := fun g W h => by
    rw [HPS.out] at h
    unfold prcA at h
    simp [World.cell?, h]
  have HEN : Hid (∀ W, Chg No w3 W → W.cell? ⟨w.heap.size, 0, none⟩ = some (.slice (some ⟨bp, 0, none⟩) 1 1) ∧ W.heap[bp]? = some (.cells ps 93 (0, 0)) ∧ Chg No w W) := fun W hW =>
    ⟨obj_1 (hW.obj h3.out.2.1 id), hW.obj h3.out.2.2 id, h3.out.1.thenNo hW⟩
  go_enter Tryz.func41, Tryz.ntmps41
  go_upto_region 1 with fail
  rw [← hw3]
  clear hw3
  go_wp2_with fail
  go_loopw [3] (fun s3 wr => (s3 = .int .i64 0 ∧ Hid (Chg No w3 wr)) ∨ (s3 = .int .i64 1 ∧ Hid (Chg No w3 wr) ∧ Hid (¬ 100 < D1))) (fun s3 _ => 1 - (intOf s3).toNat)
  case atStart => exact .inl ⟨rfl, Chg.refl _ _⟩
  case round =>
    rcases hrel with ⟨rfl, hch⟩ | ⟨rfl, hch, hdd⟩
    · obtain ⟨p0, HB, HW⟩ := HEN.out wr hch.out
      have HB := Lib.hid HB
      have HW := Lib.hid HW
      go_upto_region 5 with (first
        | (refine wpList_load_row rfl 93 _ rfl bp rfl 93 ps (0, 0) _ HB.out Tryz.underlying93 rfl hinfo.out ?_)
        | (refine wpList_store_row rfl 93 _ _ rfl wr.heap.size ps rfl rfl 93 _ (heap_alloc_new _ _) hinfo.out (by rw [HSZ.out]; rfl) HONE.out ?_))
      obtain ⟨w4, hw4⟩ : ∃ w4, w4 = (wr.alloc (.cells #[.string ⟨#[]⟩, .slice none 0 0, .slice none 0 0, .int .i64 0, .int .i64 0, .slice none 0 0, .slice none 0 0, .int .i64 0, .int .i64 0, .string ⟨#[]⟩, .slice none 0 0, .int .i64 0, .int .i64 0, .string ⟨#[]⟩, .slice none 0 0, .string ⟨#[]⟩, .int .i64 0, .slice none 0 0, .int .i64 0, .int .i64 0, .slice none 0 0, .slice none 0 0, .int .i64 0, .int .i64 0, .string ⟨#[]⟩, .slice none 0 0, .int .i64 0, .int .i64 0, .string ⟨#[]⟩, .slice none 0 0, .string ⟨#[]⟩, .int .i64 0, .slice none 0 0, .slice none 0 0] 93)).setRow wr.heap.size ps := ⟨_, rfl⟩
      rw [← hw4]
      obtain ⟨g, hg⟩ : ∃ g, g = wr.heap.size := ⟨_, rfl⟩
      rw [← hg]
      have C4 : Hid (Chg No wr w4 ∧ w4.heap[g]? = some (.cells ps 93 (0, 0))) := by
        rw [hw4, hg]
        exact ⟨chg_setRow ps, setRow_heap _ _ _ _ _ _ (heap_alloc_new _ _)⟩
      have HOg := Lib.hid (fun W (hW : Chg No w4 W) => HO.out g W (hW.obj C4.out.2 id))
      have W4 := Lib.hid (HW.out.thenNo C4.out.1)
      clear hw4 hg HB p0
      obtain ⟨p0, p1, p2, p3, p4, p5, p6, p7, p8, p9, p10, p11, p12, p13, p14, p15, p16, p17, p18, p19, p20, p21, p22, p23, p24, p25, p26, p27, p28, p29, p30, p31, p32, p33⟩ := HOg.out w4 (Chg.refl _ _)
      clear HA1 HA0 HN HNN HS1 HEN
      have HDP := Lib.hid (HD1.out w4 W4.out)
      by_cases hdd : 100 < D1
      · have hdi : (100 : Int) < (D1 : Int) := by omega
        obtain rfl : ans = 4 := by rw [HANS.out, decide_eq_true hdd]; rfl
        clear HANS
        go_wp2_with (go_at_call 62; (with_reducible refine HDP.out.mono ?_); rintro e v1 ⟨rfl, h1⟩; have G1 := Lib.hid h1; clear h1)
        go_ret
        exact ⟨rfl, W4.out.thenNo G1.out⟩
      · have hdi : ¬ (100 : Int) < (D1 : Int) := by omega
        go_upto_region 7 with (first
          | (go_at_call 62; (with_reducible refine HDP.out.mono ?_); rintro e v1 ⟨rfl, h1⟩; have G1 := Lib.hid h1; clear h1 p0 p1 p2 p3 p4 p5 p6 p7 p8 p9 p10 p11 p12 p13 p14 p15 p16 p17 p18 p19 p20 p21 p22 p23 p24 p25 p26 p27 p28 p29 p30 p31 p32 p33; obtain ⟨p0, p1, p2, p3, p4, p5, p6, p7, p8, p9, p10, p11, p12, p13, p14, p15, p16, p17, p18, p19, p20, p21, p22, p23, p24, p25, p26, p27, p28, p29, p30, p31, p32, p33⟩ := HOg.out v1 G1.out)
          | (go_at_call 62; (with_reducible refine (HD0.out _).mono ?_); rintro e v2 ⟨rfl, h2⟩; have G2 := Lib.hid (G1.out.thenNo h2); clear h2))
        clear p0 p1 p2 p3 p4 p5 p6 p7 p8 p9 p10 p11 p12 p13 p14 p15 p16 p17 p18 p19 p20 p21 p22 p23 p24 p25 p26 p27 p28 p29 p30 p31 p32 p33 HDP
        obtain ⟨p0, p1, p2, p3, p4, p5, p6, p7, p8, p9, p10, p11, p12, p13, p14, p15, p16, p17, p18, p19, p20, p21, p22, p23, p24, p25, p26, p27, p28, p29, p30, p31, p32, p33⟩ := HOg.out v2 G2.out
        obtain ⟨wo, hwo⟩ : ∃ wo, wo = wr := ⟨_, rfl⟩
        subst hwo
        have HDD := Lib.hid hdd
        clear hdd hdi
        go_wp2_with fail
        go_loopw [5] (fun s5 wr => s5 = .int .i64 0 ∧ v2 = wr) (fun _ _ => 0)
        case atStart => exact ⟨rfl, rfl⟩
        case round =>
          obtain ⟨rfl, rfl⟩ := hrel
          go_wp2_with fail
          go_roundw
          case rel => exact .inr ⟨by go_num, hch.out.thenNo (C4.out.1.thenNo G2.out), HDD.out⟩
          case measure => simp [intOf]
    · obtain ⟨p0, HB0, HW0⟩ := HEN.out wr hch.out
      have HA2 : Hid (ans = if a1 = true then 0 else 5) := by
        unfold Hid
        rw [HANS.out, decide_eq_false hdd.out]
        cases a1 <;> rfl
      clear HB0 HW0 HD1 HD0 HANS
      obtain ⟨wo, hwo⟩ : ∃ wo, wo = wr := ⟨_, rfl⟩
      subst hwo
      go_wp2_with fail
      clear p0
      go_loopw [6] (fun s6 wr => (s6 = .int .i64 0 ∧ Hid (Chg No w3 wr)) ∨ (s6 = .int .i64 1 ∧ Hid (Chg No w3 wr) ∧ Hid (a1 = true))) (fun s6 _ => 1 - (intOf s6).toNat)
      case atStart => exact .inl ⟨rfl, hch.out⟩
      case round =>
        clear hch
        rcases hrel with ⟨rfl, hch⟩ | ⟨rfl, hch, haa⟩
        · obtain ⟨p0, HB, HW⟩ := HEN.out wr hch.out
          have HB := Lib.hid HB
          have HW := Lib.hid HW
          go_upto_region 16 with (first
            | (refine wpList_load_row rfl 93 _ rfl bp rfl 93 ps (0, 0) _ HB.out Tryz.underlying93 rfl hinfo.out ?_)
            | (refine wpList_store_row rfl 93 _ _ rfl wr.heap.size ps rfl rfl 93 _ (heap_alloc_new _ _) hinfo.out (by rw [HSZ.out]; rfl) HONE.out ?_))
          obtain ⟨w4, hw4⟩ : ∃ w4, w4 = (wr.alloc (.cells #[.string ⟨#[]⟩, .slice none 0 0, .slice none 0 0, .int .i64 0, .int .i64 0, .slice none 0 0, .slice none 0 0, .int .i64 0, .int .i64 0, .string ⟨#[]⟩, .slice none 0 0, .int .i64 0, .int .i64 0, .string ⟨#[]⟩, .slice none 0 0, .string ⟨#[]⟩, .int .i64 0, .slice none 0 0, .int .i64 0, .int .i64 0, .slice none 0 0, .slice none 0 0, .int .i64 0, .int .i64 0, .string ⟨#[]⟩, .slice none 0 0, .int .i64 0, .int .i64 0, .string ⟨#[]⟩, .slice none 0 0, .string ⟨#[]⟩, .int .i64 0, .slice none 0 0, .slice none 0 0] 93)).setRow wr.heap.size ps := ⟨_, rfl⟩
          rw [← hw4]
          obtain ⟨g, hg⟩ : ∃ g, g = wr.heap.size := ⟨_, rfl⟩
          rw [← hg]
          have C4 : Hid (Chg No wr w4 ∧ w4.heap[g]? = some (.cells ps 93 (0, 0))) := by
            rw [hw4, hg]
            exact ⟨chg_setRow ps, setRow_heap _ _ _ _ _ _ (heap_alloc_new _ _)⟩
          have HOg := Lib.hid (fun W (hW : Chg No w4 W) => HO.out g W (hW.obj C4.out.2 id))
          have W4 := Lib.hid (HW.out.thenNo C4.out.1)
          clear hw4 hg HB p0
          obtain ⟨p0, p1, p2, p3, p4, p5, p6, p7, p8, p9, p10, p11, p12, p13, p14, p15, p16, p17, p18, p19, p20, p21, p22, p23, p24, p25, p26, p27, p28, p29, p30, p31, p32, p33⟩ := HOg.out w4 (Chg.refl _ _)
          go_upto_region 17 with (go_at_call 64; (with_reducible refine (HN.out _).mono ?_); rintro e v1 ⟨rfl, h1⟩; have G1 := Lib.hid h1; clear h1)
          clear p0 p1 p2 p3 p4 p5 p6 p7 p8 p9 p10 p11 p12 p13 p14 p15 p16 p17 p18 p19 p20 p21 p22 p23 p24 p25 p26 p27 p28 p29 p30 p31 p32 p33
          obtain ⟨p0, p1, p2, p3, p4, p5, p6, p7, p8, p9, p10, p11, p12, p13, p14, p15, p16, p17, p18, p19, p20, p21, p22, p23, p24, p25, p26, p27, p28, p29, p30, p31, p32, p33⟩ := HOg.out v1 G1.out
          have HAP := Lib.hid (HA1.out v1 (W4.out.thenNo G1.out))
          cases a1
          · obtain rfl : ans = 5 := HA2.out
            clear HA2
            go_wp2_with (first
              | (go_at_call 65; (with_reducible refine (HNN.out _).mono ?_); rintro e v2 ⟨rfl, rfl⟩)
              | (go_at_call 66; (with_reducible refine HAP.out.mono ?_); rintro e v3 ⟨rfl, h3'⟩; have G3 := Lib.hid (G1.out.thenNo h3'); clear h3'))
            go_ret
            exact ⟨rfl, W4.out.thenNo G3.out⟩
          · go_wp2_with (first
              | (go_at_call 65; (with_reducible refine (HNN.out _).mono ?_); rintro e v2 ⟨rfl, rfl⟩)
              | (go_at_call 66; (with_reducible refine HAP.out.mono ?_); rintro e v3 ⟨rfl, h3'⟩; have G3 := Lib.hid (G1.out.thenNo h3'); clear h3' p0 p1 p2 p3 p4 p5 p6 p7 p8 p9 p10 p11 p12 p13 p14 p15 p16 p17 p18 p19 p20 p21 p22 p23 p24 p25 p26 p27 p28 p29 p30 p31 p32 p33; obtain ⟨p0, p1, p2, p3, p4, p5, p6, p7, p8, p9, p10, p11, p12, p13, p14, p15, p16, p17, p18, p19, p20, p21, p22, p23, p24, p25, p26, p27, p28, p29, p30, p31, p32, p33⟩ := HOg.out v3 G3.out)
              | (go_at_call 66; (with_reducible refine (HA0.out _).mono ?_); rintro e v4 ⟨rfl, h4'⟩; have G4 := Lib.hid (G3.out.thenNo h4'); clear h4' p0 p1 p2 p3 p4 p5 p6 p7 p8 p9 p10 p11 p12 p13 p14 p15 p16 p17 p18 p19 p20 p21 p22 p23 p24 p25 p26 p27 p28 p29 p30 p31 p32 p33; obtain ⟨p0, p1, p2, p3, p4, p5, p6, p7, p8, p9, p10, p11, p12, p13, p14, p15, p16, p17, p18, p19, p20, p21, p22, p23, p24, p25, p26, p27, p28, p29, p30, p31, p32, p33⟩ := HOg.out v4 G4.out)
              | (go_at_call 67; (with_reducible refine (HS1.out _).mono ?_); rintro e v5 ⟨rfl, rfl⟩))
            go_roundw
            case rel => exact .inr ⟨by go_num, hch.out.thenNo (C4.out.1.thenNo G4.out), by unfold Hid; trivial⟩
            case measure => simp [intOf]
        · obtain ⟨p0, HB0, HW0⟩ := HEN.out wr hch.out
          obtain rfl : ans = 0 := by rw [HA2.out, if_pos haa.out]
          clear HB0 HA2
          go_wp2_with fail
          go_ret
          exact ⟨rfl, HW0⟩
end Go.Proofs.YtgofncopoieigaaGreatDoor
