/-
  show.stmts, names; show.Check of one procedure whose precondition and body are asked.
-/
import Derived.Test.YtpmndblakmobdaaGreatDoorShJ
import Derived.Test.YtpmndblakmobdaaGreatDoorShG
namespace Go.Proofs.YtpmndblakmobdaaGreatDoor
open Go Go.RowKit

set_option maxRecDepth 10000 in
theorem entered_stmts1 : Entered 98 := fun _ _ => rfl
set_option maxRecDepth 100000 in
theorem stmts_nil (w : World) : Calls Tryz.prog 74 #[.slice none 0 0] w fun e w' => e = .returned (.bool true) ∧ Chg No w w' := by
  have H := Lib.hid (fun W => containsStmtNil0 W 98)
  go_enter Tryz.func74, Tryz.ntmps74
  go_wp2_with (go_at_call 86; refine (H.out _).mono ?_; rintro e w1 ⟨rfl, rfl⟩)
  go_ret
  exact ⟨rfl, Chg.refl _ _⟩
set_option maxRecDepth 100000 in
theorem stmts_1 {m : Nat} {x : ET m} {R : Nat → Prop} {w : World} {ek en : Int} {es : ByteArray} {eB : Option Addr} {ekl eck : Nat} {cs : Array Value} (hcs : cs = stm1 ek en es eB ekl eck) (hK : Keys w) (hx : (exprV m) R w [.int .i64 ek, .int .i64 en, .string es, .slice eB ekl eck] x) {bs : Nat} (hbs : w.heap[bs]? = some (.cells cs 96 (0, 0))) :
    Calls Tryz.prog 74 #[.slice (some ⟨bs, 0, none⟩) 1 1] w fun e w' => e = .returned (.bool (okE m x)) ∧ Chg No w w' := by
  have hinfo : Hid ((Tryz.prog.info? 96).map (·.size) = some cs.size) := by unfold Hid; rw [hcs]; kernel_rfl
  have HCF := Lib.hid (containsStmt0 hbs (by rw [hcs]; rfl) 98 entered_stmts1 (!(okE m x)) (fun W hW => by
    have HST := Lib.hid (fun W' (hW' : Chg No W W') => stmt_1 hcs ((hK.no hW).no hW') ((exprV_good m).no ((exprV_good m).no hx hW) hW'))
    generalize okE m x = q at *
    clear hx hK hbs hcs
    go_enter Tryz.func98, Tryz.ntmps98
    go_wp2_with (first
      | (refine wpList_load_row rfl 96 _ rfl W.heap.size rfl 96 cs (0, 0) _ (heap_alloc_new _ _) Tryz.underlying96 rfl hinfo.out ?_)
      | (go_at_call 99; refine (HST.out _ ((Chg.refl _ _).alloc _)).mono ?_; rintro e w1 ⟨rfl, h1⟩))
    go_ret
    exact ⟨rfl, ((Chg.refl _ _).alloc _).thenNo h1⟩))
  generalize okE m x = ans at *
  clear hx hbs hcs hK
  go_enter Tryz.func74, Tryz.ntmps74
  go_wp2_with (go_at_call 86; refine HCF.out.mono ?_; rintro e w1 ⟨rfl, h1⟩)
  go_ret
  exact ⟨by simp, h1⟩
set_option maxRecDepth 100000 in
theorem stmts_8 {m n : Nat} {x : CT m n} {R : Nat → Prop} {w : World} {ck : Int} {cA : Option Addr} {cel cca : Nat} {cB : Option Addr} {ckl cck : Nat} {cs : Array Value} (hcs : cs = stm8 ck cA cel cca cB ckl cck) (hK : Keys w) (hx : (condV m n) R w [.int .i64 ck, .slice cA cel cca, .slice cB ckl cck] x) {bs : Nat} (hbs : w.heap[bs]? = some (.cells cs 96 (0, 0))) :
    Calls Tryz.prog 74 #[.slice (some ⟨bs, 0, none⟩) 1 1] w fun e w' => e = .returned (.bool (okC m n x)) ∧ Chg No w w' := by
  have hinfo : Hid ((Tryz.prog.info? 96).map (·.size) = some cs.size) := by unfold Hid; rw [hcs]; kernel_rfl
  have HCF := Lib.hid (containsStmt0 hbs (by rw [hcs]; rfl) 98 entered_stmts1 (!(okC m n x)) (fun W hW => by
    have HST := Lib.hid (fun W' (hW' : Chg No W W') => stmt_8 hcs ((hK.no hW).no hW') ((condV_good m n).no ((condV_good m n).no hx hW) hW'))
    generalize okC m n x = q at *
    clear hx hK hbs hcs
    go_enter Tryz.func98, Tryz.ntmps98
    go_wp2_with (first
      | (refine wpList_load_row rfl 96 _ rfl W.heap.size rfl 96 cs (0, 0) _ (heap_alloc_new _ _) Tryz.underlying96 rfl hinfo.out ?_)
      | (go_at_call 99; refine (HST.out _ ((Chg.refl _ _).alloc _)).mono ?_; rintro e w1 ⟨rfl, h1⟩))
    go_ret
    exact ⟨rfl, ((Chg.refl _ _).alloc _).thenNo h1⟩))
  generalize okC m n x = ans at *
  clear hx hbs hcs hK
  go_enter Tryz.func74, Tryz.ntmps74
  go_wp2_with (go_at_call 86; refine HCF.out.mono ?_; rintro e w1 ⟨rfl, h1⟩)
  go_ret
  exact ⟨by simp, h1⟩

theorem indexStrNil (w : World) (fv : FuncId) :
    Calls Tryz.prog 111 #[.slice none 0 0, .func (.func fv) #[] #[]] w fun e w' => e = .returned (.int .i64 (-1)) ∧ w = w' := by
  go_enter Tryz.func111, Tryz.ntmps111
  go_wp2
  go_loop [8] (fun i => i = .int .i64 0) (fun _ => 0)
  case atStart => rfl
  case round =>
    obtain rfl := hrel
    go_wp2
    go_ret
    exact ⟨rfl, rfl⟩
theorem containsStrNil (w : World) (fv : FuncId) : Calls Tryz.prog 91 #[.slice none 0 0, .func (.func fv) #[] #[]] w fun e w' => e = .returned (.bool false) ∧ w = w' := by
  have H := Lib.hid (indexStrNil w fv)
  go_enter Tryz.func91, Tryz.ntmps91
  go_wp2_with (go_at_call 111; refine H.out.mono ?_; rintro e w1 ⟨rfl, rfl⟩)
  go_ret
  exact ⟨rfl, rfl⟩
theorem names_nil (w : World) : Calls Tryz.prog 72 #[.slice none 0 0] w fun e w' => e = .returned (.bool true) ∧ Chg No w w' := by
  have H := Lib.hid (fun W => containsStrNil W 92)
  go_enter Tryz.func72, Tryz.ntmps72
  go_wp2_with (go_at_call 91; refine (H.out _).mono ?_; rintro e w1 ⟨rfl, rfl⟩)
  go_ret
  exact ⟨rfl, Chg.refl _ _⟩

/-- A procedure 'p' with a precondition and a body. -/
def prcA (kd ck : Int) (cA : Option Addr) (cel cca : Nat) (cB : Option Addr) (ckl cck : Nat) (ek en : Int) (es : ByteArray) (eB : Option Addr) (ekl eck : Nat) (vk vn : Int) (vs : ByteArray) (vB : Option Addr) (vkl vck : Nat) (fd : ByteArray) (nm : Int) (B : Option Addr) (kl capk : Nat) (bodyV : Value) : Array Value := #[.string ⟨#[112]⟩, .slice none 0 0, .slice none 0 0, .int .i64 kd, .int .i64 ck, .slice cA cel cca, .slice cB ckl cck, .int .i64 ek, .int .i64 en, .string es, .slice eB ekl eck, .int .i64 vk, .int .i64 vn, .string vs, .slice vB vkl vck, .string fd, .int .i64 nm, .slice B kl capk, .int .i64 0, .int .i64 0, .slice none 0 0, .slice none 0 0, .int .i64 0, .int .i64 0, .string ⟨#[]⟩, .slice none 0 0, .int .i64 0, .int .i64 0, .string ⟨#[]⟩, .slice none 0 0, .string ⟨#[]⟩, .int .i64 0, .slice none 0 0, bodyV]
/-- What is amiss: its precondition or body is too deep (d1, d2), may not be shown (a1, s1). -/
def chkP (d1 d2 a1 s1 : Bool) : Int := if (d1 || d2) = true then 4 else if (a1 && s1) = true then 0 else 5
set_option maxRecDepth 100000 in
set_option maxHeartbeats 16000000 in
theorem check_deep {m n k : Nat} {x : AT m n k} {R : Nat → Prop} {w : World} {kd ck : Int} {cA : Option Addr} {cel cca : Nat} {cB : Option Addr} {ckl cck : Nat} {ek en : Int} {es : ByteArray} {eB : Option Addr} {ekl eck : Nat} {vk vn : Int} {vs : ByteArray} {vB : Option Addr} {vkl vck : Nat} {fd : ByteArray} {nm : Int} {B : Option Addr} {kl capk : Nat} {A0 : Option Addr} {n0 c0 : Nat} {ps : Array Value} (hps : ps = prcA kd ck cA cel cca cB ckl cck ek en es eB ekl eck vk vn vs vB vkl vck fd nm B kl capk (.slice A0 n0 c0)) (hK : Keys w) (hx : (assnV m n k) R w [.int .i64 kd, .int .i64 ck, .slice cA cel cca, .slice cB ckl cck, .int .i64 ek, .int .i64 en, .string es, .slice eB ekl eck, .int .i64 vk, .int .i64 vn, .string vs, .slice vB vkl vck, .string fd, .int .i64 nm, .slice B kl capk] x) {bp : Nat} (hbp : w.heap[bp]? = some (.cells ps 120 (0, 0)))
    (d2 s1 : Bool) (hd2 : ∀ W, Chg No w W → Calls Tryz.prog 70 #[.slice A0 n0 c0, .int .i64 100] W fun e w' => e = .returned (.bool d2) ∧ Chg No W w')
    (hs1 : ∀ W, Chg No w W → Calls Tryz.prog 74 #[.slice A0 n0 c0] W fun e w' => e = .returned (.bool s1) ∧ Chg No W w') (HDD : Hid (deepA m n k x 100 = true ∨ d2 = true)) :
    Calls Tryz.prog 53 #[.agg #[.slice (some ⟨bp, 0, none⟩) 1 1]] w fun e w' => e = .returned (errV 83 (chkP (deepA m n k x 100) d2 (okA m n k x) s1)) ∧ Chg No w w' := by
  have hinfo : Hid ((Tryz.prog.info? 120).map (·.size) = some ps.size) := by unfold Hid; rw [hps]; kernel_rfl
  have HONE : Hid (ps.all (·.oneCell') = true) := by unfold Hid; rw [hps]; unfold prcA; simp [Value.oneCell']
  have HSZ : Hid (ps.size = 34) := by unfold Hid; rw [hps]; rfl
  have HPS := Lib.hid hps
  obtain ⟨w3, hw3⟩ : ∃ w3, w3 = w.alloc (.cells #[.slice (some ⟨bp, 0, none⟩) 1 1] 123) := ⟨_, rfl⟩
  have h3 : Hid (Chg No w w3 ∧ w3.heap[w.heap.size]? = some (.cells #[.slice (some ⟨bp, 0, none⟩) 1 1] 123 (0, 0)) ∧ w3.heap[bp]? = some (.cells ps 120 (0, 0))) := by
    rw [hw3]; exact ⟨(Chg.refl _ _).alloc _, heap_alloc_new _ _, ((Chg.refl No _).alloc _).obj hbp id⟩
  have HD1 := Lib.hid (fun W (hW : Chg No w W) z (hz : z = ((100 : Nat) : Int)) => deepA_any m n k x R W _ ((assnV_good m n k).no hx hW) 100 z hz (by omega))
  have HD0 := Lib.hid (fun W z (hz : z = ((100 : Nat) : Int)) => deepA_any 1 1 1 zA No W _ (zA_is No W) 100 z hz (by omega))
  rw [zA_deep (by omega)] at HD0
  have HA1 := Lib.hid (fun W (hW : Chg No w W) => assn_any m n k x R W _ (hK.no hW) ((assnV_good m n k).no hx hW))
  have HA0 := Lib.hid (fun W (hW : Chg No w W) => assn_any 1 1 1 zA No W _ (hK.no hW) (zA_is No W))
  rw [zA_ok] at HA0
  have HN := Lib.hid (fun W (hW : Chg No w W) => name_any ⟨#[112]⟩ (by decide) (hK.no hW))
  rw [show nameB ⟨#[112]⟩ = true by kernel_rfl] at HN
  have HNN := Lib.hid (fun W => names_nil W)
  have HS1 := Lib.hid hs1
  have HD2 := Lib.hid hd2
  clear hs1 hd2
  obtain ⟨ans, hans⟩ : ∃ ans, ans = errV 83 (chkP (deepA m n k x 100) d2 (okA m n k x) s1) := ⟨_, rfl⟩
  rw [← hans]
  have HANS := Lib.hid hans
  clear hans hx hK hbp hps
  generalize deepA m n k x 100 = d1 at *
  generalize okA m n k x = a1 at *
  obtain ⟨p0, _⟩ : w3.cell? ⟨w.heap.size, 0, none⟩ = some (.slice (some ⟨bp, 0, none⟩) 1 1) ∧ True := ⟨obj_1 h3.out.2.1, trivial⟩
  have HO : Hid (∀ (g : Nat) (W : World), W.heap[g]? = some (.cells ps 120 (0, 0)) → W.cell? ⟨g, 0, none⟩ = some (.string ⟨#[112]⟩) ∧ W.cell? ⟨g, 1, none⟩ = some (.slice none 0 0) ∧ W.cell? ⟨g, 2, none⟩ = some (.slice none 0 0) ∧ W.cell? ⟨g, 3, none⟩ = some (.int .i64 kd) ∧ W.cell? ⟨g, 4, none⟩ = some (.int .i64 ck) ∧ W.cell? ⟨g, 5, none⟩ = some (.slice cA cel cca) ∧ W.cell? ⟨g, 6, none⟩ = some (.slice cB ckl cck) ∧ W.cell? ⟨g, 7, none⟩ = some (.int .i64 ek) ∧ W.cell? ⟨g, 8, none⟩ = some (.int .i64 en) ∧ W.cell? ⟨g, 9, none⟩ = some (.string es) ∧ W.cell? ⟨g, 10, none⟩ = some (.slice eB ekl eck) ∧ W.cell? ⟨g, 11, none⟩ = some (.int .i64 vk) ∧ W.cell? ⟨g, 12, none⟩ = some (.int .i64 vn) ∧ W.cell? ⟨g, 13, none⟩ = some (.string vs) ∧ W.cell? ⟨g, 14, none⟩ = some (.slice vB vkl vck) ∧ W.cell? ⟨g, 15, none⟩ = some (.string fd) ∧ W.cell? ⟨g, 16, none⟩ = some (.int .i64 nm) ∧ W.cell? ⟨g, 17, none⟩ = some (.slice B kl capk) ∧ W.cell? ⟨g, 18, none⟩ = some (.int .i64 0) ∧ W.cell? ⟨g, 19, none⟩ = some (.int .i64 0) ∧ W.cell? ⟨g, 20, none⟩ = some (.slice none 0 0) ∧ W.cell? ⟨g, 21, none⟩ = some (.slice none 0 0) ∧ W.cell? ⟨g, 22, none⟩ = some (.int .i64 0) ∧ W.cell? ⟨g, 23, none⟩ = some (.int .i64 0) ∧ W.cell? ⟨g, 24, none⟩ = some (.string ⟨#[]⟩) ∧ W.cell? ⟨g, 25, none⟩ = some (.slice none 0 0) ∧ W.cell? ⟨g, 26, none⟩ = some (.int .i64 0) ∧ W.cell? ⟨g, 27, none⟩ = some (.int .i64 0) ∧ W.cell? ⟨g, 28, none⟩ = some (.string ⟨#[]⟩) ∧ W.cell? ⟨g, 29, none⟩ = some (.slice none 0 0) ∧ W.cell? ⟨g, 30, none⟩ = some (.string ⟨#[]⟩) ∧ W.cell? ⟨g, 31, none⟩ = some (.int .i64 0) ∧ W.cell? ⟨g, 32, none⟩ = some (.slice none 0 0) ∧ W.cell? ⟨g, 33, none⟩ = some (.slice A0 n0 c0)) := fun g W h => by
    rw [HPS.out] at h
    unfold prcA at h
    simp [World.cell?, h]
  have HEN : Hid (∀ W, Chg No w3 W → W.cell? ⟨w.heap.size, 0, none⟩ = some (.slice (some ⟨bp, 0, none⟩) 1 1) ∧ W.heap[bp]? = some (.cells ps 120 (0, 0)) ∧ Chg No w W) := fun W hW =>
    ⟨obj_1 (hW.obj h3.out.2.1 id), hW.obj h3.out.2.2 id, h3.out.1.thenNo hW⟩
  go_enter Tryz.func53, Tryz.ntmps53
  go_upto_region 1 with fail
  rw [← hw3]
  clear hw3
  go_wp2_with fail
  clear p0
  go_loopw [10] (fun s10 wr => (s10 = .int .i64 0 ∧ Hid (Chg No w3 wr)) ∨ (s10 = .int .i64 1 ∧ Hid (Chg No w3 wr) ∧ Hid (d1 = false ∧ d2 = false))) (fun s10 _ => 1 - (intOf s10).toNat)
  case atStart => exact .inl ⟨rfl, Chg.refl _ _⟩
  case round =>
    rcases hrel with ⟨rfl, hch⟩ | ⟨rfl, hch, hdd⟩
    · obtain ⟨p0, HB, HW⟩ := HEN.out wr hch.out
      have HB := Lib.hid HB
      have HW := Lib.hid HW
      go_upto_region 4 with (first
        | (refine wpList_load_row rfl 120 _ rfl bp rfl 120 ps (0, 0) _ HB.out Tryz.underlying120 rfl hinfo.out ?_)
        | (refine wpList_store_row rfl 120 _ _ rfl wr.heap.size ps rfl rfl 120 _ (heap_alloc_new _ _) hinfo.out (by rw [HSZ.out]; rfl) HONE.out ?_))
      obtain ⟨w4, hw4⟩ : ∃ w4, w4 = (wr.alloc (.cells #[.string ⟨#[]⟩, .slice none 0 0, .slice none 0 0, .int .i64 0, .int .i64 0, .slice none 0 0, .slice none 0 0, .int .i64 0, .int .i64 0, .string ⟨#[]⟩, .slice none 0 0, .int .i64 0, .int .i64 0, .string ⟨#[]⟩, .slice none 0 0, .string ⟨#[]⟩, .int .i64 0, .slice none 0 0, .int .i64 0, .int .i64 0, .slice none 0 0, .slice none 0 0, .int .i64 0, .int .i64 0, .string ⟨#[]⟩, .slice none 0 0, .int .i64 0, .int .i64 0, .string ⟨#[]⟩, .slice none 0 0, .string ⟨#[]⟩, .int .i64 0, .slice none 0 0, .slice none 0 0] 120)).setRow wr.heap.size ps := ⟨_, rfl⟩
      rw [← hw4]
      obtain ⟨g, hg⟩ : ∃ g, g = wr.heap.size := ⟨_, rfl⟩
      rw [← hg]
      have C4 : Hid (Chg No wr w4 ∧ w4.heap[g]? = some (.cells ps 120 (0, 0))) := by
        rw [hw4, hg]
        exact ⟨chg_setRow ps, setRow_heap _ _ _ _ _ _ (heap_alloc_new _ _)⟩
      have HOg := Lib.hid (fun W (hW : Chg No w4 W) => HO.out g W (hW.obj C4.out.2 id))
      have W4 := Lib.hid (HW.out.thenNo C4.out.1)
      clear hw4 hg HB p0
      have G0 : Hid (Chg No w4 w4) := Chg.refl _ _
      obtain ⟨p0, p1, p2, p3, p4, p5, p6, p7, p8, p9, p10, p11, p12, p13, p14, p15, p16, p17, p18, p19, p20, p21, p22, p23, p24, p25, p26, p27, p28, p29, p30, p31, p32, p33⟩ := HOg.out _ G0.out
      clear HA1 HA0 HN HNN HS1 HEN
      cases d1
      rotate_left
      · go_wp2_with (first
          | (go_at_call 69; with_reducible refine (HD1.out _ (W4.out.thenNo G0.out) _ (by omega)).mono ?_; rintro e v1 ⟨rfl, h1⟩; have G1 := Lib.hid (G0.out.thenNo h1); clear h1 p0 p1 p2 p3 p4 p5 p6 p7 p8 p9 p10 p11 p12 p13 p14 p15 p16 p17 p18 p19 p20 p21 p22 p23 p24 p25 p26 p27 p28 p29 p30 p31 p32 p33 HD1; obtain ⟨p0, p1, p2, p3, p4, p5, p6, p7, p8, p9, p10, p11, p12, p13, p14, p15, p16, p17, p18, p19, p20, p21, p22, p23, p24, p25, p26, p27, p28, p29, p30, p31, p32, p33⟩ := HOg.out _ G1.out))
        go_ret
        exact ⟨by rw [HANS.out]; simp [errV, chkP], W4.out.thenNo G1.out⟩
      cases d2
      rotate_left
      · go_wp2_with (first
          | (go_at_call 69; with_reducible refine (HD1.out _ (W4.out.thenNo G0.out) _ (by omega)).mono ?_; rintro e v1 ⟨rfl, h1⟩; have G1 := Lib.hid (G0.out.thenNo h1); clear h1 p0 p1 p2 p3 p4 p5 p6 p7 p8 p9 p10 p11 p12 p13 p14 p15 p16 p17 p18 p19 p20 p21 p22 p23 p24 p25 p26 p27 p28 p29 p30 p31 p32 p33 HD1; obtain ⟨p0, p1, p2, p3, p4, p5, p6, p7, p8, p9, p10, p11, p12, p13, p14, p15, p16, p17, p18, p19, p20, p21, p22, p23, p24, p25, p26, p27, p28, p29, p30, p31, p32, p33⟩ := HOg.out _ G1.out)
          | (go_at_call 69; with_reducible refine (HD0.out _ _ (by omega)).mono ?_; rintro e v2 ⟨rfl, h2⟩; have G2 := Lib.hid (G1.out.thenNo h2); clear h2 p0 p1 p2 p3 p4 p5 p6 p7 p8 p9 p10 p11 p12 p13 p14 p15 p16 p17 p18 p19 p20 p21 p22 p23 p24 p25 p26 p27 p28 p29 p30 p31 p32 p33 HD0; obtain ⟨p0, p1, p2, p3, p4, p5, p6, p7, p8, p9, p10, p11, p12, p13, p14, p15, p16, p17, p18, p19, p20, p21, p22, p23, p24, p25, p26, p27, p28, p29, p30, p31, p32, p33⟩ := HOg.out _ G2.out)
          | (go_at_call 70; with_reducible refine (HD2.out _ (W4.out.thenNo G2.out)).mono ?_; rintro e v3 ⟨rfl, h3⟩; have G3 := Lib.hid (G2.out.thenNo h3); clear h3 p0 p1 p2 p3 p4 p5 p6 p7 p8 p9 p10 p11 p12 p13 p14 p15 p16 p17 p18 p19 p20 p21 p22 p23 p24 p25 p26 p27 p28 p29 p30 p31 p32 p33 HD2; obtain ⟨p0, p1, p2, p3, p4, p5, p6, p7, p8, p9, p10, p11, p12, p13, p14, p15, p16, p17, p18, p19, p20, p21, p22, p23, p24, p25, p26, p27, p28, p29, p30, p31, p32, p33⟩ := HOg.out _ G3.out))
        go_ret
        exact ⟨by rw [HANS.out]; simp [errV, chkP], W4.out.thenNo G3.out⟩
      · rcases HDD.out with h | h <;> cases h
    · obtain ⟨e1, e2⟩ := hdd.out
      rcases HDD.out with h | h
      · rw [e1] at h; cases h
      · rw [e2] at h; cases h
set_option maxRecDepth 100000 in
set_option maxHeartbeats 16000000 in
theorem check_bad {m n k : Nat} {x : AT m n k} {R : Nat → Prop} {w : World} {kd ck : Int} {cA : Option Addr} {cel cca : Nat} {cB : Option Addr} {ckl cck : Nat} {ek en : Int} {es : ByteArray} {eB : Option Addr} {ekl eck : Nat} {vk vn : Int} {vs : ByteArray} {vB : Option Addr} {vkl vck : Nat} {fd : ByteArray} {nm : Int} {B : Option Addr} {kl capk : Nat} {A0 : Option Addr} {n0 c0 : Nat} {ps : Array Value} (hps : ps = prcA kd ck cA cel cca cB ckl cck ek en es eB ekl eck vk vn vs vB vkl vck fd nm B kl capk (.slice A0 n0 c0)) (hK : Keys w) (hx : (assnV m n k) R w [.int .i64 kd, .int .i64 ck, .slice cA cel cca, .slice cB ckl cck, .int .i64 ek, .int .i64 en, .string es, .slice eB ekl eck, .int .i64 vk, .int .i64 vn, .string vs, .slice vB vkl vck, .string fd, .int .i64 nm, .slice B kl capk] x) {bp : Nat} (hbp : w.heap[bp]? = some (.cells ps 120 (0, 0)))
    (d2 s1 : Bool) (hd2 : ∀ W, Chg No w W → Calls Tryz.prog 70 #[.slice A0 n0 c0, .int .i64 100] W fun e w' => e = .returned (.bool d2) ∧ Chg No W w')
    (hs1 : ∀ W, Chg No w W → Calls Tryz.prog 74 #[.slice A0 n0 c0] W fun e w' => e = .returned (.bool s1) ∧ Chg No W w') (HDD : Hid (deepA m n k x 100 = false ∧ d2 = false)) (HAS : Hid (okA m n k x = false ∨ s1 = false)) :
    Calls Tryz.prog 53 #[.agg #[.slice (some ⟨bp, 0, none⟩) 1 1]] w fun e w' => e = .returned (errV 83 (chkP (deepA m n k x 100) d2 (okA m n k x) s1)) ∧ Chg No w w' := by
  have hinfo : Hid ((Tryz.prog.info? 120).map (·.size) = some ps.size) := by unfold Hid; rw [hps]; kernel_rfl
  have HONE : Hid (ps.all (·.oneCell') = true) := by unfold Hid; rw [hps]; unfold prcA; simp [Value.oneCell']
  have HSZ : Hid (ps.size = 34) := by unfold Hid; rw [hps]; rfl
  have HPS := Lib.hid hps
  obtain ⟨w3, hw3⟩ : ∃ w3, w3 = w.alloc (.cells #[.slice (some ⟨bp, 0, none⟩) 1 1] 123) := ⟨_, rfl⟩
  have h3 : Hid (Chg No w w3 ∧ w3.heap[w.heap.size]? = some (.cells #[.slice (some ⟨bp, 0, none⟩) 1 1] 123 (0, 0)) ∧ w3.heap[bp]? = some (.cells ps 120 (0, 0))) := by
    rw [hw3]; exact ⟨(Chg.refl _ _).alloc _, heap_alloc_new _ _, ((Chg.refl No _).alloc _).obj hbp id⟩
  have HD1 := Lib.hid (fun W (hW : Chg No w W) z (hz : z = ((100 : Nat) : Int)) => deepA_any m n k x R W _ ((assnV_good m n k).no hx hW) 100 z hz (by omega))
  have HD0 := Lib.hid (fun W z (hz : z = ((100 : Nat) : Int)) => deepA_any 1 1 1 zA No W _ (zA_is No W) 100 z hz (by omega))
  rw [zA_deep (by omega)] at HD0
  have HA1 := Lib.hid (fun W (hW : Chg No w W) => assn_any m n k x R W _ (hK.no hW) ((assnV_good m n k).no hx hW))
  have HA0 := Lib.hid (fun W (hW : Chg No w W) => assn_any 1 1 1 zA No W _ (hK.no hW) (zA_is No W))
  rw [zA_ok] at HA0
  have HN := Lib.hid (fun W (hW : Chg No w W) => name_any ⟨#[112]⟩ (by decide) (hK.no hW))
  rw [show nameB ⟨#[112]⟩ = true by kernel_rfl] at HN
  have HNN := Lib.hid (fun W => names_nil W)
  have HS1 := Lib.hid hs1
  have HD2 := Lib.hid hd2
  clear hs1 hd2
  obtain ⟨ans, hans⟩ : ∃ ans, ans = errV 83 (chkP (deepA m n k x 100) d2 (okA m n k x) s1) := ⟨_, rfl⟩
  rw [← hans]
  have HANS := Lib.hid hans
  clear hans hx hK hbp hps
  generalize deepA m n k x 100 = d1 at *
  generalize okA m n k x = a1 at *
  obtain ⟨p0, _⟩ : w3.cell? ⟨w.heap.size, 0, none⟩ = some (.slice (some ⟨bp, 0, none⟩) 1 1) ∧ True := ⟨obj_1 h3.out.2.1, trivial⟩
  have HO : Hid (∀ (g : Nat) (W : World), W.heap[g]? = some (.cells ps 120 (0, 0)) → W.cell? ⟨g, 0, none⟩ = some (.string ⟨#[112]⟩) ∧ W.cell? ⟨g, 1, none⟩ = some (.slice none 0 0) ∧ W.cell? ⟨g, 2, none⟩ = some (.slice none 0 0) ∧ W.cell? ⟨g, 3, none⟩ = some (.int .i64 kd) ∧ W.cell? ⟨g, 4, none⟩ = some (.int .i64 ck) ∧ W.cell? ⟨g, 5, none⟩ = some (.slice cA cel cca) ∧ W.cell? ⟨g, 6, none⟩ = some (.slice cB ckl cck) ∧ W.cell? ⟨g, 7, none⟩ = some (.int .i64 ek) ∧ W.cell? ⟨g, 8, none⟩ = some (.int .i64 en) ∧ W.cell? ⟨g, 9, none⟩ = some (.string es) ∧ W.cell? ⟨g, 10, none⟩ = some (.slice eB ekl eck) ∧ W.cell? ⟨g, 11, none⟩ = some (.int .i64 vk) ∧ W.cell? ⟨g, 12, none⟩ = some (.int .i64 vn) ∧ W.cell? ⟨g, 13, none⟩ = some (.string vs) ∧ W.cell? ⟨g, 14, none⟩ = some (.slice vB vkl vck) ∧ W.cell? ⟨g, 15, none⟩ = some (.string fd) ∧ W.cell? ⟨g, 16, none⟩ = some (.int .i64 nm) ∧ W.cell? ⟨g, 17, none⟩ = some (.slice B kl capk) ∧ W.cell? ⟨g, 18, none⟩ = some (.int .i64 0) ∧ W.cell? ⟨g, 19, none⟩ = some (.int .i64 0) ∧ W.cell? ⟨g, 20, none⟩ = some (.slice none 0 0) ∧ W.cell? ⟨g, 21, none⟩ = some (.slice none 0 0) ∧ W.cell? ⟨g, 22, none⟩ = some (.int .i64 0) ∧ W.cell? ⟨g, 23, none⟩ = some (.int .i64 0) ∧ W.cell? ⟨g, 24, none⟩ = some (.string ⟨#[]⟩) ∧ W.cell? ⟨g, 25, none⟩ = some (.slice none 0 0) ∧ W.cell? ⟨g, 26, none⟩ = some (.int .i64 0) ∧ W.cell? ⟨g, 27, none⟩ = some (.int .i64 0) ∧ W.cell? ⟨g, 28, none⟩ = some (.string ⟨#[]⟩) ∧ W.cell? ⟨g, 29, none⟩ = some (.slice none 0 0) ∧ W.cell? ⟨g, 30, none⟩ = some (.string ⟨#[]⟩) ∧ W.cell? ⟨g, 31, none⟩ = some (.int .i64 0) ∧ W.cell? ⟨g, 32, none⟩ = some (.slice none 0 0) ∧ W.cell? ⟨g, 33, none⟩ = some (.slice A0 n0 c0)) := fun g W h => by
    rw [HPS.out] at h
    unfold prcA at h
    simp [World.cell?, h]
  have HEN : Hid (∀ W, Chg No w3 W → W.cell? ⟨w.heap.size, 0, none⟩ = some (.slice (some ⟨bp, 0, none⟩) 1 1) ∧ W.heap[bp]? = some (.cells ps 120 (0, 0)) ∧ Chg No w W) := fun W hW =>
    ⟨obj_1 (hW.obj h3.out.2.1 id), hW.obj h3.out.2.2 id, h3.out.1.thenNo hW⟩
  go_enter Tryz.func53, Tryz.ntmps53
  go_upto_region 1 with fail
  rw [← hw3]
  clear hw3
  go_wp2_with fail
  clear p0
  go_loopw [10] (fun s10 wr => (s10 = .int .i64 0 ∧ Hid (Chg No w3 wr)) ∨ (s10 = .int .i64 1 ∧ Hid (Chg No w3 wr) ∧ Hid (d1 = false ∧ d2 = false))) (fun s10 _ => 1 - (intOf s10).toNat)
  case atStart => exact .inl ⟨rfl, Chg.refl _ _⟩
  case round =>
    rcases hrel with ⟨rfl, hch⟩ | ⟨rfl, hch, hdd⟩
    · obtain ⟨p0, HB, HW⟩ := HEN.out wr hch.out
      have HB := Lib.hid HB
      have HW := Lib.hid HW
      go_upto_region 4 with (first
        | (refine wpList_load_row rfl 120 _ rfl bp rfl 120 ps (0, 0) _ HB.out Tryz.underlying120 rfl hinfo.out ?_)
        | (refine wpList_store_row rfl 120 _ _ rfl wr.heap.size ps rfl rfl 120 _ (heap_alloc_new _ _) hinfo.out (by rw [HSZ.out]; rfl) HONE.out ?_))
      obtain ⟨w4, hw4⟩ : ∃ w4, w4 = (wr.alloc (.cells #[.string ⟨#[]⟩, .slice none 0 0, .slice none 0 0, .int .i64 0, .int .i64 0, .slice none 0 0, .slice none 0 0, .int .i64 0, .int .i64 0, .string ⟨#[]⟩, .slice none 0 0, .int .i64 0, .int .i64 0, .string ⟨#[]⟩, .slice none 0 0, .string ⟨#[]⟩, .int .i64 0, .slice none 0 0, .int .i64 0, .int .i64 0, .slice none 0 0, .slice none 0 0, .int .i64 0, .int .i64 0, .string ⟨#[]⟩, .slice none 0 0, .int .i64 0, .int .i64 0, .string ⟨#[]⟩, .slice none 0 0, .string ⟨#[]⟩, .int .i64 0, .slice none 0 0, .slice none 0 0] 120)).setRow wr.heap.size ps := ⟨_, rfl⟩
      rw [← hw4]
      obtain ⟨g, hg⟩ : ∃ g, g = wr.heap.size := ⟨_, rfl⟩
      rw [← hg]
      have C4 : Hid (Chg No wr w4 ∧ w4.heap[g]? = some (.cells ps 120 (0, 0))) := by
        rw [hw4, hg]
        exact ⟨chg_setRow ps, setRow_heap _ _ _ _ _ _ (heap_alloc_new _ _)⟩
      have HOg := Lib.hid (fun W (hW : Chg No w4 W) => HO.out g W (hW.obj C4.out.2 id))
      have W4 := Lib.hid (HW.out.thenNo C4.out.1)
      clear hw4 hg HB p0
      have G0 : Hid (Chg No w4 w4) := Chg.refl _ _
      obtain ⟨p0, p1, p2, p3, p4, p5, p6, p7, p8, p9, p10, p11, p12, p13, p14, p15, p16, p17, p18, p19, p20, p21, p22, p23, p24, p25, p26, p27, p28, p29, p30, p31, p32, p33⟩ := HOg.out _ G0.out
      clear HA1 HA0 HN HNN HS1 HEN
      obtain ⟨rfl, rfl⟩ := HDD.out
      go_wp2_with (first
        | (go_at_call 69; with_reducible refine (HD1.out _ (W4.out.thenNo G0.out) _ (by omega)).mono ?_; rintro e v1 ⟨rfl, h1⟩; have G1 := Lib.hid (G0.out.thenNo h1); clear h1 p0 p1 p2 p3 p4 p5 p6 p7 p8 p9 p10 p11 p12 p13 p14 p15 p16 p17 p18 p19 p20 p21 p22 p23 p24 p25 p26 p27 p28 p29 p30 p31 p32 p33 HD1; obtain ⟨p0, p1, p2, p3, p4, p5, p6, p7, p8, p9, p10, p11, p12, p13, p14, p15, p16, p17, p18, p19, p20, p21, p22, p23, p24, p25, p26, p27, p28, p29, p30, p31, p32, p33⟩ := HOg.out _ G1.out)
        | (go_at_call 69; with_reducible refine (HD0.out _ _ (by omega)).mono ?_; rintro e v2 ⟨rfl, h2⟩; have G2 := Lib.hid (G1.out.thenNo h2); clear h2 p0 p1 p2 p3 p4 p5 p6 p7 p8 p9 p10 p11 p12 p13 p14 p15 p16 p17 p18 p19 p20 p21 p22 p23 p24 p25 p26 p27 p28 p29 p30 p31 p32 p33 HD0; obtain ⟨p0, p1, p2, p3, p4, p5, p6, p7, p8, p9, p10, p11, p12, p13, p14, p15, p16, p17, p18, p19, p20, p21, p22, p23, p24, p25, p26, p27, p28, p29, p30, p31, p32, p33⟩ := HOg.out _ G2.out)
        | (go_at_call 70; with_reducible refine (HD2.out _ (W4.out.thenNo G2.out)).mono ?_; rintro e v3 ⟨rfl, h3⟩; have G3 := Lib.hid (G2.out.thenNo h3); clear h3 p0 p1 p2 p3 p4 p5 p6 p7 p8 p9 p10 p11 p12 p13 p14 p15 p16 p17 p18 p19 p20 p21 p22 p23 p24 p25 p26 p27 p28 p29 p30 p31 p32 p33 HD2; obtain ⟨p0, p1, p2, p3, p4, p5, p6, p7, p8, p9, p10, p11, p12, p13, p14, p15, p16, p17, p18, p19, p20, p21, p22, p23, p24, p25, p26, p27, p28, p29, p30, p31, p32, p33⟩ := HOg.out _ G3.out))
      go_roundw
      case rel => exact .inr ⟨by go_num, hch.out.thenNo (C4.out.1.thenNo G3.out), ⟨trivial, trivial⟩⟩
      case measure => simp [intOf]
    · obtain ⟨p0, HB0, HW0⟩ := HEN.out wr hch.out
      obtain ⟨rfl, rfl⟩ := hdd.out
      clear HB0 HW0 HD1 HD0 HD2
      obtain ⟨wo, rfl⟩ : ∃ wo, wo = wr := ⟨_, rfl⟩
      go_wp2_with fail
      clear p0
      go_loopw [32] (fun s32 wr => (s32 = .int .i64 0 ∧ Hid (Chg No w3 wr)) ∨ (s32 = .int .i64 1 ∧ Hid (Chg No w3 wr) ∧ Hid (a1 = true ∧ s1 = true))) (fun s32 _ => 1 - (intOf s32).toNat)
      case atStart => exact .inl ⟨rfl, hch.out⟩
      case round =>
        clear hch
        rcases hrel with ⟨rfl, hch⟩ | ⟨rfl, hch, haa⟩
        · obtain ⟨p0, HB, HW⟩ := HEN.out wr hch.out
          have HB := Lib.hid HB
          have HW := Lib.hid HW
          go_upto_region 10 with (first
            | (refine wpList_load_row rfl 120 _ rfl bp rfl 120 ps (0, 0) _ HB.out Tryz.underlying120 rfl hinfo.out ?_)
            | (refine wpList_store_row rfl 120 _ _ rfl wr.heap.size ps rfl rfl 120 _ (heap_alloc_new _ _) hinfo.out (by rw [HSZ.out]; rfl) HONE.out ?_))
          obtain ⟨w4, hw4⟩ : ∃ w4, w4 = (wr.alloc (.cells #[.string ⟨#[]⟩, .slice none 0 0, .slice none 0 0, .int .i64 0, .int .i64 0, .slice none 0 0, .slice none 0 0, .int .i64 0, .int .i64 0, .string ⟨#[]⟩, .slice none 0 0, .int .i64 0, .int .i64 0, .string ⟨#[]⟩, .slice none 0 0, .string ⟨#[]⟩, .int .i64 0, .slice none 0 0, .int .i64 0, .int .i64 0, .slice none 0 0, .slice none 0 0, .int .i64 0, .int .i64 0, .string ⟨#[]⟩, .slice none 0 0, .int .i64 0, .int .i64 0, .string ⟨#[]⟩, .slice none 0 0, .string ⟨#[]⟩, .int .i64 0, .slice none 0 0, .slice none 0 0] 120)).setRow wr.heap.size ps := ⟨_, rfl⟩
          rw [← hw4]
          obtain ⟨g, hg⟩ : ∃ g, g = wr.heap.size := ⟨_, rfl⟩
          rw [← hg]
          have C4 : Hid (Chg No wr w4 ∧ w4.heap[g]? = some (.cells ps 120 (0, 0))) := by
            rw [hw4, hg]
            exact ⟨chg_setRow ps, setRow_heap _ _ _ _ _ _ (heap_alloc_new _ _)⟩
          have HOg := Lib.hid (fun W (hW : Chg No w4 W) => HO.out g W (hW.obj C4.out.2 id))
          have W4 := Lib.hid (HW.out.thenNo C4.out.1)
          clear hw4 hg HB p0
          have G0 : Hid (Chg No w4 w4) := Chg.refl _ _
          obtain ⟨p0, p1, p2, p3, p4, p5, p6, p7, p8, p9, p10, p11, p12, p13, p14, p15, p16, p17, p18, p19, p20, p21, p22, p23, p24, p25, p26, p27, p28, p29, p30, p31, p32, p33⟩ := HOg.out _ G0.out
          clear HEN
          cases a1
          · go_wp2_with (first
              | (go_at_call 71; with_reducible refine (HN.out _ (W4.out.thenNo G0.out)).mono ?_; rintro e v1 ⟨rfl, h1⟩; have G1 := Lib.hid (G0.out.thenNo h1); clear h1 p0 p1 p2 p3 p4 p5 p6 p7 p8 p9 p10 p11 p12 p13 p14 p15 p16 p17 p18 p19 p20 p21 p22 p23 p24 p25 p26 p27 p28 p29 p30 p31 p32 p33 HN; obtain ⟨p0, p1, p2, p3, p4, p5, p6, p7, p8, p9, p10, p11, p12, p13, p14, p15, p16, p17, p18, p19, p20, p21, p22, p23, p24, p25, p26, p27, p28, p29, p30, p31, p32, p33⟩ := HOg.out _ G1.out)
              | (go_at_call 72; with_reducible refine (HNN.out _).mono ?_; rintro e v2 ⟨rfl, h2⟩; have G2 := Lib.hid (G1.out.thenNo h2); clear h2 G1 p0 p1 p2 p3 p4 p5 p6 p7 p8 p9 p10 p11 p12 p13 p14 p15 p16 p17 p18 p19 p20 p21 p22 p23 p24 p25 p26 p27 p28 p29 p30 p31 p32 p33 ; obtain ⟨p0, p1, p2, p3, p4, p5, p6, p7, p8, p9, p10, p11, p12, p13, p14, p15, p16, p17, p18, p19, p20, p21, p22, p23, p24, p25, p26, p27, p28, p29, p30, p31, p32, p33⟩ := HOg.out _ G2.out)
              | (go_at_call 72; with_reducible refine (HNN.out _).mono ?_; have G2x := G2; rintro e v3 ⟨rfl, h3⟩; have G3 := Lib.hid (G2.out.thenNo h3); clear h3 p0 p1 p2 p3 p4 p5 p6 p7 p8 p9 p10 p11 p12 p13 p14 p15 p16 p17 p18 p19 p20 p21 p22 p23 p24 p25 p26 p27 p28 p29 p30 p31 p32 p33 ; obtain ⟨p0, p1, p2, p3, p4, p5, p6, p7, p8, p9, p10, p11, p12, p13, p14, p15, p16, p17, p18, p19, p20, p21, p22, p23, p24, p25, p26, p27, p28, p29, p30, p31, p32, p33⟩ := HOg.out _ G3.out)
              | (go_at_call 73; with_reducible refine (HA1.out _ (W4.out.thenNo G3.out)).mono ?_; rintro e v4 ⟨rfl, h4⟩; have G4 := Lib.hid (G3.out.thenNo h4); clear h4 p0 p1 p2 p3 p4 p5 p6 p7 p8 p9 p10 p11 p12 p13 p14 p15 p16 p17 p18 p19 p20 p21 p22 p23 p24 p25 p26 p27 p28 p29 p30 p31 p32 p33 HA1; obtain ⟨p0, p1, p2, p3, p4, p5, p6, p7, p8, p9, p10, p11, p12, p13, p14, p15, p16, p17, p18, p19, p20, p21, p22, p23, p24, p25, p26, p27, p28, p29, p30, p31, p32, p33⟩ := HOg.out _ G4.out))
            go_ret
            exact ⟨by rw [HANS.out]; simp [errV, chkP], W4.out.thenNo G4.out⟩
          cases s1
          · go_wp2_with (first
              | (go_at_call 71; with_reducible refine (HN.out _ (W4.out.thenNo G0.out)).mono ?_; rintro e v1 ⟨rfl, h1⟩; have G1 := Lib.hid (G0.out.thenNo h1); clear h1 p0 p1 p2 p3 p4 p5 p6 p7 p8 p9 p10 p11 p12 p13 p14 p15 p16 p17 p18 p19 p20 p21 p22 p23 p24 p25 p26 p27 p28 p29 p30 p31 p32 p33 HN; obtain ⟨p0, p1, p2, p3, p4, p5, p6, p7, p8, p9, p10, p11, p12, p13, p14, p15, p16, p17, p18, p19, p20, p21, p22, p23, p24, p25, p26, p27, p28, p29, p30, p31, p32, p33⟩ := HOg.out _ G1.out)
              | (go_at_call 72; with_reducible refine (HNN.out _).mono ?_; rintro e v2 ⟨rfl, h2⟩; have G2 := Lib.hid (G1.out.thenNo h2); clear h2 G1 p0 p1 p2 p3 p4 p5 p6 p7 p8 p9 p10 p11 p12 p13 p14 p15 p16 p17 p18 p19 p20 p21 p22 p23 p24 p25 p26 p27 p28 p29 p30 p31 p32 p33 ; obtain ⟨p0, p1, p2, p3, p4, p5, p6, p7, p8, p9, p10, p11, p12, p13, p14, p15, p16, p17, p18, p19, p20, p21, p22, p23, p24, p25, p26, p27, p28, p29, p30, p31, p32, p33⟩ := HOg.out _ G2.out)
              | (go_at_call 72; with_reducible refine (HNN.out _).mono ?_; have G2x := G2; rintro e v3 ⟨rfl, h3⟩; have G3 := Lib.hid (G2.out.thenNo h3); clear h3 p0 p1 p2 p3 p4 p5 p6 p7 p8 p9 p10 p11 p12 p13 p14 p15 p16 p17 p18 p19 p20 p21 p22 p23 p24 p25 p26 p27 p28 p29 p30 p31 p32 p33 ; obtain ⟨p0, p1, p2, p3, p4, p5, p6, p7, p8, p9, p10, p11, p12, p13, p14, p15, p16, p17, p18, p19, p20, p21, p22, p23, p24, p25, p26, p27, p28, p29, p30, p31, p32, p33⟩ := HOg.out _ G3.out)
              | (go_at_call 73; with_reducible refine (HA1.out _ (W4.out.thenNo G3.out)).mono ?_; rintro e v4 ⟨rfl, h4⟩; have G4 := Lib.hid (G3.out.thenNo h4); clear h4 p0 p1 p2 p3 p4 p5 p6 p7 p8 p9 p10 p11 p12 p13 p14 p15 p16 p17 p18 p19 p20 p21 p22 p23 p24 p25 p26 p27 p28 p29 p30 p31 p32 p33 HA1; obtain ⟨p0, p1, p2, p3, p4, p5, p6, p7, p8, p9, p10, p11, p12, p13, p14, p15, p16, p17, p18, p19, p20, p21, p22, p23, p24, p25, p26, p27, p28, p29, p30, p31, p32, p33⟩ := HOg.out _ G4.out)
              | (go_at_call 73; with_reducible refine (HA0.out _ (W4.out.thenNo G4.out)).mono ?_; rintro e v5 ⟨rfl, h5⟩; have G5 := Lib.hid (G4.out.thenNo h5); clear h5 p0 p1 p2 p3 p4 p5 p6 p7 p8 p9 p10 p11 p12 p13 p14 p15 p16 p17 p18 p19 p20 p21 p22 p23 p24 p25 p26 p27 p28 p29 p30 p31 p32 p33 HA0; obtain ⟨p0, p1, p2, p3, p4, p5, p6, p7, p8, p9, p10, p11, p12, p13, p14, p15, p16, p17, p18, p19, p20, p21, p22, p23, p24, p25, p26, p27, p28, p29, p30, p31, p32, p33⟩ := HOg.out _ G5.out)
              | (go_at_call 74; with_reducible refine (HS1.out _ (W4.out.thenNo G5.out)).mono ?_; rintro e v6 ⟨rfl, h6⟩; have G6 := Lib.hid (G5.out.thenNo h6); clear h6 p0 p1 p2 p3 p4 p5 p6 p7 p8 p9 p10 p11 p12 p13 p14 p15 p16 p17 p18 p19 p20 p21 p22 p23 p24 p25 p26 p27 p28 p29 p30 p31 p32 p33 HS1; obtain ⟨p0, p1, p2, p3, p4, p5, p6, p7, p8, p9, p10, p11, p12, p13, p14, p15, p16, p17, p18, p19, p20, p21, p22, p23, p24, p25, p26, p27, p28, p29, p30, p31, p32, p33⟩ := HOg.out _ G6.out))
            go_ret
            exact ⟨by rw [HANS.out]; simp [errV, chkP], W4.out.thenNo G6.out⟩
          · rcases HAS.out with h | h <;> cases h
        · obtain ⟨e1, e2⟩ := haa.out
          rcases HAS.out with h | h
          · rw [e1] at h; cases h
          · rw [e2] at h; cases h
set_option maxRecDepth 100000 in
set_option maxHeartbeats 16000000 in
theorem check_good {m n k : Nat} {x : AT m n k} {R : Nat → Prop} {w : World} {kd ck : Int} {cA : Option Addr} {cel cca : Nat} {cB : Option Addr} {ckl cck : Nat} {ek en : Int} {es : ByteArray} {eB : Option Addr} {ekl eck : Nat} {vk vn : Int} {vs : ByteArray} {vB : Option Addr} {vkl vck : Nat} {fd : ByteArray} {nm : Int} {B : Option Addr} {kl capk : Nat} {A0 : Option Addr} {n0 c0 : Nat} {ps : Array Value} (hps : ps = prcA kd ck cA cel cca cB ckl cck ek en es eB ekl eck vk vn vs vB vkl vck fd nm B kl capk (.slice A0 n0 c0)) (hK : Keys w) (hx : (assnV m n k) R w [.int .i64 kd, .int .i64 ck, .slice cA cel cca, .slice cB ckl cck, .int .i64 ek, .int .i64 en, .string es, .slice eB ekl eck, .int .i64 vk, .int .i64 vn, .string vs, .slice vB vkl vck, .string fd, .int .i64 nm, .slice B kl capk] x) {bp : Nat} (hbp : w.heap[bp]? = some (.cells ps 120 (0, 0)))
    (d2 s1 : Bool) (hd2 : ∀ W, Chg No w W → Calls Tryz.prog 70 #[.slice A0 n0 c0, .int .i64 100] W fun e w' => e = .returned (.bool d2) ∧ Chg No W w')
    (hs1 : ∀ W, Chg No w W → Calls Tryz.prog 74 #[.slice A0 n0 c0] W fun e w' => e = .returned (.bool s1) ∧ Chg No W w') (HDD : Hid (deepA m n k x 100 = false ∧ d2 = false)) (HAS : Hid (okA m n k x = true ∧ s1 = true)) :
    Calls Tryz.prog 53 #[.agg #[.slice (some ⟨bp, 0, none⟩) 1 1]] w fun e w' => e = .returned (errV 83 (chkP (deepA m n k x 100) d2 (okA m n k x) s1)) ∧ Chg No w w' := by
  have hinfo : Hid ((Tryz.prog.info? 120).map (·.size) = some ps.size) := by unfold Hid; rw [hps]; kernel_rfl
  have HONE : Hid (ps.all (·.oneCell') = true) := by unfold Hid; rw [hps]; unfold prcA; simp [Value.oneCell']
  have HSZ : Hid (ps.size = 34) := by unfold Hid; rw [hps]; rfl
  have HPS := Lib.hid hps
  obtain ⟨w3, hw3⟩ : ∃ w3, w3 = w.alloc (.cells #[.slice (some ⟨bp, 0, none⟩) 1 1] 123) := ⟨_, rfl⟩
  have h3 : Hid (Chg No w w3 ∧ w3.heap[w.heap.size]? = some (.cells #[.slice (some ⟨bp, 0, none⟩) 1 1] 123 (0, 0)) ∧ w3.heap[bp]? = some (.cells ps 120 (0, 0))) := by
    rw [hw3]; exact ⟨(Chg.refl _ _).alloc _, heap_alloc_new _ _, ((Chg.refl No _).alloc _).obj hbp id⟩
  have HD1 := Lib.hid (fun W (hW : Chg No w W) z (hz : z = ((100 : Nat) : Int)) => deepA_any m n k x R W _ ((assnV_good m n k).no hx hW) 100 z hz (by omega))
  have HD0 := Lib.hid (fun W z (hz : z = ((100 : Nat) : Int)) => deepA_any 1 1 1 zA No W _ (zA_is No W) 100 z hz (by omega))
  rw [zA_deep (by omega)] at HD0
  have HA1 := Lib.hid (fun W (hW : Chg No w W) => assn_any m n k x R W _ (hK.no hW) ((assnV_good m n k).no hx hW))
  have HA0 := Lib.hid (fun W (hW : Chg No w W) => assn_any 1 1 1 zA No W _ (hK.no hW) (zA_is No W))
  rw [zA_ok] at HA0
  have HN := Lib.hid (fun W (hW : Chg No w W) => name_any ⟨#[112]⟩ (by decide) (hK.no hW))
  rw [show nameB ⟨#[112]⟩ = true by kernel_rfl] at HN
  have HNN := Lib.hid (fun W => names_nil W)
  have HS1 := Lib.hid hs1
  have HD2 := Lib.hid hd2
  clear hs1 hd2
  obtain ⟨ans, hans⟩ : ∃ ans, ans = errV 83 (chkP (deepA m n k x 100) d2 (okA m n k x) s1) := ⟨_, rfl⟩
  rw [← hans]
  have HANS := Lib.hid hans
  clear hans hx hK hbp hps
  generalize deepA m n k x 100 = d1 at *
  generalize okA m n k x = a1 at *
  obtain ⟨p0, _⟩ : w3.cell? ⟨w.heap.size, 0, none⟩ = some (.slice (some ⟨bp, 0, none⟩) 1 1) ∧ True := ⟨obj_1 h3.out.2.1, trivial⟩
  have HO : Hid (∀ (g : Nat) (W : World), W.heap[g]? = some (.cells ps 120 (0, 0)) → W.cell? ⟨g, 0, none⟩ = some (.string ⟨#[112]⟩) ∧ W.cell? ⟨g, 1, none⟩ = some (.slice none 0 0) ∧ W.cell? ⟨g, 2, none⟩ = some (.slice none 0 0) ∧ W.cell? ⟨g, 3, none⟩ = some (.int .i64 kd) ∧ W.cell? ⟨g, 4, none⟩ = some (.int .i64 ck) ∧ W.cell? ⟨g, 5, none⟩ = some (.slice cA cel cca) ∧ W.cell? ⟨g, 6, none⟩ = some (.slice cB ckl cck) ∧ W.cell? ⟨g, 7, none⟩ = some (.int .i64 ek) ∧ W.cell? ⟨g, 8, none⟩ = some (.int .i64 en) ∧ W.cell? ⟨g, 9, none⟩ = some (.string es) ∧ W.cell? ⟨g, 10, none⟩ = some (.slice eB ekl eck) ∧ W.cell? ⟨g, 11, none⟩ = some (.int .i64 vk) ∧ W.cell? ⟨g, 12, none⟩ = some (.int .i64 vn) ∧ W.cell? ⟨g, 13, none⟩ = some (.string vs) ∧ W.cell? ⟨g, 14, none⟩ = some (.slice vB vkl vck) ∧ W.cell? ⟨g, 15, none⟩ = some (.string fd) ∧ W.cell? ⟨g, 16, none⟩ = some (.int .i64 nm) ∧ W.cell? ⟨g, 17, none⟩ = some (.slice B kl capk) ∧ W.cell? ⟨g, 18, none⟩ = some (.int .i64 0) ∧ W.cell? ⟨g, 19, none⟩ = some (.int .i64 0) ∧ W.cell? ⟨g, 20, none⟩ = some (.slice none 0 0) ∧ W.cell? ⟨g, 21, none⟩ = some (.slice none 0 0) ∧ W.cell? ⟨g, 22, none⟩ = some (.int .i64 0) ∧ W.cell? ⟨g, 23, none⟩ = some (.int .i64 0) ∧ W.cell? ⟨g, 24, none⟩ = some (.string ⟨#[]⟩) ∧ W.cell? ⟨g, 25, none⟩ = some (.slice none 0 0) ∧ W.cell? ⟨g, 26, none⟩ = some (.int .i64 0) ∧ W.cell? ⟨g, 27, none⟩ = some (.int .i64 0) ∧ W.cell? ⟨g, 28, none⟩ = some (.string ⟨#[]⟩) ∧ W.cell? ⟨g, 29, none⟩ = some (.slice none 0 0) ∧ W.cell? ⟨g, 30, none⟩ = some (.string ⟨#[]⟩) ∧ W.cell? ⟨g, 31, none⟩ = some (.int .i64 0) ∧ W.cell? ⟨g, 32, none⟩ = some (.slice none 0 0) ∧ W.cell? ⟨g, 33, none⟩ = some (.slice A0 n0 c0)) := fun g W h => by
    rw [HPS.out] at h
    unfold prcA at h
    simp [World.cell?, h]
  have HEN : Hid (∀ W, Chg No w3 W → W.cell? ⟨w.heap.size, 0, none⟩ = some (.slice (some ⟨bp, 0, none⟩) 1 1) ∧ W.heap[bp]? = some (.cells ps 120 (0, 0)) ∧ Chg No w W) := fun W hW =>
    ⟨obj_1 (hW.obj h3.out.2.1 id), hW.obj h3.out.2.2 id, h3.out.1.thenNo hW⟩
  go_enter Tryz.func53, Tryz.ntmps53
  go_upto_region 1 with fail
  rw [← hw3]
  clear hw3
  go_wp2_with fail
  clear p0
  go_loopw [10] (fun s10 wr => (s10 = .int .i64 0 ∧ Hid (Chg No w3 wr)) ∨ (s10 = .int .i64 1 ∧ Hid (Chg No w3 wr) ∧ Hid (d1 = false ∧ d2 = false))) (fun s10 _ => 1 - (intOf s10).toNat)
  case atStart => exact .inl ⟨rfl, Chg.refl _ _⟩
  case round =>
    rcases hrel with ⟨rfl, hch⟩ | ⟨rfl, hch, hdd⟩
    · obtain ⟨p0, HB, HW⟩ := HEN.out wr hch.out
      have HB := Lib.hid HB
      have HW := Lib.hid HW
      go_upto_region 4 with (first
        | (refine wpList_load_row rfl 120 _ rfl bp rfl 120 ps (0, 0) _ HB.out Tryz.underlying120 rfl hinfo.out ?_)
        | (refine wpList_store_row rfl 120 _ _ rfl wr.heap.size ps rfl rfl 120 _ (heap_alloc_new _ _) hinfo.out (by rw [HSZ.out]; rfl) HONE.out ?_))
      obtain ⟨w4, hw4⟩ : ∃ w4, w4 = (wr.alloc (.cells #[.string ⟨#[]⟩, .slice none 0 0, .slice none 0 0, .int .i64 0, .int .i64 0, .slice none 0 0, .slice none 0 0, .int .i64 0, .int .i64 0, .string ⟨#[]⟩, .slice none 0 0, .int .i64 0, .int .i64 0, .string ⟨#[]⟩, .slice none 0 0, .string ⟨#[]⟩, .int .i64 0, .slice none 0 0, .int .i64 0, .int .i64 0, .slice none 0 0, .slice none 0 0, .int .i64 0, .int .i64 0, .string ⟨#[]⟩, .slice none 0 0, .int .i64 0, .int .i64 0, .string ⟨#[]⟩, .slice none 0 0, .string ⟨#[]⟩, .int .i64 0, .slice none 0 0, .slice none 0 0] 120)).setRow wr.heap.size ps := ⟨_, rfl⟩
      rw [← hw4]
      obtain ⟨g, hg⟩ : ∃ g, g = wr.heap.size := ⟨_, rfl⟩
      rw [← hg]
      have C4 : Hid (Chg No wr w4 ∧ w4.heap[g]? = some (.cells ps 120 (0, 0))) := by
        rw [hw4, hg]
        exact ⟨chg_setRow ps, setRow_heap _ _ _ _ _ _ (heap_alloc_new _ _)⟩
      have HOg := Lib.hid (fun W (hW : Chg No w4 W) => HO.out g W (hW.obj C4.out.2 id))
      have W4 := Lib.hid (HW.out.thenNo C4.out.1)
      clear hw4 hg HB p0
      have G0 : Hid (Chg No w4 w4) := Chg.refl _ _
      obtain ⟨p0, p1, p2, p3, p4, p5, p6, p7, p8, p9, p10, p11, p12, p13, p14, p15, p16, p17, p18, p19, p20, p21, p22, p23, p24, p25, p26, p27, p28, p29, p30, p31, p32, p33⟩ := HOg.out _ G0.out
      clear HA1 HA0 HN HNN HS1 HEN
      obtain ⟨rfl, rfl⟩ := HDD.out
      go_wp2_with (first
        | (go_at_call 69; with_reducible refine (HD1.out _ (W4.out.thenNo G0.out) _ (by omega)).mono ?_; rintro e v1 ⟨rfl, h1⟩; have G1 := Lib.hid (G0.out.thenNo h1); clear h1 p0 p1 p2 p3 p4 p5 p6 p7 p8 p9 p10 p11 p12 p13 p14 p15 p16 p17 p18 p19 p20 p21 p22 p23 p24 p25 p26 p27 p28 p29 p30 p31 p32 p33 HD1; obtain ⟨p0, p1, p2, p3, p4, p5, p6, p7, p8, p9, p10, p11, p12, p13, p14, p15, p16, p17, p18, p19, p20, p21, p22, p23, p24, p25, p26, p27, p28, p29, p30, p31, p32, p33⟩ := HOg.out _ G1.out)
        | (go_at_call 69; with_reducible refine (HD0.out _ _ (by omega)).mono ?_; rintro e v2 ⟨rfl, h2⟩; have G2 := Lib.hid (G1.out.thenNo h2); clear h2 p0 p1 p2 p3 p4 p5 p6 p7 p8 p9 p10 p11 p12 p13 p14 p15 p16 p17 p18 p19 p20 p21 p22 p23 p24 p25 p26 p27 p28 p29 p30 p31 p32 p33 HD0; obtain ⟨p0, p1, p2, p3, p4, p5, p6, p7, p8, p9, p10, p11, p12, p13, p14, p15, p16, p17, p18, p19, p20, p21, p22, p23, p24, p25, p26, p27, p28, p29, p30, p31, p32, p33⟩ := HOg.out _ G2.out)
        | (go_at_call 70; with_reducible refine (HD2.out _ (W4.out.thenNo G2.out)).mono ?_; rintro e v3 ⟨rfl, h3⟩; have G3 := Lib.hid (G2.out.thenNo h3); clear h3 p0 p1 p2 p3 p4 p5 p6 p7 p8 p9 p10 p11 p12 p13 p14 p15 p16 p17 p18 p19 p20 p21 p22 p23 p24 p25 p26 p27 p28 p29 p30 p31 p32 p33 HD2; obtain ⟨p0, p1, p2, p3, p4, p5, p6, p7, p8, p9, p10, p11, p12, p13, p14, p15, p16, p17, p18, p19, p20, p21, p22, p23, p24, p25, p26, p27, p28, p29, p30, p31, p32, p33⟩ := HOg.out _ G3.out))
      go_roundw
      case rel => exact .inr ⟨by go_num, hch.out.thenNo (C4.out.1.thenNo G3.out), ⟨trivial, trivial⟩⟩
      case measure => simp [intOf]
    · obtain ⟨p0, HB0, HW0⟩ := HEN.out wr hch.out
      obtain ⟨rfl, rfl⟩ := hdd.out
      clear HB0 HW0 HD1 HD0 HD2
      obtain ⟨wo, rfl⟩ : ∃ wo, wo = wr := ⟨_, rfl⟩
      go_wp2_with fail
      clear p0
      go_loopw [32] (fun s32 wr => (s32 = .int .i64 0 ∧ Hid (Chg No w3 wr)) ∨ (s32 = .int .i64 1 ∧ Hid (Chg No w3 wr) ∧ Hid (a1 = true ∧ s1 = true))) (fun s32 _ => 1 - (intOf s32).toNat)
      case atStart => exact .inl ⟨rfl, hch.out⟩
      case round =>
        clear hch
        rcases hrel with ⟨rfl, hch⟩ | ⟨rfl, hch, haa⟩
        · obtain ⟨p0, HB, HW⟩ := HEN.out wr hch.out
          have HB := Lib.hid HB
          have HW := Lib.hid HW
          go_upto_region 10 with (first
            | (refine wpList_load_row rfl 120 _ rfl bp rfl 120 ps (0, 0) _ HB.out Tryz.underlying120 rfl hinfo.out ?_)
            | (refine wpList_store_row rfl 120 _ _ rfl wr.heap.size ps rfl rfl 120 _ (heap_alloc_new _ _) hinfo.out (by rw [HSZ.out]; rfl) HONE.out ?_))
          obtain ⟨w4, hw4⟩ : ∃ w4, w4 = (wr.alloc (.cells #[.string ⟨#[]⟩, .slice none 0 0, .slice none 0 0, .int .i64 0, .int .i64 0, .slice none 0 0, .slice none 0 0, .int .i64 0, .int .i64 0, .string ⟨#[]⟩, .slice none 0 0, .int .i64 0, .int .i64 0, .string ⟨#[]⟩, .slice none 0 0, .string ⟨#[]⟩, .int .i64 0, .slice none 0 0, .int .i64 0, .int .i64 0, .slice none 0 0, .slice none 0 0, .int .i64 0, .int .i64 0, .string ⟨#[]⟩, .slice none 0 0, .int .i64 0, .int .i64 0, .string ⟨#[]⟩, .slice none 0 0, .string ⟨#[]⟩, .int .i64 0, .slice none 0 0, .slice none 0 0] 120)).setRow wr.heap.size ps := ⟨_, rfl⟩
          rw [← hw4]
          obtain ⟨g, hg⟩ : ∃ g, g = wr.heap.size := ⟨_, rfl⟩
          rw [← hg]
          have C4 : Hid (Chg No wr w4 ∧ w4.heap[g]? = some (.cells ps 120 (0, 0))) := by
            rw [hw4, hg]
            exact ⟨chg_setRow ps, setRow_heap _ _ _ _ _ _ (heap_alloc_new _ _)⟩
          have HOg := Lib.hid (fun W (hW : Chg No w4 W) => HO.out g W (hW.obj C4.out.2 id))
          have W4 := Lib.hid (HW.out.thenNo C4.out.1)
          clear hw4 hg HB p0
          have G0 : Hid (Chg No w4 w4) := Chg.refl _ _
          obtain ⟨p0, p1, p2, p3, p4, p5, p6, p7, p8, p9, p10, p11, p12, p13, p14, p15, p16, p17, p18, p19, p20, p21, p22, p23, p24, p25, p26, p27, p28, p29, p30, p31, p32, p33⟩ := HOg.out _ G0.out
          clear HEN
          obtain ⟨rfl, rfl⟩ := HAS.out
          go_wp2_with (first
            | (go_at_call 71; with_reducible refine (HN.out _ (W4.out.thenNo G0.out)).mono ?_; rintro e v1 ⟨rfl, h1⟩; have G1 := Lib.hid (G0.out.thenNo h1); clear h1 p0 p1 p2 p3 p4 p5 p6 p7 p8 p9 p10 p11 p12 p13 p14 p15 p16 p17 p18 p19 p20 p21 p22 p23 p24 p25 p26 p27 p28 p29 p30 p31 p32 p33 HN; obtain ⟨p0, p1, p2, p3, p4, p5, p6, p7, p8, p9, p10, p11, p12, p13, p14, p15, p16, p17, p18, p19, p20, p21, p22, p23, p24, p25, p26, p27, p28, p29, p30, p31, p32, p33⟩ := HOg.out _ G1.out)
            | (go_at_call 72; with_reducible refine (HNN.out _).mono ?_; rintro e v2 ⟨rfl, h2⟩; have G2 := Lib.hid (G1.out.thenNo h2); clear h2 G1 p0 p1 p2 p3 p4 p5 p6 p7 p8 p9 p10 p11 p12 p13 p14 p15 p16 p17 p18 p19 p20 p21 p22 p23 p24 p25 p26 p27 p28 p29 p30 p31 p32 p33 ; obtain ⟨p0, p1, p2, p3, p4, p5, p6, p7, p8, p9, p10, p11, p12, p13, p14, p15, p16, p17, p18, p19, p20, p21, p22, p23, p24, p25, p26, p27, p28, p29, p30, p31, p32, p33⟩ := HOg.out _ G2.out)
            | (go_at_call 72; with_reducible refine (HNN.out _).mono ?_; have G2x := G2; rintro e v3 ⟨rfl, h3⟩; have G3 := Lib.hid (G2.out.thenNo h3); clear h3 p0 p1 p2 p3 p4 p5 p6 p7 p8 p9 p10 p11 p12 p13 p14 p15 p16 p17 p18 p19 p20 p21 p22 p23 p24 p25 p26 p27 p28 p29 p30 p31 p32 p33 ; obtain ⟨p0, p1, p2, p3, p4, p5, p6, p7, p8, p9, p10, p11, p12, p13, p14, p15, p16, p17, p18, p19, p20, p21, p22, p23, p24, p25, p26, p27, p28, p29, p30, p31, p32, p33⟩ := HOg.out _ G3.out)
            | (go_at_call 73; with_reducible refine (HA1.out _ (W4.out.thenNo G3.out)).mono ?_; rintro e v4 ⟨rfl, h4⟩; have G4 := Lib.hid (G3.out.thenNo h4); clear h4 p0 p1 p2 p3 p4 p5 p6 p7 p8 p9 p10 p11 p12 p13 p14 p15 p16 p17 p18 p19 p20 p21 p22 p23 p24 p25 p26 p27 p28 p29 p30 p31 p32 p33 HA1; obtain ⟨p0, p1, p2, p3, p4, p5, p6, p7, p8, p9, p10, p11, p12, p13, p14, p15, p16, p17, p18, p19, p20, p21, p22, p23, p24, p25, p26, p27, p28, p29, p30, p31, p32, p33⟩ := HOg.out _ G4.out)
            | (go_at_call 73; with_reducible refine (HA0.out _ (W4.out.thenNo G4.out)).mono ?_; rintro e v5 ⟨rfl, h5⟩; have G5 := Lib.hid (G4.out.thenNo h5); clear h5 p0 p1 p2 p3 p4 p5 p6 p7 p8 p9 p10 p11 p12 p13 p14 p15 p16 p17 p18 p19 p20 p21 p22 p23 p24 p25 p26 p27 p28 p29 p30 p31 p32 p33 HA0; obtain ⟨p0, p1, p2, p3, p4, p5, p6, p7, p8, p9, p10, p11, p12, p13, p14, p15, p16, p17, p18, p19, p20, p21, p22, p23, p24, p25, p26, p27, p28, p29, p30, p31, p32, p33⟩ := HOg.out _ G5.out)
            | (go_at_call 74; with_reducible refine (HS1.out _ (W4.out.thenNo G5.out)).mono ?_; rintro e v6 ⟨rfl, h6⟩; have G6 := Lib.hid (G5.out.thenNo h6); clear h6 p0 p1 p2 p3 p4 p5 p6 p7 p8 p9 p10 p11 p12 p13 p14 p15 p16 p17 p18 p19 p20 p21 p22 p23 p24 p25 p26 p27 p28 p29 p30 p31 p32 p33 HS1; obtain ⟨p0, p1, p2, p3, p4, p5, p6, p7, p8, p9, p10, p11, p12, p13, p14, p15, p16, p17, p18, p19, p20, p21, p22, p23, p24, p25, p26, p27, p28, p29, p30, p31, p32, p33⟩ := HOg.out _ G6.out))
          go_roundw
          case rel => exact .inr ⟨by go_num, hch.out.thenNo (C4.out.1.thenNo G6.out), ⟨trivial, trivial⟩⟩
          case measure => simp [intOf]
        · obtain ⟨p0, HB0, HW0⟩ := HEN.out wr hch.out
          obtain ⟨rfl, rfl⟩ := haa.out
          clear HB0 p0
          go_wp2_with fail
          go_ret
          exact ⟨by rw [HANS.out]; simp [errV, chkP], HW0⟩
theorem check_any {m n k : Nat} {x : AT m n k} {R : Nat → Prop} {w : World} {kd ck : Int} {cA : Option Addr} {cel cca : Nat} {cB : Option Addr} {ckl cck : Nat} {ek en : Int} {es : ByteArray} {eB : Option Addr} {ekl eck : Nat} {vk vn : Int} {vs : ByteArray} {vB : Option Addr} {vkl vck : Nat} {fd : ByteArray} {nm : Int} {B : Option Addr} {kl capk : Nat} {A0 : Option Addr} {n0 c0 : Nat} {ps : Array Value} (hps : ps = prcA kd ck cA cel cca cB ckl cck ek en es eB ekl eck vk vn vs vB vkl vck fd nm B kl capk (.slice A0 n0 c0)) (hK : Keys w) (hx : (assnV m n k) R w [.int .i64 kd, .int .i64 ck, .slice cA cel cca, .slice cB ckl cck, .int .i64 ek, .int .i64 en, .string es, .slice eB ekl eck, .int .i64 vk, .int .i64 vn, .string vs, .slice vB vkl vck, .string fd, .int .i64 nm, .slice B kl capk] x) {bp : Nat} (hbp : w.heap[bp]? = some (.cells ps 120 (0, 0)))
    (d2 s1 : Bool) (hd2 : ∀ W, Chg No w W → Calls Tryz.prog 70 #[.slice A0 n0 c0, .int .i64 100] W fun e w' => e = .returned (.bool d2) ∧ Chg No W w')
    (hs1 : ∀ W, Chg No w W → Calls Tryz.prog 74 #[.slice A0 n0 c0] W fun e w' => e = .returned (.bool s1) ∧ Chg No W w') :
    Calls Tryz.prog 53 #[.agg #[.slice (some ⟨bp, 0, none⟩) 1 1]] w fun e w' => e = .returned (errV 83 (chkP (deepA m n k x 100) d2 (okA m n k x) s1)) ∧ Chg No w w' := by
  rcases hd : deepA m n k x 100 with _ | _
  · rcases d2 with _ | _
    · rcases ha : okA m n k x with _ | _
      · have := check_bad (x := x) hps hK hx hbp false s1 hd2 hs1 (Lib.hid ⟨hd, rfl⟩) (Lib.hid (.inl ha))
        rwa [hd, ha] at this
      · rcases s1 with _ | _
        · have := check_bad (x := x) hps hK hx hbp false false hd2 hs1 (Lib.hid ⟨hd, rfl⟩) (Lib.hid (.inr rfl))
          rwa [hd, ha] at this
        · have := check_good (x := x) hps hK hx hbp false true hd2 hs1 (Lib.hid ⟨hd, rfl⟩) (Lib.hid ⟨ha, rfl⟩)
          rwa [hd, ha] at this
    · have := check_deep (x := x) hps hK hx hbp true s1 hd2 hs1 (Lib.hid (.inr rfl))
      rwa [hd] at this
  · have := check_deep (x := x) hps hK hx hbp d2 s1 hd2 hs1 (Lib.hid (.inl hd))
    rwa [hd] at this
end Go.Proofs.YtpmndblakmobdaaGreatDoor
