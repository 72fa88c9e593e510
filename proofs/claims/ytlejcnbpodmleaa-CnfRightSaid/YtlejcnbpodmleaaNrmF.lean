/-
  norm.Literal.
-/
import Derived.Test.YtlejcnbpodmleaaNrmE
import Derived.Test.YtlejcnbpodmleaaFind
import Derived.Deep.RegionLaw
import Derived.Deep.DeepCutAuto
namespace Go.Proofs.Ytlejcnbpodmleaa
open Go Go.RowKit

set_option maxRecDepth 100000 in
set_option maxHeartbeats 2000000 in
theorem literal_neg {R : Nat → Prop} {w : World} (c : Int) {A : Option Addr} {t : List Mono} {cap : Nat} (ht : Monos R w A t cap) (hB : linB c t = true) (hne : 0 < t.length) (hpos : ¬ 0 < Int.tdiv t[0].2 (gcdN t)) (hg : 1 ≤ gcdN t) :
    Calls Try.prog 70 #[.agg #[.int .i64 c, .slice A t.length cap]] w (LitRet w (if coefB (1 - upI c (gcdN t)) = true then not2 (1 - upI c (gcdN t), scale (-1) (divT t (gcdN t))) else leaf2 0) (errV 43 (if coefB (1 - upI c (gcdN t)) = true then 0 else 3))) := by
  have HT := Lib.hid (fun W (h : Chg No w W) => ht.no monoE_good h)
  have HC := Lib.hid (fun W (h : Chg No w W) => linCheck_any c (ht.no monoE_good h))
  have HD := Lib.hid (fun W (h : Chg No w W) => linGcd_any (c := c) (ht.no monoE_good h))
  rw [hB] at HC HD
  rw [show (if true = true then (0 : Int) else 5) = 0 from rfl, errV_zero] at HC
  rw [show (if true = true then (gcdN t : Int) else 0) = (gcdN t : Int) from rfl] at HD
  obtain ⟨hcB, hl64, hall⟩ := linB_sound hB
  have hgl : gcdN t ≤ 1073741824 := gcdN_le (linB_coef hB)
  obtain ⟨c1, c2⟩ := coefB_le hcB
  have HUp := Lib.hid (fun W => up_any c (gcdN t) W c1 c2 (by omega) (by omega))
  have HKR : Hid (∀ i (h : i < t.length), (-1073741824 ≤ t[i].2 ∧ t[i].2 ≤ 1073741824) ∧ I64 t[i].1) := fun i h => ⟨coefB_le (hall i h).2.1, by
    have := varB_le (hall i h).1
    exact I64.of (by omega) (by omega)⟩
  have HPO : Hid (∃ h : 0 < (divT t (gcdN t)).length, ¬ 0 < (divT t (gcdN t))[0].2) := ⟨by simpa [divT] using hne, by simpa [divT] using hpos⟩
  have HLU := Lib.hid (linB_div hB hne)
  have u12 := up_coef (c := c) (g := (gcdN t : Int)) (by omega) c1 c2
  obtain ⟨E, hE⟩ : ∃ E, E = errV 43 (if coefB (1 - upI c (gcdN t)) = true then 0 else 3) := ⟨_, rfl⟩
  obtain ⟨ff, hff⟩ : ∃ ff, ff = (if coefB (1 - upI c (gcdN t)) = true then not2 (1 - upI c (gcdN t), scale (-1) (divT t (gcdN t))) else leaf2 0) := ⟨_, rfl⟩
  rw [← hE, ← hff]
  have HEE := Lib.hid hE
  have HFF := Lib.hid hff
  clear hE hff
  have hlen : (divT t (gcdN t)).length = t.length := by simp [divT]
  have HLN := Lib.hid hlen
  clear hlen hpos hall hcB hB ht
  obtain ⟨u1, u2⟩ := u12
  generalize upI c (gcdN t) = u at *
  generalize gcdN t = g at *
  obtain ⟨w3, hw3⟩ : ∃ w3, w3 = (w.alloc (.cells #[.int .i64 c, .slice A t.length cap] 24)).alloc (.cells #[.int .i64 0, .int .i64 0, .slice none 0 0, .slice none 0 0] 27) := ⟨_, rfl⟩
  have h3 : Hid (Chg No w w3 ∧ w3.heap[w.heap.size]? = some (.cells #[.int .i64 c, .slice A t.length cap] 24 (0, 0)) ∧ w3.heap[w.heap.size + 1]? = some (.cells #[.int .i64 0, .int .i64 0, .slice none 0 0, .slice none 0 0] 27 (0, 0)) ∧ w3.heap.size = w.heap.size + 2) := by
    rw [hw3]; exact ⟨((Chg.refl _ _).alloc _).alloc _, at_old (heap_alloc_new _ _), at_new (by simp), by simp⟩
  have e0 : ((t.length : Int) == 0) = false := by rw [beq_eq_false_iff_ne]; omega
  go_enter Try.func70, Try.ntmps70
  go_upto_region 1 with fail
  rw [← hw3]
  clear hw3
  obtain ⟨p0, p1⟩ := objtwo h3.out.2.1
  go_upto_region 10 with (first
    | (go_at_call 68; refine (HC.out _ h3.out.1).mono ?_; rintro e w4 ⟨rfl, h4⟩; have H4 := Lib.hid h4; obtain ⟨q0, q1⟩ := objtwo (h4.obj h3.out.2.1 id); clear h4)
    | (go_at_call 73; refine (HD.out _ (h3.out.1.thenNo H4.out)).mono ?_; rintro e w5 ⟨rfl, h5⟩; have H5 := Lib.hid (H4.out.thenNo h5); obtain ⟨r0, r1⟩ := objtwo (H5.out.obj h3.out.2.1 id); clear h5)
    | (go_at_call 79; refine (HUp.out _).mono ?_; rintro e w6 ⟨rfl, rfl⟩))
  obtain ⟨w6, hw6⟩ : ∃ w6, w6 = w5.alloc (.cells #[.int .i64 u, .slice none 0 0] 24) := ⟨_, rfl⟩
  rw [← hw6]
  have h6 : Hid (Chg No w3 w6 ∧ w6.heap[w5.heap.size]? = some (.cells #[.int .i64 u, .slice none 0 0] 24 (0, 0)) ∧ w6.heap.size = w5.heap.size + 1 ∧ w.heap.size + 2 ≤ w5.heap.size) := by
    rw [hw6]
    exact ⟨H5.out.alloc _, heap_alloc_new _ _, by simp, by have := H5.out.size; have := h3.out.2.2.2; omega⟩
  clear hw6 p0 p1 q0 q1 r0 r1
  obtain ⟨p0, p1⟩ := objtwo (h6.out.1.obj h3.out.2.1 id)
  have hg0 : (g : Int) ≠ 0 := by omega
  have hg1 : ((g : Int) == 0) = false := by rw [beq_eq_false_iff_ne]; exact hg0
  have hz5 : w.heap.size + 2 ≤ w5.heap.size := h6.out.2.2.2
  have hz6 : w5.heap.size < w6.heap.size := by have := h6.out.2.2.1; omega
  go_wp2_with fail
  clear p0 p1
  go_loopw [36] (fun s36 wr => ∃ (i : Nat) (vT : Value), s36 = .int .i64 i ∧ i ≤ t.length ∧ Hid (wr.heap[w5.heap.size]? = some (.cells #[.int .i64 u, vT] 24 (0, 0)) ∧ OwnL monoV 49 (fun q => w6.heap.size ≤ q) No wr vT (divT (t.take i) g) ∧ Chg No w3 wr ∧ w6.heap.size ≤ wr.heap.size)) (fun s36 _ => t.length - (intOf s36).toNat)
  case atStart => exact ⟨0, _, rfl, Nat.zero_le _, h6.out.2.1, OwnL.nil _ _ _ _ _, h6.out.1, Nat.le_refl _⟩
  case round =>
    obtain ⟨i, vT, rfl, gi, hst⟩ := hrel
    obtain ⟨m0, m1⟩ := objtwo hst.out.1
    by_cases hlt : i < t.length
    · obtain ⟨b, o, rfl, hx0, hx1⟩ := (HT.out wr (h3.out.1.thenNo hst.out.2.2.1)).mono_at i hlt
      have i0 : (0 : Int) ≤ (i : Int) := by omega
      have i1 : (i : Int) < (t.length : Int) := by omega
      obtain ⟨⟨k1, k2⟩, k3⟩ := HKR.out i hlt
      have HTK := Lib.hid (divT_take (g := g) hlt)
      obtain ⟨d1, d2⟩ := tdiv_range (g := g) k1 k2 (by omega)
      have hTl : (divT (t.take i) g).length ≤ 64 := by simp [divT]; omega
      generalize t[i].1 = vv at *
      generalize t[i].2 = kk at *
      generalize hT' : divT (t.take (i + 1)) g = T' at *
      have HT' := Lib.hid hT'
      clear hT'
      generalize divT (t.take i) g = T at *
      have K3 := Lib.hid k3
      clear k3
      have hzr : w6.heap.size ≤ wr.heap.size := hst.out.2.2.2
      have x0 := ((Chg.refl No wr).alloc (.cells #[.int .i64 vv, .int .i64 kk] 49)).cell m1 id
      have HG : Hid (∀ w7 A2 cap2, OwnL monoV 49 (fun q => w6.heap.size ≤ q) No w7 (.slice A2 (T.length + 1) cap2) (T ++ [(vv, Int.tdiv kk g)]) → Chg (fun q => vT.ownBlock = some q) wr w7 →
          (w7.cell? ⟨w5.heap.size, 1, none⟩ = some vT ∧ w7.frozen? ⟨w5.heap.size, 1, none⟩ = false) ∧ Hid ((w7.setCell ⟨w5.heap.size, 1, none⟩ (.slice A2 (T.length + 1) cap2)).heap[w5.heap.size]? = some (.cells #[.int .i64 u, .slice A2 (T.length + 1) cap2] 24 (0, 0)) ∧
            OwnL monoV 49 (fun q => w6.heap.size ≤ q) No (w7.setCell ⟨w5.heap.size, 1, none⟩ (.slice A2 (T.length + 1) cap2)) (.slice A2 (T.length + 1) cap2) T' ∧ Chg No w3 (w7.setCell ⟨w5.heap.size, 1, none⟩ (.slice A2 (T.length + 1) cap2)) ∧ w6.heap.size ≤ (w7.setCell ⟨w5.heap.size, 1, none⟩ (.slice A2 (T.length + 1) cap2)).heap.size)) := fun w7 A2 cap2 g1 g2 => by
        have hmine : ∀ q, vT.ownBlock = some q → w6.heap.size ≤ q := fun q hq => (hst.out.2.1.mine q hq).1
        have o7 := g2.obj hst.out.1 (fun e => by have := hmine _ e; omega)
        have hs := (Chg.refl (fun q => q = w5.heap.size) w7).setCell ⟨w5.heap.size, 1, none⟩ (.slice A2 (T.length + 1) cap2) (fun _ => rfl)
        have z3 := H5.out.size
        have z6 := h6.out.1.size
        refine ⟨⟨(objtwo o7).2, objfrozen o7 1⟩, objset _ o7, ?_, ?_, ?_⟩
        · rw [HTK.out]
          exact g1.chg monoV_good hs (fun k hk e => by have := (g1.mine k hk).1; omega) (fun k hk _ => hk.elim)
        · exact chgpast (chgpast hst.out.2.2.1 g2 (fun k hk => by have := hmine k hk; omega)) hs (fun k hk => by omega)
        · have := g2.size; have := hs.size; omega
      have HOW : Hid (OwnL monoV 49 (fun q => w6.heap.size ≤ q) No wr vT T) := hst.out.2.1
      have HSZ : Hid (∀ q, wr.heap.size ≤ q → w6.heap.size ≤ q) := fun q hq => by omega
      have HNW : Hid (∀ j u, [Value.int .i64 vv, .int .i64 (Int.tdiv kk g)][j]? = some u → ((wr.alloc (.cells #[.int .i64 vv, .int .i64 kk] 49)).alloc (.cells #[.int .i64 vv, .int .i64 (Int.tdiv kk g)] 49)).cell? ((⟨wr.heap.size + 1, 0, none⟩ : Addr).add j) = some u) :=
        news_of (cs := [.int .i64 vv, .int .i64 (Int.tdiv kk g)]) (t := 49) (fr := (0, 0)) (at_new (by simp))
      clear hst HTK HPO HLN HC HD HUp HEE HFF HLU
      go_wp2_with fail
      have x1 := ((Chg.refl No (wr.alloc (.cells #[.int .i64 vv, .int .i64 kk] 49))).alloc (.cells #[.int .i64 vv, .int .i64 (Int.tdiv kk g)] 49)).cell x0 id
      have hgN : g ≠ 0 := by omega
      have hwm : IntKind.i64.wrap (Int.tdiv kk g) = Int.tdiv kk g := by rw [IntKind.wrap_i64]; omega
      go_region_law
        ((refine step_pushL monoV_good monosTyN (by rfl) (.tmp 41) (.tmp 49) (by rfl) (M := fun q => w6.heap.size ≤ q) (R := No) (w := wr) HSZ.out HOW.out (by rfl) (mono_of (m := (vv, Int.tdiv kk g)) K3.out (I64.of (show -9000000000000000000 ≤ Int.tdiv kk g by omega) (show Int.tdiv kk g ≤ 9000000000000000000 by omega))) (by simp [Value.oneCell']) (a := ⟨wr.heap.size + 1, 0, none⟩) ((((Chg.refl No wr).alloc (.cells #[.int .i64 vv, .int .i64 kk] 49)).alloc (.cells #[.int .i64 vv, .int .i64 (Int.tdiv kk g)] 49)).drew) HNW.out (by rfl) (show (T.length + 1) * 16 ≤ 140737488355328 by omega) ?_; intro A2 cap2 w7 g1 g2; obtain ⟨⟨f1, f2⟩, G8⟩ := HG.out w7 A2 cap2 g1 g2; clear g1 g2))
      all_goals
        go_wp2
        go_roundw
        case rel =>
          repeat apply Exists.intro
          first
            | (refine ⟨?_, rfl⟩; exact ⟨i + 1, _, by go_num, hlt, by rw [HT'.out]; exact G8⟩)
            | exact ⟨by go_num, hlt, by rw [HT'.out]; exact G8⟩
        case measure => simp [intOf]; omega
    · obtain rfl : i = t.length := by omega
      rw [List.take_of_length_le (Nat.le_refl _)] at hst
      obtain ⟨AT, capT, rfl⟩ : ∃ AT capT, vT = .slice AT t.length capT := by
        obtain ⟨AT, capT, e, _⟩ := hst.out.2.1.value
        rw [HLN.out] at e
        exact ⟨AT, capT, e⟩
      have hmo : Monos (fun q => w6.heap.size ≤ q) wr AT (divT t g) capT := (hst.out.2.1.sl_of monoV_good (by have := HLN.out; show (divT t g).length * 16 ≤ big; unfold big; omega)).2.mono monoE_good (fun k _ hk => hk.elim id (fun f => f.elim))
      obtain ⟨hp0, hp1⟩ := HPO.out
      obtain ⟨b, o, rfl, _, y1⟩ := hmo.mono_at 0 hp0
      have y2 : wr.cell? ⟨b, o + 1, none⟩ = some (.int .i64 (divT t g)[0].2) := by simpa using y1
      have hadd := add_neg HLU.out
      have HMO := Lib.hid hmo
      generalize (divT t g)[0].2 = d0 at *
      generalize hTT : divT t g = TT at *
      clear hTT
      have i1 : (0 : Int) < (t.length : Int) := by omega
      have hd : decide (0 < d0) = false := by simpa using hp1
      have HSET : Hid (∀ W u0 u1 u2 u3, Chg No w3 W → Chg No w ((((W.setCell ⟨w.heap.size + 1, 0, none⟩ u0).setCell ⟨w.heap.size + 1, 1, none⟩ u1).setCell ⟨w.heap.size + 1, 2, none⟩ u2).setCell ⟨w.heap.size + 1, 3, none⟩ u3)) := fun W u0 u1 u2 u3 hW =>
        chgpast (h3.out.1.thenNo hW) (set4_chg _ W u0 u1 u2 u3) (fun k hk => by omega)
      have HB3 := Lib.hid h3.out.2.2.1
      have HSZ3 := Lib.hid h3.out.2.2.2
      have HCH3 := Lib.hid hst.out.2.2.1
      have HZR := Lib.hid hst.out.2.2.2
      have HAd : Hid (Calls Try.prog 71 #[.agg #[.int .i64 u, .slice (some ⟨b, o, none⟩) t.length capT], .agg #[.int .i64 1, .slice none 0 0], .int .i64 (-1), .int .i64 1] wr (LinRet wr (addLin (u, TT) (1, []) (-1) 1) (errV 43 (addErr (u, TT) (1, []) (-1) 1)))) := by
        have h := linAdd_any (w := wr) (u, TT) (1, []) (R' := No) (A' := none) (cap' := 0) hmo Sl.empty (-1) 1
        have e : TT.length = t.length := HLN.out
        simp only [e, List.length_nil] at h
        exact h
      rw [hadd.1, hadd.2] at HAd
      clear hst hmo HPO hp1 y1 h3 h6 HT HC HD HUp HKR hadd
      cases hcb : coefB (1 - u)
      · rw [hcb] at HAd HEE HFF
        rw [if_neg (by decide), if_neg (by decide)] at HAd
        rw [if_neg (by decide)] at HEE HFF
        rw [errV_of _ (by decide)] at HAd HEE
        obtain rfl := HEE.out
        obtain rfl := HFF.out
        clear HEE HFF hcb
        go_wp2_with (go_at_call 71; (with_reducible refine HAd.out.mono ?_); rintro e w8 ⟨Ar, cr, rfl, _, h8⟩; have H8 := Lib.hid (HCH3.out.thenNo h8); obtain ⟨⟨r0, r1, r2, r3⟩, f0, f1, f2, f3⟩ := obj_frm (((Chg.refl No w8).alloc (.cells #[.int .i64 0, .slice Ar 0 cr] 24)).obj (H8.out.obj HB3.out id) id); clear h8)
        exact bodyPost_ret (v := .tuple #[.agg #[.int .i64 0, .int .i64 0, .slice none 0 0, .slice none 0 0], .iface 43 (.int .i64 3)]) (by simp [results, Try.results70, go_sem, r0, r1, r2, r3]) rfl (leaf2_ret 0 _ (by unfold I64; decide) (HSET.out _ _ _ _ _ (H8.out.alloc _)))
      · rw [hcb] at HAd HEE HFF
        rw [if_pos rfl, if_pos rfl] at HAd
        rw [if_pos rfl] at HEE HFF
        rw [errV_zero] at HAd HEE
        obtain rfl := HEE.out
        obtain rfl := HFF.out
        obtain ⟨sT, hsT⟩ : ∃ sT, sT = scale (-1) TT := ⟨_, rfl⟩
        rw [← hsT] at HAd
        have HST := Lib.hid hsT
        clear HEE HFF hcb hsT
        have HWZ : Hid (w6.heap.size ≤ wr.heap.size) := HZR.out
        go_upto_region 18 with (go_at_call 71; (with_reducible refine HAd.out.mono ?_); rintro e w8 ⟨Ar, cr, rfl, g8, h8⟩; have G8 := Lib.hid g8; have H8 := Lib.hid h8; clear g8 h8)
        obtain ⟨wc, hwc⟩ : ∃ wc, wc = w8.alloc (.cells #[.int .i64 (1 - u), .slice Ar sT.length cr] 24) := ⟨_, rfl⟩
        have GP : Hid (wc.heap[w8.heap.size]? = some (.cells #[.int .i64 (1 - u), .slice Ar sT.length cr] 24 (0, 0)) ∧ Monos (fun k => w6.heap.size ≤ k) wc Ar sT cr ∧ Chg No w3 wc) := by
          rw [hwc]
          exact ⟨heap_alloc_new _ _, (G8.out.mono monoE_good (fun k _ h => by have := HWZ.out; omega)).no monoE_good ((Chg.refl _ _).alloc _), (HCH3.out.thenNo H8.out).alloc _⟩
        rw [← hwc]
        clear hwc m0 m1
        obtain ⟨m0, m1⟩ := objtwo GP.out.1
        have hz3 : w3.heap.size = w.heap.size + 2 := HSZ3.out
        have hwc := GP.out.2.2.size
        have hwle : w.heap.size ≤ wc.heap.size := by omega
        have HKB : Hid (Chg No wc (wc.alloc (.cells #[.int .i64 2, .int .i64 (1 - u), .slice Ar sT.length cr, .slice none 0 0] 27)) ∧ (wc.alloc (.cells #[.int .i64 2, .int .i64 (1 - u), .slice Ar sT.length cr, .slice none 0 0] 27)).heap[wc.heap.size]? = some (.cells #[.int .i64 2, .int .i64 (1 - u), .slice Ar sT.length cr, .slice none 0 0] 27 (0, 0))) := ⟨(Chg.refl _ _).alloc _, heap_alloc_new _ _⟩
        obtain ⟨⟨r0, r1, r2, r3⟩, f0, f1, f2, f3⟩ := obj_frm (HKB.out.1.obj (GP.out.2.2.obj HB3.out id) id)
        have HFIN : Hid (∀ W, ((((wc.alloc (.cells #[.int .i64 2, .int .i64 (1 - u), .slice Ar sT.length cr, .slice none 0 0] 27)).setCell ⟨w.heap.size + 1, 0, none⟩ (.int .i64 4)).setCell ⟨w.heap.size + 1, 1, none⟩ (.int .i64 0)).setCell ⟨w.heap.size + 1, 2, none⟩ (.slice none 0 0)).setCell ⟨w.heap.size + 1, 3, none⟩ (.slice (some ⟨wc.heap.size, 0, none⟩) 1 1) = W →
            LitRet w (not2 (1 - u, scale (-1) TT)) .nilIface (.returned (.tuple #[.agg #[.int .i64 4, .int .i64 0, .slice none 0 0, .slice (some ⟨wc.heap.size, 0, none⟩) 1 1], .nilIface])) W) := fun W hW => by
          subst hW
          rw [← HST.out]
          have hs := set4_chg (w.heap.size + 1) (wc.alloc (.cells #[.int .i64 2, .int .i64 (1 - u), .slice Ar sT.length cr, .slice none 0 0] 27)) (.int .i64 4) (.int .i64 0) (.slice none 0 0) (.slice (some ⟨wc.heap.size, 0, none⟩) 1 1)
          obtain ⟨⟨k0, k1, k2, k3⟩, _⟩ := obj_frm (hs.obj HKB.out.2 (fun e => by omega))
          have hmN := ((GP.out.2.1.no monoE_good HKB.out.1).chg monoE_good hs (fun k hk e => by omega)).mono monoE_good (R' := fun k => w.heap.size ≤ k) (fun k _ hk => by omega)
          refine ⟨_, rfl, ⟨none, 0, some ⟨wc.heap.size, 0, none⟩, 1, rfl, by show I64 4; unfold I64; decide, by show I64 0; unfold I64; decide, Sl.empty, ⟨Nat.le_refl _, by decide, by show 1 * 64 ≤ big; decide, (fun h => by cases h), fun i hi => ?_⟩⟩, HSET.out _ _ _ _ _ (GP.out.2.2.thenNo HKB.out.1)⟩
          obtain rfl : i = 0 := by
            have : i < 1 := hi
            omega
          refine ⟨wc.heap.size, 0, rfl, hwle, [.int .i64 2, .int .i64 (1 - u), .slice Ar sT.length cr, .slice none 0 0], rfl, fun j v hj => ?_, ⟨Ar, cr, none, 0, rfl, by show I64 2; unfold I64; decide, I64.of (show -9000000000000000000 ≤ 1 - u by omega) (show 1 - u ≤ 9000000000000000000 by omega), hmN, Sl.empty⟩⟩
          have hj4 : j < 4 := (List.getElem?_eq_some_iff.1 hj).1
          match j, hj4 with
          | 0, _ => simp at hj; subst hj; simpa using k0
          | 1, _ => simp at hj; subst hj; simpa using k1
          | 2, _ => simp at hj; subst hj; simpa using k2
          | 3, _ => simp at hj; subst hj; simpa using k3
        clear GP HKB hwc hz3
        go_wp2_with fail
        exact bodyPost_ret (v := .tuple #[.agg #[.int .i64 4, .int .i64 0, .slice none 0 0, .slice (some ⟨wc.heap.size, 0, none⟩) 1 1], .nilIface]) (by simp [results, Try.results70, go_sem, r0, r1, r2, r3]) rfl (HFIN.out _ rfl)
end Go.Proofs.Ytlejcnbpodmleaa
