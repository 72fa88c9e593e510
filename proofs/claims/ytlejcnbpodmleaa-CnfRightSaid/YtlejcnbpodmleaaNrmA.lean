/-
  norm.up; norm.Literal where the first coefficient is above 0.
-/
import Derived.Test.YtlejcnbpodmleaaLin4
import Derived.Test.YtlejcnbpodmleaaOwnL
import Derived.Test.YtlejcnbpodmleaaFind
import Derived.Deep.RegionLaw
import Derived.Deep.DeepCutAuto
namespace Go.Proofs.Ytlejcnbpodmleaa
open Go Go.RowKit

/-- A number divided by another one, rounded up. -/
def upI (a g : Int) : Int := if 0 < Int.tmod a g then Int.tdiv a g + 1 else Int.tdiv a g
theorem tdiv_range {a g : Int} (h1 : -1073741824 ≤ a) (h2 : a ≤ 1073741824) (_ : 1 ≤ g) : -1073741824 ≤ Int.tdiv a g ∧ Int.tdiv a g ≤ 1073741824 := by
  have h : (Int.tdiv a g).natAbs = a.natAbs / g.natAbs := Int.natAbs_tdiv a g
  have h3 : a.natAbs / g.natAbs ≤ a.natAbs := Nat.div_le_self _ _
  omega
set_option maxHeartbeats 400000 in
theorem up_any (a g : Int) (w : World) (h1 : -1073741824 ≤ a) (h2 : a ≤ 1073741824) (hg : 1 ≤ g) (hg2 : g ≤ 1073741824) :
    Calls Try.prog 79 #[.int .i64 a, .int .i64 g] w fun e w' => e = .returned (.int .i64 (upI a g)) ∧ w = w' := by
  obtain ⟨t1, t2⟩ := tdiv_range h1 h2 hg
  have hg0 : (g == 0) = false := by simp; omega
  have hg1 : g ≠ 0 := by omega
  unfold upI
  by_cases hm : 0 < Int.tmod a g
  · rw [if_pos hm]
    go_enter Try.func79, Try.ntmps79
    go_wp2
    go_ret
    exact ⟨rfl, rfl⟩
  · rw [if_neg hm]
    go_enter Try.func79, Try.ntmps79
    go_wp2
    go_ret
    exact ⟨rfl, rfl⟩

/-- Coefficients divided. -/
def divT (t : List Mono) (g : Int) : List Mono := t.map (fun m => (m.1, Int.tdiv m.2 g))
theorem divT_take {t : List Mono} {g : Int} {i : Nat} (hi : i < t.length) : divT (t.take (i + 1)) g = divT (t.take i) g ++ [(t[i].1, Int.tdiv t[i].2 g)] := by
  unfold divT
  rw [List.take_succ_eq_append_getElem hi, List.map_append]
  rfl
theorem monosTyN : SliceTy Try.prog 22 49 monoV.sz monoV.bytes (.agg #[.int .i64 0, .int .i64 0]) := ⟨Try.underlying22, by kernel_rfl, rfl, by decide, by decide⟩
theorem objset {w : World} {b j : Nat} {cs : Array Value} {t : TypeId} (u : Value) (h : w.heap[b]? = some (.cells cs t (0, 0))) : (w.setCell ⟨b, j, none⟩ u).heap[b]? = some (.cells (cs.setIfInBounds j u) t (0, 0)) := by
  simp [World.setCell, Array.getElem?_modify, h]
theorem objfrozen {w : World} {b : Nat} {cs : Array Value} {t : TypeId} (h : w.heap[b]? = some (.cells cs t (0, 0))) (i : Nat) : w.frozen? ⟨b, i, none⟩ = false := by
  simp [World.frozen?, h]
theorem objtwo {w : World} {b : Nat} {x y : Value} {t : TypeId} (h : w.heap[b]? = some (.cells #[x, y] t (0, 0))) :
    w.cell? ⟨b, 0, none⟩ = some x ∧ w.cell? ⟨b, 1, none⟩ = some y := by
  simp [World.cell?, h]
theorem chgpast {S : Nat → Prop} {w w1 w2 : World} (h : Chg No w w1) (g : Chg S w1 w2) (hS : ∀ k, S k → w.heap.size ≤ k) : Chg No w w2 :=
  h.trans g (fun k hk hlt => by have := hS k hk; omega)

set_option maxRecDepth 100000 in
set_option maxHeartbeats 2000000 in
theorem literal_pos {R : Nat → Prop} {w : World} (c : Int) {A : Option Addr} {t : List Mono} {cap : Nat} (ht : Monos R w A t cap) (hB : linB c t = true) (hne : 0 < t.length) (hpos : 0 < Int.tdiv t[0].2 (gcdN t)) (hg : 1 ≤ gcdN t) :
    Calls Try.prog 70 #[.agg #[.int .i64 c, .slice A t.length cap]] w fun e w' => ∃ A' cap', e = .returned (.tuple #[.agg #[.int .i64 2, .int .i64 (upI c (gcdN t)), .slice A' t.length cap', .slice none 0 0], .nilIface]) ∧
      Monos (fun k => w.heap.size ≤ k) w' A' (divT t (gcdN t)) cap' ∧ Chg No w w' := by
  have HT := Lib.hid (fun W (h : Chg No w W) => ht.no monoE_good h)
  have HC := Lib.hid (fun W (h : Chg No w W) => linCheck_any c (ht.no monoE_good h))
  have HD := Lib.hid (fun W (h : Chg No w W) => linGcd_any (c := c) (ht.no monoE_good h))
  rw [hB] at HC HD
  rw [show (if true = true then (0 : Int) else 5) = 0 from rfl, errV_zero] at HC
  rw [show (if true = true then (gcdN t : Int) else 0) = (gcdN t : Int) from rfl] at HD
  obtain ⟨hcB, hl64, hall⟩ := linB_sound hB
  have hgl : gcdN t ≤ 1073741824 := gcdN_le (linB_coef hB)
  obtain ⟨c1, c2⟩ := coefB_le hcB
  have HUp := Lib.hid (fun W => up_any c (gcdN t) W c1 c2 (by omega) (by omega))
  have HKR : Hid (∀ i (h : i < t.length), (-1073741824 ≤ t[i].2 ∧ t[i].2 ≤ 1073741824) ∧ I64 t[i].1) := fun i h => ⟨coefB_le (hall i h).2.1, by
    have := varB_le (hall i h).1
    exact I64.of (by omega) (by omega)⟩
  have HPO : Hid (∃ h : 0 < (divT t (gcdN t)).length, 0 < (divT t (gcdN t))[0].2) := ⟨by simpa [divT] using hne, by simpa [divT] using hpos⟩
  have hlen : (divT t (gcdN t)).length = t.length := by simp [divT]
  have HLN := Lib.hid hlen
  clear hlen hpos hall hcB hB ht
  generalize upI c (gcdN t) = u at *
  generalize gcdN t = g at *
  obtain ⟨w3, hw3⟩ : ∃ w3, w3 = (w.alloc (.cells #[.int .i64 c, .slice A t.length cap] 24)).alloc (.cells #[.int .i64 0, .int .i64 0, .slice none 0 0, .slice none 0 0] 27) := ⟨_, rfl⟩
  have h3 : Hid (Chg No w w3 ∧ w3.heap[w.heap.size]? = some (.cells #[.int .i64 c, .slice A t.length cap] 24 (0, 0)) ∧ w3.heap[w.heap.size + 1]? = some (.cells #[.int .i64 0, .int .i64 0, .slice none 0 0, .slice none 0 0] 27 (0, 0)) ∧ w3.heap.size = w.heap.size + 2) := by
    rw [hw3]; exact ⟨((Chg.refl _ _).alloc _).alloc _, at_old (heap_alloc_new _ _), at_new (by simp), by simp⟩
  have e0 : ((t.length : Int) == 0) = false := by rw [beq_eq_false_iff_ne]; omega
  go_enter Try.func70, Try.ntmps70
  go_upto_region 1 with fail
  rw [← hw3]
  clear hw3
  obtain ⟨p0, p1⟩ := objtwo h3.out.2.1
  go_upto_region 10 with (first
    | (go_at_call 68; refine (HC.out _ h3.out.1).mono ?_; rintro e w4 ⟨rfl, h4⟩; have H4 := Lib.hid h4; obtain ⟨q0, q1⟩ := objtwo (h4.obj h3.out.2.1 id); clear h4)
    | (go_at_call 73; refine (HD.out _ (h3.out.1.thenNo H4.out)).mono ?_; rintro e w5 ⟨rfl, h5⟩; have H5 := Lib.hid (H4.out.thenNo h5); obtain ⟨r0, r1⟩ := objtwo (H5.out.obj h3.out.2.1 id); clear h5)
    | (go_at_call 79; refine (HUp.out _).mono ?_; rintro e w6 ⟨rfl, rfl⟩))
  obtain ⟨w6, hw6⟩ : ∃ w6, w6 = w5.alloc (.cells #[.int .i64 u, .slice none 0 0] 24) := ⟨_, rfl⟩
  rw [← hw6]
  have h6 : Hid (Chg No w3 w6 ∧ w6.heap[w5.heap.size]? = some (.cells #[.int .i64 u, .slice none 0 0] 24 (0, 0)) ∧ w6.heap.size = w5.heap.size + 1 ∧ w.heap.size + 2 ≤ w5.heap.size) := by
    rw [hw6]
    exact ⟨H5.out.alloc _, heap_alloc_new _ _, by simp, by have := H5.out.size; have := h3.out.2.2.2; omega⟩
  clear hw6 p0 p1 q0 q1 r0 r1
  obtain ⟨p0, p1⟩ := objtwo (h6.out.1.obj h3.out.2.1 id)
  have hg0 : (g : Int) ≠ 0 := by omega
  have hg1 : ((g : Int) == 0) = false := by rw [beq_eq_false_iff_ne]; exact hg0
  have hz5 : w.heap.size + 2 ≤ w5.heap.size := h6.out.2.2.2
  have hz6 : w5.heap.size < w6.heap.size := by have := h6.out.2.2.1; omega
  go_wp2_with fail
  clear p0 p1
  go_loopw [36] (fun s36 wr => ∃ (i : Nat) (vT : Value), s36 = .int .i64 i ∧ i ≤ t.length ∧ Hid (wr.heap[w5.heap.size]? = some (.cells #[.int .i64 u, vT] 24 (0, 0)) ∧ OwnL monoV 49 (fun q => w6.heap.size ≤ q) No wr vT (divT (t.take i) g) ∧ Chg No w3 wr ∧ w6.heap.size ≤ wr.heap.size)) (fun s36 _ => t.length - (intOf s36).toNat)
  case atStart => exact ⟨0, _, rfl, Nat.zero_le _, h6.out.2.1, OwnL.nil _ _ _ _ _, h6.out.1, Nat.le_refl _⟩
  case round =>
    obtain ⟨i, vT, rfl, gi, hst⟩ := hrel
    obtain ⟨m0, m1⟩ := objtwo hst.out.1
    by_cases hlt : i < t.length
    · obtain ⟨b, o, rfl, hx0, hx1⟩ := (HT.out wr (h3.out.1.thenNo hst.out.2.2.1)).mono_at i hlt
      have i0 : (0 : Int) ≤ (i : Int) := by omega
      have i1 : (i : Int) < (t.length : Int) := by omega
      obtain ⟨⟨k1, k2⟩, k3⟩ := HKR.out i hlt
      have HTK := Lib.hid (divT_take (g := g) hlt)
      obtain ⟨d1, d2⟩ := tdiv_range (g := g) k1 k2 (by omega)
      have hTl : (divT (t.take i) g).length ≤ 64 := by simp [divT]; omega
      generalize t[i].1 = vv at *
      generalize t[i].2 = kk at *
      generalize hT' : divT (t.take (i + 1)) g = T' at *
      have HT' := Lib.hid hT'
      clear hT'
      generalize divT (t.take i) g = T at *
      have K3 := Lib.hid k3
      clear k3
      have hzr : w6.heap.size ≤ wr.heap.size := hst.out.2.2.2
      have x0 := ((Chg.refl No wr).alloc (.cells #[.int .i64 vv, .int .i64 kk] 49)).cell m1 id
      have HG : Hid (∀ w7 A2 cap2, OwnL monoV 49 (fun q => w6.heap.size ≤ q) No w7 (.slice A2 (T.length + 1) cap2) (T ++ [(vv, Int.tdiv kk g)]) → Chg (fun q => vT.ownBlock = some q) wr w7 →
          (w7.cell? ⟨w5.heap.size, 1, none⟩ = some vT ∧ w7.frozen? ⟨w5.heap.size, 1, none⟩ = false) ∧ Hid ((w7.setCell ⟨w5.heap.size, 1, none⟩ (.slice A2 (T.length + 1) cap2)).heap[w5.heap.size]? = some (.cells #[.int .i64 u, .slice A2 (T.length + 1) cap2] 24 (0, 0)) ∧
            OwnL monoV 49 (fun q => w6.heap.size ≤ q) No (w7.setCell ⟨w5.heap.size, 1, none⟩ (.slice A2 (T.length + 1) cap2)) (.slice A2 (T.length + 1) cap2) T' ∧ Chg No w3 (w7.setCell ⟨w5.heap.size, 1, none⟩ (.slice A2 (T.length + 1) cap2)) ∧ w6.heap.size ≤ (w7.setCell ⟨w5.heap.size, 1, none⟩ (.slice A2 (T.length + 1) cap2)).heap.size)) := fun w7 A2 cap2 g1 g2 => by
        have hmine : ∀ q, vT.ownBlock = some q → w6.heap.size ≤ q := fun q hq => (hst.out.2.1.mine q hq).1
        have o7 := g2.obj hst.out.1 (fun e => by have := hmine _ e; omega)
        have hs := (Chg.refl (fun q => q = w5.heap.size) w7).setCell ⟨w5.heap.size, 1, none⟩ (.slice A2 (T.length + 1) cap2) (fun _ => rfl)
        have z3 := H5.out.size
        have z6 := h6.out.1.size
        refine ⟨⟨(objtwo o7).2, objfrozen o7 1⟩, objset _ o7, ?_, ?_, ?_⟩
        · rw [HTK.out]
          exact g1.chg monoV_good hs (fun k hk e => by have := (g1.mine k hk).1; omega) (fun k hk _ => hk.elim)
        · exact chgpast (chgpast hst.out.2.2.1 g2 (fun k hk => by have := hmine k hk; omega)) hs (fun k hk => by omega)
        · have := g2.size; have := hs.size; omega
      have HOW : Hid (OwnL monoV 49 (fun q => w6.heap.size ≤ q) No wr vT T) := hst.out.2.1
      have HSZ : Hid (∀ q, wr.heap.size ≤ q → w6.heap.size ≤ q) := fun q hq => by omega
      have HNW : Hid (∀ j u, [Value.int .i64 vv, .int .i64 (Int.tdiv kk g)][j]? = some u → ((wr.alloc (.cells #[.int .i64 vv, .int .i64 kk] 49)).alloc (.cells #[.int .i64 vv, .int .i64 (Int.tdiv kk g)] 49)).cell? ((⟨wr.heap.size + 1, 0, none⟩ : Addr).add j) = some u) :=
        news_of (cs := [.int .i64 vv, .int .i64 (Int.tdiv kk g)]) (t := 49) (fr := (0, 0)) (at_new (by simp))
      clear hst HTK HPO HLN HC HD HUp
      go_wp2_with fail
      have x1 := ((Chg.refl No (wr.alloc (.cells #[.int .i64 vv, .int .i64 kk] 49))).alloc (.cells #[.int .i64 vv, .int .i64 (Int.tdiv kk g)] 49)).cell x0 id
      have hgN : g ≠ 0 := by omega
      have hwm : IntKind.i64.wrap (Int.tdiv kk g) = Int.tdiv kk g := by rw [IntKind.wrap_i64]; omega
      go_region_law
        ((refine step_pushL monoV_good monosTyN (by rfl) (.tmp 41) (.tmp 49) (by rfl) (M := fun q => w6.heap.size ≤ q) (R := No) (w := wr) HSZ.out HOW.out (by rfl) (mono_of (m := (vv, Int.tdiv kk g)) K3.out (I64.of (show -9000000000000000000 ≤ Int.tdiv kk g by omega) (show Int.tdiv kk g ≤ 9000000000000000000 by omega))) (by simp [Value.oneCell']) (a := ⟨wr.heap.size + 1, 0, none⟩) ((((Chg.refl No wr).alloc (.cells #[.int .i64 vv, .int .i64 kk] 49)).alloc (.cells #[.int .i64 vv, .int .i64 (Int.tdiv kk g)] 49)).drew) HNW.out (by rfl) (show (T.length + 1) * 16 ≤ 140737488355328 by omega) ?_; intro A2 cap2 w7 g1 g2; obtain ⟨⟨f1, f2⟩, G8⟩ := HG.out w7 A2 cap2 g1 g2; clear g1 g2))
      all_goals
        go_wp2
        go_roundw
        case rel =>
          repeat apply Exists.intro
          first
            | (refine ⟨?_, rfl⟩; exact ⟨i + 1, _, by go_num, hlt, by rw [HT'.out]; exact G8⟩)
            | exact ⟨by go_num, hlt, by rw [HT'.out]; exact G8⟩
        case measure => simp [intOf]; omega
    · obtain rfl : i = t.length := by omega
      rw [List.take_of_length_le (Nat.le_refl _)] at hst
      obtain ⟨AT, capT, rfl⟩ : ∃ AT capT, vT = .slice AT t.length capT := by
        obtain ⟨AT, capT, e, _⟩ := hst.out.2.1.value
        rw [HLN.out] at e
        exact ⟨AT, capT, e⟩
      have hmo : Monos (fun q => w6.heap.size ≤ q) wr AT (divT t g) capT := (hst.out.2.1.sl_of monoV_good (by have := HLN.out; show (divT t g).length * 16 ≤ big; unfold big; omega)).2.mono monoE_good (fun k _ hk => hk.elim id (fun f => f.elim))
      obtain ⟨hp0, hp1⟩ := HPO.out
      obtain ⟨b, o, rfl, _, y1⟩ := hmo.mono_at 0 hp0
      have y2 : wr.cell? ⟨b, o + 1, none⟩ = some (.int .i64 (divT t g)[0].2) := by simpa using y1
      generalize (divT t g)[0].2 = d0 at *
      have i1 : (0 : Int) < (t.length : Int) := by omega
      have hd : decide (0 < d0) = true := by simpa using hp1
      have o2 := hst.out.2.2.1.obj h3.out.2.2.1 id
      obtain ⟨r0, r1, r2, r3⟩ : wr.cell? ⟨w.heap.size + 1, 0, none⟩ = some (.int .i64 0) ∧ wr.cell? ⟨w.heap.size + 1, 1, none⟩ = some (.int .i64 0) ∧ wr.cell? ⟨w.heap.size + 1, 2, none⟩ = some (.slice none 0 0) ∧ wr.cell? ⟨w.heap.size + 1, 3, none⟩ = some (.slice none 0 0) := by simp [World.cell?, o2]
      have f0 := objfrozen o2 0
      have f1 := objfrozen o2 1
      have f2 := objfrozen o2 2
      have f3 := objfrozen o2 3
      have HFIN : Hid (∀ W, (((wr.setCell ⟨w.heap.size + 1, 0, none⟩ (.int .i64 2)).setCell ⟨w.heap.size + 1, 1, none⟩ (.int .i64 u)).setCell ⟨w.heap.size + 1, 2, none⟩ (.slice (some ⟨b, o, none⟩) t.length capT)).setCell ⟨w.heap.size + 1, 3, none⟩ (.slice none 0 0) = W →
          Monos (fun k => w.heap.size ≤ k) W (some ⟨b, o, none⟩) (divT t g) capT ∧ Chg No w W) := fun W hW => by
        subst hW
        have hs : Chg (fun k => k = w.heap.size + 1) wr ((((wr.setCell ⟨w.heap.size + 1, 0, none⟩ (.int .i64 2)).setCell ⟨w.heap.size + 1, 1, none⟩ (.int .i64 u)).setCell ⟨w.heap.size + 1, 2, none⟩ (.slice (some ⟨b, o, none⟩) t.length capT)).setCell ⟨w.heap.size + 1, 3, none⟩ (.slice none 0 0)) :=
          ((((Chg.refl (fun k => k = w.heap.size + 1) _).setCell _ _ (fun _ => rfl)).setCell _ _ (fun _ => rfl)).setCell _ _ (fun _ => rfl)).setCell _ _ (fun _ => rfl)
        exact ⟨(hmo.chg monoE_good hs (fun k hk e => by omega)).mono monoE_good (fun k _ hk => by omega), chgpast (h3.out.1.thenNo hst.out.2.2.1) hs (fun k hk => by omega)⟩
      clear hst hmo HPO HLN hp1 y1 o2 h3 h6 HT HC HD HUp HKR
      go_wp2_with fail
      exact bodyPost_ret (v := .tuple #[.agg #[.int .i64 2, .int .i64 u, .slice (some ⟨b, o, none⟩) t.length capT, .slice none 0 0], .nilIface]) (by simp [results, Try.results70, go_sem, r0, r1, r2, r3]) rfl ⟨_, _, rfl, HFIN.out _ rfl⟩
end Go.Proofs.Ytlejcnbpodmleaa
