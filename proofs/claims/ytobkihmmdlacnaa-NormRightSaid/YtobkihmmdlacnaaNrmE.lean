/-
  The reference's Literal.
-/
import Derived.Test.YtobkihmmdlacnaaNrmD
import Derived.Test.YtobkihmmdlacnaaLinE
import Derived.Deep.RegionHeldLaw
import Derived.Deep.RegionLaw
namespace Go.Proofs.Ytobkihmmdlacnaa
open Go Go.RowKit

def leaf2 (kd : Int) : FT 2 := ⟨kd, (0, []), []⟩
def le2 (l : Lin) : FT 2 := ⟨2, l, []⟩
def le1 (l : Lin) : FT 1 := ⟨2, l, []⟩
def not2 (l : Lin) : FT 2 := ⟨4, (0, []), [le1 l]⟩
def litErr (c : Int) (t : List Mono) : Int :=
  if linB c t = true then (if t.length = 0 then 0 else if 0 < ((divT t (gcdN t)).getD 0 (0, 0)).2 then 0 else if coefB (1 - upI c (gcdN t)) = true then 0 else 3) else 5
def litForm (c : Int) (t : List Mono) : FT 2 :=
  if linB c t = true then (if t.length = 0 then (if c ≤ 0 then leaf2 0 else leaf2 1) else if 0 < ((divT t (gcdN t)).getD 0 (0, 0)).2 then le2 (upI c (gcdN t), divT t (gcdN t))
    else if coefB (1 - upI c (gcdN t)) = true then not2 (1 - upI c (gcdN t), scale (-1) (divT t (gcdN t))) else leaf2 0) else leaf2 0
/-- What Literal answers; E: its second answer. -/
def LitRet (w : World) (f : FT 2) (E : Value) (e : Ending) (w' : World) : Prop :=
  ∃ cs', e = .returned (.tuple #[.agg cs'.toArray, E]) ∧ (formV 2) (fun k => w.heap.size ≤ k) w' cs' f ∧ Chg No w w'
theorem leaf2_ret {w w' : World} (kd : Int) (E : Value) (hk : I64 kd) (h : Chg No w w') : LitRet w (leaf2 kd) E (.returned (.tuple #[.agg #[.int .i64 kd, .int .i64 0, .slice none 0 0, .slice none 0 0], E])) w' :=
  ⟨[.int .i64 kd, .int .i64 0, .slice none 0 0, .slice none 0 0], rfl, ⟨none, 0, none, 0, rfl, hk, by show I64 0; unfold I64; decide, Sl.empty, Sl.empty⟩, h⟩
theorem set4_chg (p : Nat) (w : World) (u0 u1 u2 u3 : Value) : Chg (fun k => k = p) w ((((w.setCell ⟨p, 0, none⟩ u0).setCell ⟨p, 1, none⟩ u1).setCell ⟨p, 2, none⟩ u2).setCell ⟨p, 3, none⟩ u3) :=
  ((((Chg.refl (fun k => k = p) _).setCell _ _ (fun _ => rfl)).setCell _ _ (fun _ => rfl)).setCell _ _ (fun _ => rfl)).setCell _ _ (fun _ => rfl)
theorem obj_frm {w : World} {b : Nat} {x y z u : Value} {t : TypeId} (h : w.heap[b]? = some (.cells #[x, y, z, u] t (0, 0))) :
    (w.cell? ⟨b, 0, none⟩ = some x ∧ w.cell? ⟨b, 1, none⟩ = some y ∧ w.cell? ⟨b, 2, none⟩ = some z ∧ w.cell? ⟨b, 3, none⟩ = some u) ∧ (w.frozen? ⟨b, 0, none⟩ = false ∧ w.frozen? ⟨b, 1, none⟩ = false ∧ w.frozen? ⟨b, 2, none⟩ = false ∧ w.frozen? ⟨b, 3, none⟩ = false) := by
  simp [World.cell?, World.frozen?, h]

set_option maxRecDepth 100000 in
set_option maxHeartbeats 4000000 in
theorem refLiteral_any {R : Nat → Prop} {w : World} (c : Int) {A : Option Addr} {t : List Mono} {cap : Nat} (ht : Monos R w A t cap) :
    Calls Try.prog 11 #[.agg #[.int .i64 c, .slice A t.length cap]] w (LitRet w (litForm c t) (.int .i64 (litErr c t))) := by
  have HC := Lib.hid (fun W (h : Chg No w W) => ref01Check_any c (ht.no monoE_good h))
  obtain ⟨w3, hw3⟩ : ∃ w3, w3 = (w.alloc (.cells #[.int .i64 c, .slice A t.length cap] 24)).alloc (.cells #[.int .i64 0, .int .i64 0, .slice none 0 0, .slice none 0 0] 28) := ⟨_, rfl⟩
  have h3 : Hid (Chg No w w3 ∧ w3.heap[w.heap.size]? = some (.cells #[.int .i64 c, .slice A t.length cap] 24 (0, 0)) ∧ w3.heap[w.heap.size + 1]? = some (.cells #[.int .i64 0, .int .i64 0, .slice none 0 0, .slice none 0 0] 28 (0, 0)) ∧ w3.heap.size = w.heap.size + 2) := by
    rw [hw3]; exact ⟨((Chg.refl _ _).alloc _).alloc _, at_old (heap_alloc_new _ _), at_new (by simp), by simp⟩
  have HSET : Hid (∀ W u0 u1 u2 u3, Chg No w3 W → Chg No w ((((W.setCell ⟨w.heap.size + 1, 0, none⟩ u0).setCell ⟨w.heap.size + 1, 1, none⟩ u1).setCell ⟨w.heap.size + 1, 2, none⟩ u2).setCell ⟨w.heap.size + 1, 3, none⟩ u3)) := fun W u0 u1 u2 u3 hW =>
    chgpast (h3.out.1.thenNo hW) (set4_chg _ W u0 u1 u2 u3) (fun k hk => by omega)
  cases hB : linB c t
  · rw [hB] at HC
    have e1 : litErr c t = 5 := by unfold litErr; rw [hB]; rfl
    have e2 : litForm c t = leaf2 0 := by unfold litForm; rw [hB]; rfl
    rw [e1, e2]
    clear e1 e2 ht hB
    go_enter Try.func11, Try.ntmps11
    go_upto_region 1 with fail
    rw [← hw3]
    clear hw3
    obtain ⟨p0, p1⟩ := objtwo h3.out.2.1
    go_wp2_with (go_at_call 28; refine (HC.out _ h3.out.1).mono ?_; rintro e w4 ⟨rfl, h4⟩; have H4 := Lib.hid h4; obtain ⟨⟨r0, r1, r2, r3⟩, f0, f1, f2, f3⟩ := obj_frm (h4.obj h3.out.2.2.1 id); clear h4)
    refine bodyPost_ret (v := .tuple #[.agg #[.int .i64 0, .int .i64 0, .slice none 0 0, .slice none 0 0], .int .i64 5]) (by simp [results, Try.results11, go_sem, r0, r1, r2, r3]) rfl (leaf2_ret 0 _ (by unfold I64; decide) (HSET.out _ _ _ _ _ H4.out))
  by_cases hl : t.length = 0
  · rw [hB] at HC
    have h0 : t = [] := List.eq_nil_of_length_eq_zero hl
    have e1 : litErr c t = 0 := by unfold litErr; rw [hB, if_pos rfl, if_pos hl]
    have e2 : litForm c t = if c ≤ 0 then leaf2 0 else leaf2 1 := by unfold litForm; rw [hB, if_pos rfl, if_pos hl]
    rw [e1, e2]
    subst h0
    clear e1 e2 ht hB hl
    simp only [List.length_nil] at hw3 h3
    by_cases hc : c ≤ 0
    · rw [if_pos hc]
      have hd : decide (0 < c) = false := by simpa using hc
      clear hc
      go_enter Try.func11, Try.ntmps11
      go_upto_region 1 with fail
      rw [← hw3]
      clear hw3
      obtain ⟨p0, p1⟩ := objtwo h3.out.2.1
      go_wp2_with (go_at_call 28; refine (HC.out _ h3.out.1).mono ?_; rintro e w4 ⟨rfl, h4⟩; have H4 := Lib.hid h4; clear p0 p1; obtain ⟨p0, p1⟩ := objtwo (h4.obj h3.out.2.1 id); obtain ⟨⟨r0, r1, r2, r3⟩, f0, f1, f2, f3⟩ := obj_frm (h4.obj h3.out.2.2.1 id); clear h4)
      refine bodyPost_ret (v := .tuple #[.agg #[.int .i64 0, .int .i64 0, .slice none 0 0, .slice none 0 0], .int .i64 0]) (by simp [results, Try.results11, go_sem, r0, r1, r2, r3]) rfl (leaf2_ret 0 _ (by unfold I64; decide) (HSET.out _ _ _ _ _ H4.out))
    · rw [if_neg hc]
      have hd : decide (0 < c) = true := by simp; omega
      clear hc
      go_enter Try.func11, Try.ntmps11
      go_upto_region 1 with fail
      rw [← hw3]
      clear hw3
      obtain ⟨p0, p1⟩ := objtwo h3.out.2.1
      go_wp2_with (go_at_call 28; refine (HC.out _ h3.out.1).mono ?_; rintro e w4 ⟨rfl, h4⟩; have H4 := Lib.hid h4; clear p0 p1; obtain ⟨p0, p1⟩ := objtwo (h4.obj h3.out.2.1 id); obtain ⟨⟨r0, r1, r2, r3⟩, f0, f1, f2, f3⟩ := obj_frm (h4.obj h3.out.2.2.1 id); clear h4)
      refine bodyPost_ret (v := .tuple #[.agg #[.int .i64 1, .int .i64 0, .slice none 0 0, .slice none 0 0], .int .i64 0]) (by simp [results, Try.results11, go_sem, r0, r1, r2, r3]) rfl (leaf2_ret 1 _ (by unfold I64; decide) (HSET.out _ _ _ _ _ H4.out))
  have hne : 0 < t.length := by omega
  have HT := Lib.hid (fun W (h : Chg No w W) => ht.no monoE_good h)
  have HD := Lib.hid (fun W (h : Chg No w W) => ref01Gcd_any (c := c) (ht.no monoE_good h) (linB_coef hB))
  rw [hB] at HC
  have hg := gcdN_pos hB hne
  have hlu := linB_div hB hne
  obtain ⟨hcB, hl64, hall⟩ := linB_sound hB
  have hgl : gcdN t ≤ 1073741824 := gcdN_le (linB_coef hB)
  obtain ⟨c1, c2⟩ := coefB_le hcB
  have HUp := Lib.hid (fun W => refUp_any c (gcdN t) W c1 c2 (by omega) (by omega))
  obtain ⟨u1, u2⟩ := up_coef (c := c) (g := (gcdN t : Int)) (by omega) c1 c2
  have HKR : Hid (∀ i (h : i < t.length), (-1073741824 ≤ t[i].2 ∧ t[i].2 ≤ 1073741824) ∧ I64 t[i].1) := fun i h => ⟨coefB_le (hall i h).2.1, by
    have := varB_le (hall i h).1
    exact I64.of (by omega) (by omega)⟩
  have hlen : (divT t (gcdN t)).length = t.length := by simp [divT]
  have HLN := Lib.hid hlen
  obtain ⟨er, her⟩ : ∃ er, er = litErr c t := ⟨_, rfl⟩
  obtain ⟨ff, hff⟩ : ∃ ff, ff = litForm c t := ⟨_, rfl⟩
  rw [← her, ← hff]
  unfold litErr at her
  unfold litForm at hff
  rw [hB, if_pos rfl, if_neg hl] at her hff
  have HER := Lib.hid her
  have HFF := Lib.hid hff
  have HLU := Lib.hid hlu
  clear hlen hall hcB hB ht her hff hlu hl
  generalize upI c (gcdN t) = u at *
  generalize gcdN t = g at *
  have e0 : ((t.length : Int) == 0) = false := by rw [beq_eq_false_iff_ne]; omega
  go_enter Try.func11, Try.ntmps11
  go_upto_region 1 with fail
  rw [← hw3]
  clear hw3
  obtain ⟨p0, p1⟩ := objtwo h3.out.2.1
  go_upto_region 10 with (first
    | (go_at_call 28; refine (HC.out _ h3.out.1).mono ?_; rintro e w4 ⟨rfl, h4⟩; have H4 := Lib.hid h4; obtain ⟨q0, q1⟩ := objtwo (h4.obj h3.out.2.1 id); clear h4)
    | (go_at_call 29; refine (HD.out _ (h3.out.1.thenNo H4.out)).mono ?_; rintro e w5 ⟨rfl, h5⟩; have H5 := Lib.hid (H4.out.thenNo h5); obtain ⟨r0, r1⟩ := objtwo (H5.out.obj h3.out.2.1 id); clear h5)
    | (go_at_call 30; refine (HUp.out _).mono ?_; rintro e w6 ⟨rfl, rfl⟩))
  obtain ⟨w6, hw6⟩ : ∃ w6, w6 = w5.alloc (.cells #[.int .i64 u, .slice none 0 0] 24) := ⟨_, rfl⟩
  rw [← hw6]
  have h6 : Hid (Chg No w3 w6 ∧ w6.heap[w5.heap.size]? = some (.cells #[.int .i64 u, .slice none 0 0] 24 (0, 0)) ∧ w6.heap.size = w5.heap.size + 1 ∧ w.heap.size + 2 ≤ w5.heap.size) := by
    rw [hw6]
    exact ⟨H5.out.alloc _, heap_alloc_new _ _, by simp, by have := H5.out.size; have := h3.out.2.2.2; omega⟩
  clear hw6 p0 p1 q0 q1 r0 r1
  have hz5 : w.heap.size + 2 ≤ w5.heap.size := h6.out.2.2.2
  have hz6 : w5.heap.size < w6.heap.size := by have := h6.out.2.2.1; omega
  go_wp2_with fail
  go_loopw [7] (fun s7 wr => ∃ (i : Nat) (vT : Value), s7 = .int .i64 i ∧ i ≤ t.length ∧ Hid (wr.heap[w5.heap.size]? = some (.cells #[.int .i64 u, vT] 24 (0, 0)) ∧ OwnL monoV 51 (fun q => w6.heap.size ≤ q) No wr vT (divT (t.take i) g) ∧ Chg No w3 wr ∧ w6.heap.size ≤ wr.heap.size)) (fun s7 _ => t.length - (intOf s7).toNat)
  case atStart => exact ⟨0, _, rfl, Nat.zero_le _, h6.out.2.1, OwnL.nil _ _ _ _ _, h6.out.1, Nat.le_refl _⟩
  case round =>
    obtain ⟨i, vT, rfl, gi, hst⟩ := hrel
    obtain ⟨m0, m1⟩ := objtwo hst.out.1
    obtain ⟨p0, p1⟩ := objtwo (hst.out.2.2.1.obj h3.out.2.1 id)
    by_cases hlt : i < t.length
    · obtain ⟨b, o, rfl, hx0, hx1⟩ := (HT.out wr (h3.out.1.thenNo hst.out.2.2.1)).mono_at i hlt
      have hbl : b < w.heap.size := by
        obtain ⟨b', o', e, z0, _⟩ := (HT.out w (Chg.refl _ _)).mono_at i hlt
        cases e
        exact cell_lt z0
      have i0 : (0 : Int) ≤ (i : Int) := by omega
      have i1 : (i : Int) < (t.length : Int) := by omega
      obtain ⟨⟨k1, k2⟩, k3⟩ := HKR.out i hlt
      have HTK := Lib.hid (divT_take (g := g) hlt)
      obtain ⟨d1, d2⟩ := tdiv_range (g := g) k1 k2 (by omega)
      have hTl : (divT (t.take i) g).length ≤ 64 := by simp [divT]; omega
      generalize t[i].1 = vv at *
      generalize t[i].2 = kk at *
      generalize hT' : divT (t.take (i + 1)) g = T' at *
      have HT' := Lib.hid hT'
      clear hT'
      generalize divT (t.take i) g = T at *
      have K3 := Lib.hid k3
      clear k3
      have hzr : w6.heap.size ≤ wr.heap.size := hst.out.2.2.2
      have HG : Hid (∀ w7 A2 cap2, OwnL monoV 51 (fun q => w6.heap.size ≤ q) No w7 (.slice A2 (T.length + 1) cap2) (T ++ [(vv, Int.tdiv kk g)]) → Chg (fun q => vT.ownBlock = some q) wr w7 →
          (w7.cell? ⟨w5.heap.size, 1, none⟩ = some vT ∧ w7.frozen? ⟨w5.heap.size, 1, none⟩ = false) ∧ (w7.cell? ⟨w.heap.size, 1, none⟩ = some (.slice (some ⟨b, o, none⟩) t.length cap) ∧ w7.cell? ⟨b, o + i * 2, none⟩ = some (.int .i64 vv) ∧ w7.cell? ⟨b, o + i * 2 + 1, none⟩ = some (.int .i64 kk)) ∧
          Hid ((w7.setCell ⟨w5.heap.size, 1, none⟩ (.slice A2 (T.length + 1) cap2)).heap[w5.heap.size]? = some (.cells #[.int .i64 u, .slice A2 (T.length + 1) cap2] 24 (0, 0)) ∧
            OwnL monoV 51 (fun q => w6.heap.size ≤ q) No (w7.setCell ⟨w5.heap.size, 1, none⟩ (.slice A2 (T.length + 1) cap2)) (.slice A2 (T.length + 1) cap2) T' ∧ Chg No w3 (w7.setCell ⟨w5.heap.size, 1, none⟩ (.slice A2 (T.length + 1) cap2)) ∧ w6.heap.size ≤ (w7.setCell ⟨w5.heap.size, 1, none⟩ (.slice A2 (T.length + 1) cap2)).heap.size)) := fun w7 A2 cap2 g1 g2 => by
        have hmine : ∀ q, vT.ownBlock = some q → w6.heap.size ≤ q := fun q hq => (hst.out.2.1.mine q hq).1
        have o7 := g2.obj hst.out.1 (fun e => by have := hmine _ e; omega)
        have hs := (Chg.refl (fun q => q = w5.heap.size) w7).setCell ⟨w5.heap.size, 1, none⟩ (.slice A2 (T.length + 1) cap2) (fun _ => rfl)
        have z3 := H5.out.size
        have z6 := h6.out.1.size
        refine ⟨⟨(objtwo o7).2, objfrozen o7 1⟩, ⟨g2.cell p1 (fun e => by have := hmine _ e; omega), g2.cell hx0 (fun e => by have := hmine _ e; omega), g2.cell hx1 (fun e => by have := hmine _ e; omega)⟩, objset _ o7, ?_, ?_, ?_⟩
        · rw [HTK.out]
          exact g1.chg monoV_good hs (fun k hk e => by have := (g1.mine k hk).1; omega) (fun k hk _ => hk.elim)
        · exact chgpast (chgpast hst.out.2.2.1 g2 (fun k hk => by have := hmine k hk; omega)) hs (fun k hk => by omega)
        · have := g2.size; have := hs.size; omega
      have HOW : Hid (OwnL monoV 51 (fun q => w6.heap.size ≤ q) No wr vT T) := hst.out.2.1
      have HSZ : Hid (∀ q, wr.heap.size ≤ q → w6.heap.size ≤ q) := fun q hq => by omega
      have x1 := ((Chg.refl No wr).alloc (.cells #[.int .i64 vv, .int .i64 (Int.tdiv kk g)] 51)).cell m1 id
      have hgN : g ≠ 0 := by omega
      have hwm : IntKind.i64.wrap (Int.tdiv kk g) = Int.tdiv kk g := by rw [IntKind.wrap_i64]; omega
      clear hst HTK HLN HC HD HUp HER HFF HLU HKR HT
      go_wp2_with fail
      go_region_law
        ((refine step_pushL monoV_good monosTyN (by rfl) (.tmp 38) (.tmp 54) (by rfl) (M := fun q => w6.heap.size ≤ q) (R := No) (w := wr) (v := vT) (l := T) (x := (vv, Int.tdiv kk g)) (cs := [.int .i64 vv, .int .i64 (Int.tdiv kk g)]) HSZ.out HOW.out (by rfl) (mono_of (m := (vv, Int.tdiv kk g)) K3.out (I64.of (show -9000000000000000000 ≤ Int.tdiv kk g by omega) (show Int.tdiv kk g ≤ 9000000000000000000 by omega))) (by simp [Value.oneCell']) (a := ⟨wr.heap.size, 0, none⟩) (((Chg.refl No wr).drewN _).alloc (.cells #[.int .i64 vv, .int .i64 (Int.tdiv kk g)] 51)) (news_alloc _ [.int .i64 vv, .int .i64 (Int.tdiv kk g)] 51) (by rfl) (show (T.length + 1) * 16 ≤ 140737488355328 by omega) ?_; intro A2 cap2 w7 g1 g2; obtain ⟨⟨f1, f2⟩, _, G8⟩ := HG.out w7 A2 cap2 g1 g2; clear g1 g2))
      all_goals
        go_wp2
        go_roundw
        case rel =>
          repeat apply Exists.intro
          first
            | (refine ⟨?_, rfl⟩; exact ⟨i + 1, _, by go_num, hlt, by rw [HT'.out]; exact G8⟩)
            | exact ⟨by go_num, hlt, by rw [HT'.out]; exact G8⟩
        case measure => simp [intOf]; omega
    · obtain rfl : i = t.length := by omega
      rw [List.take_of_length_le (Nat.le_refl _)] at hst
      have hLNx := HLN.out
      obtain ⟨AT, capT, rfl⟩ : ∃ AT capT, vT = .slice AT t.length capT := by
        obtain ⟨AT, capT, e, _⟩ := hst.out.2.1.value
        rw [hLNx] at e
        exact ⟨AT, capT, e⟩
      have hmo : Monos (fun q => w6.heap.size ≤ q) wr AT (divT t g) capT := (hst.out.2.1.sl_of monoV_good (by show (divT t g).length * 16 ≤ big; unfold big; omega)).2.mono monoE_good (fun k _ hk => hk.elim id (fun f => f.elim))
      have hp0 : 0 < (divT t g).length := by omega
      obtain ⟨b, o, rfl, _, y1⟩ := hmo.mono_at 0 hp0
      have y2 : wr.cell? ⟨b, o + 1, none⟩ = some (.int .i64 (divT t g)[0].2) := by simpa using y1
      have hd0 : ((divT t g).getD 0 (0, 0)).2 = (divT t g)[0].2 := by rw [List.getD_eq_getElem?_getD, List.getElem?_eq_getElem hp0]; rfl
      rw [hd0] at HER HFF
      clear hd0 y1
      have HMO := Lib.hid hmo
      have HSL := Lib.hid (linB_sound HLU.out)
      clear hmo
      generalize hdd : (divT t g)[0].2 = d0 at *
      clear hdd hLNx
      generalize hTT : divT t g = TT at *
      clear hTT
      have j1 : (0 : Int) < (t.length : Int) := by omega
      have o2 := hst.out.2.2.1.obj h3.out.2.2.1 id
      obtain ⟨⟨r0, r1, r2, r3⟩, f0, f1, f2, f3⟩ := obj_frm o2
      have HCH := Lib.hid (h3.out.1.thenNo hst.out.2.2.1)
      have HCH3 := Lib.hid hst.out.2.2.1
      have HWZ := Lib.hid hst.out.2.2.2
      have HOB2 := Lib.hid o2
      have HB3 := Lib.hid h3.out.2.2.1
      have HSZ3 := Lib.hid h3.out.2.2.2
      have HOM := Lib.hid hst.out.1
      clear hst o2 HC HD HUp HKR HT H4 H5 h6 h3
      by_cases hdp : 0 < d0
      · have he : er = 0 := by rw [HER.out, if_pos hdp]
        have hf : ff = le2 (u, TT) := by rw [HFF.out, if_pos hdp]
        subst he
        have hd : decide (0 < d0) = true := by simpa using hdp
        have HFIN : Hid (∀ W, (((wr.setCell ⟨w.heap.size + 1, 0, none⟩ (.int .i64 2)).setCell ⟨w.heap.size + 1, 1, none⟩ (.int .i64 u)).setCell ⟨w.heap.size + 1, 2, none⟩ (.slice (some ⟨b, o, none⟩) t.length capT)).setCell ⟨w.heap.size + 1, 3, none⟩ (.slice none 0 0) = W →
            LitRet w ff (.int .i64 0) (.returned (.tuple #[.agg #[.int .i64 2, .int .i64 u, .slice (some ⟨b, o, none⟩) t.length capT, .slice none 0 0], .int .i64 0])) W) := fun W hW => by
          subst hW
          rw [hf]
          refine ⟨[.int .i64 2, .int .i64 u, .slice (some ⟨b, o, none⟩) t.length capT, .slice none 0 0], rfl, ⟨some ⟨b, o, none⟩, capT, none, 0, by rw [← HLN.out]; rfl, by show I64 2; unfold I64; decide, I64.of (show -9000000000000000000 ≤ u by omega) (show u ≤ 9000000000000000000 by omega), ?_, Sl.empty⟩, HSET.out wr _ _ _ _ HCH3.out⟩
          exact (HMO.out.chg monoE_good (set4_chg (w.heap.size + 1) wr _ _ _ _) (fun k hk e => by omega)).mono monoE_good (fun k _ hk => by omega)
        clear HER HFF hf hdp HMO HSL HCH HOB2 HLN HLU
        go_wp2_with fail
        exact bodyPost_ret (v := .tuple #[.agg #[.int .i64 2, .int .i64 u, .slice (some ⟨b, o, none⟩) t.length capT, .slice none 0 0], .int .i64 0]) (by simp [results, Try.results11, go_sem, r0, r1, r2, r3]) rfl (HFIN.out _ rfl)
      · have hd : decide (0 < d0) = false := by simpa using hdp
        rw [if_neg hdp] at HER HFF
        have HTi : Hid (∀ W, Chg No wr W → Calls Try.prog 31 #[.agg #[.int .i64 u, .slice (some ⟨b, o, none⟩) t.length capT], .int .i64 (-1)] W (MonosRet W (scale (-1) TT))) := fun W hW => by
          have := ref01Times_any (w := W) u (HMO.out.no monoE_good hW) (-1) (by have := HLN.out; omega) (fun m hm => by
            obtain ⟨i, hi, rfl⟩ := List.getElem_of_mem hm
            have := coefB_le (HSL.out.2.2 i hi).2.1
            omega)
          rw [HLN.out] at this
          exact this
        have HCo := Lib.hid (fun W => refCoef_any (1 - u) W)
        obtain ⟨sT, hsT⟩ : ∃ sT, sT = scale (-1) TT := ⟨_, rfl⟩
        have hsl : sT.length = t.length := by rw [hsT, scale_len]; exact HLN.out
        have HSL2 := Lib.hid hsl
        rw [← hsT] at HTi HFF
        clear hsT hsl hdp HMO HSL HLN HLU
        obtain ⟨m0, m1⟩ := objtwo HOM.out
        have HT2 : Hid (∀ W, Chg No wr W → Calls Try.prog 31 #[.agg #[.int .i64 u, .slice (some ⟨b, o, none⟩) t.length capT], .int .i64 (-1)] W fun e w' => ∃ AN capN, e = .returned (.slice AN t.length capN) ∧ Hid (Monos (fun k => W.heap.size ≤ k) w' AN sT capN) ∧ Hid (Chg No wr w') ∧ (w'.cell? ⟨w5.heap.size, 0, none⟩ = some (.int .i64 u) ∧ w'.cell? ⟨w5.heap.size, 1, none⟩ = some (.slice (some ⟨b, o, none⟩) t.length capT)) ∧
            Hid (∀ p : Nat, W.heap[p]? = some (.cells #[.int .i64 0, .slice none 0 0] 24 (0, 0)) → w'.heap[p]? = some (.cells #[.int .i64 0, .slice none 0 0] 24 (0, 0)))) := fun W hW => by
          refine (HTi.out W hW).mono ?_
          rintro e w' ⟨v, rfl, g, hc⟩
          obtain ⟨AN, capN, e', hs⟩ := g.sl monoV_good (by show sT.length * 16 ≤ big; have := HSL2.out; unfold big; omega)
          have hl2 : sT.length = t.length := HSL2.out
          rw [hl2] at e'
          have hc2 := hW.thenNo hc
          exact ⟨AN, capN, by rw [e'], hs.mono monoE_good (fun k _ hk => hk.elim id (fun f => f.elim)), hc2, objtwo (hc2.obj HOM.out id), fun p hp => hc.obj hp id⟩
        have HZL : Hid (∀ (p : Nat) (W : World), W.heap[p]? = some (.cells #[.int .i64 0, .slice none 0 0] 24 (0, 0)) → (W.cell? ⟨p, 0, none⟩ = some (.int .i64 0) ∧ W.cell? ⟨p, 1, none⟩ = some (.slice none 0 0)) ∧ W.frozen? ⟨p, 0, none⟩ = false ∧ W.frozen? ⟨p, 1, none⟩ = false) := fun p W h => ⟨objtwo h, objfrozen h 0, objfrozen h 1⟩
        have hzr : w6.heap.size ≤ wr.heap.size := by have := HWZ.out; omega
        have HA : Hid (∀ AN capN w8, Hid (Monos (fun k => wr.heap.size ≤ k) w8 AN sT capN) → Hid (Chg No wr w8) → Hid ((w8.alloc (.cells #[.int .i64 (1 - u), .slice AN t.length capN] 24)).heap[w8.heap.size]? = some (.cells #[.int .i64 (1 - u), .slice AN t.length capN] 24 (0, 0)) ∧ Monos (fun k => w6.heap.size ≤ k) (w8.alloc (.cells #[.int .i64 (1 - u), .slice AN t.length capN] 24)) AN sT capN ∧ Chg No w3 (w8.alloc (.cells #[.int .i64 (1 - u), .slice AN t.length capN] 24)))) := fun AN capN w8 g1 g2 =>
          ⟨heap_alloc_new _ _, (g1.out.mono monoE_good (fun k _ h => by omega)).no monoE_good ((Chg.refl _ _).alloc _), (HCH3.out.thenNo g2.out).alloc _⟩
        have HBB : Hid (∀ (p : Nat) AN capN w8, p = wr.heap.size → Hid (Monos (fun k => (wr.alloc (.cells #[.int .i64 0, .slice none 0 0] 24)).heap.size ≤ k) w8 AN sT capN) → Hid (Chg No wr w8) → w8.heap[p]? = some (.cells #[.int .i64 0, .slice none 0 0] 24 (0, 0)) → ∀ W, (w8.setCell ⟨p, 0, none⟩ (.int .i64 (1 - u))).setCell ⟨p, 1, none⟩ (.slice AN t.length capN) = W →
            Hid (W.heap[p]? = some (.cells #[.int .i64 (1 - u), .slice AN t.length capN] 24 (0, 0)) ∧ Monos (fun k => w6.heap.size ≤ k) W AN sT capN ∧ Chg No w3 W)) := fun p AN capN w8 hp g1 g2 g3 W hW => by
          subst hW; subst hp
          have hs : Chg (fun k => k = wr.heap.size) w8 ((w8.setCell ⟨wr.heap.size, 0, none⟩ (.int .i64 (1 - u))).setCell ⟨wr.heap.size, 1, none⟩ (.slice AN t.length capN)) := ((Chg.refl (fun k => k = wr.heap.size) _).setCell _ _ (fun _ => rfl)).setCell _ _ (fun _ => rfl)
          have e : (wr.alloc (.cells #[.int .i64 0, .slice none 0 0] 24)).heap.size = wr.heap.size + 1 := by simp
          have z3 := HCH3.out.size
          refine ⟨objset (j := 1) _ (objset (j := 0) _ g3), (g1.out.chg monoE_good hs (fun k hk e2 => by omega)).mono monoE_good (fun k _ h => by omega), chgpast (HCH3.out.thenNo g2.out) hs (fun k hk => by omega)⟩
        go_upto_region 16 with fail
        go_cut [8] (fun s8 wx => ∃ pb AN capN, s8 = .pointer (some ⟨pb, 0, none⟩) ∧ Hid (wx.heap[pb]? = some (.cells #[.int .i64 (1 - u), .slice AN t.length capN] 24 (0, 0)) ∧ Monos (fun k => w6.heap.size ≤ k) wx AN sT capN ∧ Chg No w3 wx))
        case first =>
          have x0 := ((Chg.refl No wr).alloc (.cells #[.int .i64 0, .slice none 0 0] 24)).cell m0 id
          have x1 := ((Chg.refl No wr).alloc (.cells #[.int .i64 0, .slice none 0 0] 24)).cell m1 id
          have hw1 : IntKind.i64.wrap (1 - u) = 1 - u := by rw [IntKind.wrap_i64]; omega
          clear HER HFF HCH HCo HTi
          go_region_law
            ((first
              | (go_simp; go_at_call 31; refine (HT2.out wr.drew (Chg.refl No wr).drew).mono ?_; rintro e w8 ⟨AN, capN, rfl, G1, G2, ⟨n0, n1⟩, _⟩; have l0 := ((Chg.refl No w8).alloc (.cells #[.int .i64 0, .slice none 0 0] 24)).cell n0 id)
              | (go_simp; go_at_call 31; refine (HT2.out (wr.alloc (.cells #[.int .i64 0, .slice none 0 0] 24)).drew ((Chg.refl No wr).alloc _).drew).mono ?_; rintro e w8 ⟨AN, capN, rfl, G1, G2, ⟨n0, n1⟩, G3⟩; have G4 := G3.out wr.heap.size (heap_alloc_new wr _); obtain ⟨⟨z0, z1⟩, y0, y1⟩ := HZL.out _ w8 G4)))
          all_goals
            go_wp2_with fail
            go_meet
            first
              | exact ⟨_, _, _, rfl, HA.out _ _ _ G1 G2⟩
              | exact ⟨_, _, _, rfl, HBB.out wr.heap.size _ _ _ rfl G1 G2 G4 _ rfl⟩
        case rest =>
          obtain ⟨pb, AN, capN, rfl, GP⟩ := hcut
          clear m0 m1 HA HBB HT2 HTi HZL
          obtain ⟨m0, m1⟩ := objtwo GP.out.1
          obtain ⟨⟨r0, r1, r2, r3⟩, f0, f1, f2, f3⟩ := obj_frm (GP.out.2.2.obj HB3.out id)
          cases hcb : coefB (1 - u)
          · rw [hcb] at HCo
            have he : er = 3 := by rw [HER.out, hcb, if_neg (by decide)]
            have hf : ff = leaf2 0 := by rw [HFF.out, hcb, if_neg (by decide)]
            subst he; subst hf
            clear HER HFF hcb
            go_wp2_with (go_at_call 32; refine (HCo.out _).mono ?_; rintro e w9 ⟨rfl, rfl⟩)
            exact bodyPost_ret (v := .tuple #[.agg #[.int .i64 0, .int .i64 0, .slice none 0 0, .slice none 0 0], .int .i64 3]) (by simp [results, Try.results11, go_sem, r0, r1, r2, r3]) rfl (leaf2_ret 0 _ (by unfold I64; decide) (HSET.out _ _ _ _ _ GP.out.2.2))
          · rw [hcb] at HCo
            have he : er = 0 := by rw [HER.out, hcb, if_pos rfl]
            have hf : ff = not2 (1 - u, sT) := by rw [HFF.out, hcb, if_pos rfl]
            subst he; subst hf
            have hz3 : w3.heap.size = w.heap.size + 2 := HSZ3.out
            have hwc := GP.out.2.2.size
            have hwle : w.heap.size ≤ wc.heap.size := by omega
            have HKB : Hid (Chg No wc (wc.alloc (.cells #[.int .i64 2, .int .i64 (1 - u), .slice AN t.length capN, .slice none 0 0] 28)) ∧ (wc.alloc (.cells #[.int .i64 2, .int .i64 (1 - u), .slice AN t.length capN, .slice none 0 0] 28)).heap[wc.heap.size]? = some (.cells #[.int .i64 2, .int .i64 (1 - u), .slice AN t.length capN, .slice none 0 0] 28 (0, 0))) := ⟨(Chg.refl _ _).alloc _, heap_alloc_new _ _⟩
            obtain ⟨⟨r0, r1, r2, r3⟩, f0, f1, f2, f3⟩ := obj_frm (HKB.out.1.obj (GP.out.2.2.obj HB3.out id) id)
            have HFIN : Hid (∀ W, ((((wc.alloc (.cells #[.int .i64 2, .int .i64 (1 - u), .slice AN t.length capN, .slice none 0 0] 28)).setCell ⟨w.heap.size + 1, 0, none⟩ (.int .i64 4)).setCell ⟨w.heap.size + 1, 1, none⟩ (.int .i64 0)).setCell ⟨w.heap.size + 1, 2, none⟩ (.slice none 0 0)).setCell ⟨w.heap.size + 1, 3, none⟩ (.slice (some ⟨wc.heap.size, 0, none⟩) 1 1) = W →
                LitRet w (not2 (1 - u, sT)) (.int .i64 0) (.returned (.tuple #[.agg #[.int .i64 4, .int .i64 0, .slice none 0 0, .slice (some ⟨wc.heap.size, 0, none⟩) 1 1], .int .i64 0])) W) := fun W hW => by
              subst hW
              have hs := set4_chg (w.heap.size + 1) (wc.alloc (.cells #[.int .i64 2, .int .i64 (1 - u), .slice AN t.length capN, .slice none 0 0] 28)) (.int .i64 4) (.int .i64 0) (.slice none 0 0) (.slice (some ⟨wc.heap.size, 0, none⟩) 1 1)
              obtain ⟨⟨k0, k1, k2, k3⟩, _⟩ := obj_frm (hs.obj HKB.out.2 (fun e => by omega))
              have hmN := ((GP.out.2.1.no monoE_good HKB.out.1).chg monoE_good hs (fun k hk e => by omega)).mono monoE_good (R' := fun k => w.heap.size ≤ k) (fun k _ hk => by omega)
              have hl2 : sT.length = t.length := HSL2.out
              refine ⟨_, rfl, ⟨none, 0, some ⟨wc.heap.size, 0, none⟩, 1, rfl, by show I64 4; unfold I64; decide, by show I64 0; unfold I64; decide, Sl.empty, ⟨Nat.le_refl _, by decide, by show 1 * 64 ≤ big; decide, (fun h => by cases h), fun i hi => ?_⟩⟩, HSET.out _ _ _ _ _ (GP.out.2.2.thenNo HKB.out.1)⟩
              obtain rfl : i = 0 := by
                have : i < 1 := hi
                omega
              refine ⟨wc.heap.size, 0, rfl, hwle, [.int .i64 2, .int .i64 (1 - u), .slice AN t.length capN, .slice none 0 0], rfl, fun j v hj => ?_, ⟨AN, capN, none, 0, by rw [← hl2]; rfl, by show I64 2; unfold I64; decide, I64.of (show -9000000000000000000 ≤ 1 - u by omega) (show 1 - u ≤ 9000000000000000000 by omega), hmN, Sl.empty⟩⟩
              have hj4 : j < 4 := (List.getElem?_eq_some_iff.1 hj).1
              match j, hj4 with
              | 0, _ => simp at hj; subst hj; simpa using k0
              | 1, _ => simp at hj; subst hj; simpa using k1
              | 2, _ => simp at hj; subst hj; simpa using k2
              | 3, _ => simp at hj; subst hj; simpa using k3
            clear HER HFF hcb GP HKB
            go_wp2_with (go_at_call 32; refine (HCo.out _).mono ?_; rintro e w9 ⟨rfl, rfl⟩)
            exact bodyPost_ret (v := .tuple #[.agg #[.int .i64 4, .int .i64 0, .slice none 0 0, .slice (some ⟨w9.heap.size, 0, none⟩) 1 1], .int .i64 0]) (by simp [results, Try.results11, go_sem, r0, r1, r2, r3]) rfl (HFIN.out _ rfl)
end Go.Proofs.Ytobkihmmdlacnaa
