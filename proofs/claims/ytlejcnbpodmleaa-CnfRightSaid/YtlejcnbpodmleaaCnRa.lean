/-
  CnfG, CnfH, CnfI, CnfJ, CnfMks, in one file.
-/
import Derived.Test.YtlejcnbpodmleaaCnfF
import Derived.Test.YtlejcnbpodmleaaProp1
import Derived.Test.YtlejcnbpodmleaaProp5
import Derived.Test.YtlejcnbpodmleaaCode
/- CnfG -/
namespace Go.Proofs.Ytlejcnbpodmleaa
open Go Go.RowKit

def MakeOk (n : Nat) : Prop := ∀ (f : FT n) (X : Nat → Prop) (w : World) (cs : List Value), (formV n) X w cs f → onlyF n f = true → (∀ k, X k → k < w.heap.size) →
  ∀ (A : List Lin) (AA : Option Addr) (capA : Nat), Lins X w AA A capA → ∀ (N : Int) (v : Value) (out : List (List Int)),
    ORows X w v out → A.length ≤ N → N + cntF n f ≤ 100000 → out.length + 2 * cntF n f ≤ 300000 →
    Calls Try.prog 28 #[.agg cs.toArray, .slice AA A.length capA, .int .i64 N, v] w fun e w' => ∃ v', e = .returned (.tuple #[v', .int .i64 (litF n f A N out).1, .int .i64 (litF n f A N out).2.2]) ∧
      ORows X w' v' (litF n f A N out).2.1 ∧ Chg (fun k => ¬ X k) w w'

/-- What the loops hold. -/
structure Lp3 (X1 : Nat → Prop) (w3 : World) (rows : List (List Int)) (ints : List Int) (vK vC : Value) (w : World) : Prop where
  rows : ORows (fun k => X1 k ∨ vK.ownBlock = some k) w vC rows
  kids : OInts 3 (fun k => ¬ X1 k) w vK ints
  chg : Chg (fun k => ¬ X1 k) w3 w

set_option maxRecDepth 100000 in
set_option maxHeartbeats 4000000 in
theorem make_step (n : Nat) (IH : Hid (MakeOk n)) : MakeOk (n + 1) := by
    rintro f X w cs h hon hXs At AA capA hAt N v out hown hAN hN hout
    obtain ⟨A, cap, B, capk, rfl, i1, i2, hm, hk⟩ := node_cells h
    obtain ⟨hok, hkids⟩ := only_kids hon
    have hcnt : cntF (n + 1) f = 1 + ((Node.kids f).map (cntF n)).sum := rfl
    have hb1 := hm.big
    have hb2 := hk.big
    unfold big at hb1 hb2
    obtain ⟨w3, hw3⟩ : ∃ w3, w3 = w.alloc (.cells #[.int .i64 (Node.kind f), .int .i64 (Node.lin f).1, .slice A (Node.lin f).2.length cap, .slice B (Node.kids f).length capk] 27) := ⟨_, rfl⟩
    have h3 : Hid (Chg No w w3 ∧ w3.heap[w.heap.size]? = some (.cells #[.int .i64 (Node.kind f), .int .i64 (Node.lin f).1, .slice A (Node.lin f).2.length cap, .slice B (Node.kids f).length capk] 27 (0, 0))) := by
      rw [hw3]; exact ⟨(Chg.refl _ _).alloc _, heap_alloc_new _ _⟩
    have HW3 := Lib.hid hw3
    clear hw3
    by_cases hk2 : Node.kind f = 2
    · have hlit : litF (n + 1) f At N out = (N, out, atI At (Node.lin f)) := by unfold litF; rw [if_pos hk2]
      rw [hlit]
      have HAt := Lib.hid (at_any (a := Node.lin f) (hAt.no linE_good h3.out.1) (hm.no monoE_good h3.out.1))
      have HS1 := Lib.hid (hown.no rowV_good h3.out.1)
      clear hAt hlit hk hkids hown hXs h hm IH
      rw [hk2] at h3 HW3 ⊢
      generalize atI At (Node.lin f) = ai at *
      generalize Node.lin f = lin at *
      generalize Node.kids f = ks at *
      obtain ⟨c, t⟩ := lin
      simp only at hb1 i2 h3 HW3 HAt ⊢
      go_enter Try.func28, Try.ntmps28
      go_upto_region 1 with fail
      rw [← HW3.out]
      obtain ⟨p0, p1, p2, p3⟩ := obj_four h3.out.2
      go_wp2_with (go_at_call 49; refine HAt.out.mono ?_; rintro e w4 ⟨rfl, h4⟩)
      refine bodyPost_ret (v := .tuple #[v, .int .i64 N, .int .i64 ai]) (by simp [results, Try.results28, go_sem]) rfl ⟨v, rfl, HS1.out.no rowV_good h4, (h3.out.1.thenNo h4).no⟩
    by_cases hk4 : Node.kind f = 4
    · have hl := only_not hok hk4
      have hlt : 0 < (Node.kids f).length := by omega
      obtain ⟨hlit, hc1⟩ := lit_not (A := At) (N := N) (out := out) hk4 hl hlt
      have hkr := litF_range At n (Node.kids f)[0] (hkids _ (List.getElem_mem hlt)) N out hAN
      rw [hlit]
      obtain ⟨b, o, v0, v1, v2, v3, rfl, hv, x0, x1, x2, x3⟩ := forms_at (hk.no (formE_good n) h3.out.1) 0 hlt
      simp only [Nat.zero_mul, Nat.add_zero] at x0 x1 x2 x3
      have HI := Lib.hid (IH.out (Node.kids f)[0] X w3 _ hv (hkids _ (List.getElem_mem hlt)) (fun k hk => Nat.lt_of_lt_of_le (hXs k hk) h3.out.1.size) At AA capA (hAt.no linE_good h3.out.1) N v out (hown.no rowV_good h3.out.1) hAN (by omega) (by omega))
      rw [hk4] at h3 HW3 ⊢
      have j1 : (0 : Int) < ((Node.kids f).length : Int) := by omega
      generalize litF n (Node.kids f)[0] At N out = r at *
      have r1 : -100000 ≤ r.2.2 := by omega
      have r2 : r.2.2 ≤ 100000 := by omega
      clear hAt hlit hk hkids hown hXs h hm IH hkr hc1 hv hlt hl hk4 hk2
      generalize (Node.lin f).1 = c at *
      generalize (Node.lin f).2 = t at *
      generalize (Node.kids f).length = kl at *
      go_enter Try.func28, Try.ntmps28
      go_upto_region 1 with fail
      rw [← HW3.out]
      obtain ⟨p0, p1, p2, p3⟩ := obj_four h3.out.2
      obtain ⟨rN, rO, rK⟩ := r
      simp only at r1 r2 HI ⊢
      go_wp2_with (go_at_call 28; refine HI.out.mono ?_; rintro e w4 ⟨v4, rfl, h4⟩; have H4 := Lib.hid h4; clear h4)
      refine bodyPost_ret (v := .tuple #[v4, .int .i64 rN, .int .i64 (-rK)]) (by simp [results, Try.results28, go_sem]) rfl ⟨v4, rfl, H4.out.1, h3.out.1.no.trans H4.out.2 (fun k hk _ => hk)⟩
    have h01 := only_kind hok
    have hrec : ∀ i (hi : i < (Node.kids f).length), N ≤ (litL n At ((Node.kids f).take i) (N, out, [])).1 ∧ (litL n At ((Node.kids f).take i) (N, out, [])).1 + cntF n (Node.kids f)[i] + 1 ≤ 100000 ∧ (litL n At ((Node.kids f).take i) (N, out, [])).2.1.length + 2 * cntF n (Node.kids f)[i] ≤ 300000 ∧ (litL n At ((Node.kids f).take i) (N, out, [])).2.2.length = i ∧ -100000 ≤ (litL n At ((Node.kids f).take (i + 1)) (N, out, [])).1 ∧ ∀ x ∈ (litL n At ((Node.kids f).take (i + 1)) (N, out, [])).2.2, -100000 ≤ x ∧ x ≤ 100000 := fun i hi => by
      have ih : ∀ k ∈ Node.kids f, LitR At n k := fun k hk => litF_range At n k (hkids k hk)
      have r0 := litL_range ((Node.kids f).take i) (N, out, []) (fun k hk => ih k (List.mem_of_mem_take hk)) hAN (by simp)
      have r1 := litL_range ((Node.kids f).take (i + 1)) (N, out, []) (fun k hk => ih k (List.mem_of_mem_take hk)) hAN (by simp)
      have hs := sum_take (cntF n) (Node.kids f) i hi
      have hs2 : (((Node.kids f).take (i + 1)).map (cntF n)).sum = (((Node.kids f).take i).map (cntF n)).sum + cntF n (Node.kids f)[i] := by
        rw [List.take_succ_eq_append_getElem hi, List.map_append, List.sum_append]; simp
      simp only [List.length_take, List.length_nil, Nat.zero_add] at r0 r1
      refine ⟨r0.1, by omega, by omega, by rw [r0.2.2.2.1]; omega, by omega, fun x hx => ?_⟩
      have := r1.2.2.2.2 x hx
      omega
    have hend := litL_range (Node.kids f) (N, out, []) (fun k hk => litF_range At n k (hkids k hk)) hAN (by simp)
    have hlen := sum_cnt_len (Node.kids f) hkids
    rw [lit_full hk2 hk4, gate_eq]
    obtain ⟨r, hr⟩ : ∃ r, r = litL n At (Node.kids f) (N, out, []) := ⟨_, rfl⟩
    obtain ⟨neg, hneg⟩ : ∃ neg, neg = isNeg (Node.kind f) := ⟨_, rfl⟩
    obtain ⟨rN, rO, rK⟩ := r
    rw [← hr] at hend ⊢
    rw [← hneg]
    obtain ⟨sv, hsv⟩ : ∃ sv, sv = sgn neg (rN + 1) := ⟨_, rfl⟩
    simp only
    rw [← hsv]
    have HRR := Lib.hid hr
    have HNEG := Lib.hid hneg
    have HSV := Lib.hid hsv
    clear hr hneg hsv
    have hkd : (Node.kind f == 2) = false ∧ (Node.kind f == 4) = false := ⟨by simpa using hk2, by simpa using hk4⟩
    have h2456 : Hid (Node.kind f ≠ 2 ∧ Node.kind f ≠ 4) := ⟨hk2, hk4⟩
    clear h hm hon hok
    have HX1 : Hid (∃ X1 : Nat → Prop, (∀ k, X1 k ↔ X k ∨ k = w.heap.size)) := ⟨fun k => X k ∨ k = w.heap.size, fun k => Iff.rfl⟩
    obtain ⟨X1, hX1⟩ := HX1.out
    have HX1 := Lib.hid hX1
    have hsz : Hid (w.heap.size < w3.heap.size) := (Array.getElem?_eq_some_iff.1 h3.out.2).1
    have HX1s : Hid (∀ k, X1 k → k < w3.heap.size) := fun k hk => by
      have h1 := h3.out.1.size
      have h2 := hsz.out
      rcases (hX1 k).1 hk with h | h
      · have := hXs k h; omega
      · omega
    have hstart : Hid (Lp3 X1 w3 (litL n At ((Node.kids f).take 0) (N, out, [])).2.1 (litL n At ((Node.kids f).take 0) (N, out, [])).2.2 (.slice none 0 0) v w3) := by
      refine ⟨?_, OInts.nil _ _ _, Chg.refl _ _⟩
      exact hown.after h3.out.1 (fun _ _ g => g.elim) (fun k hk => by
        rcases hk with hk | hk
        · rcases (hX1 k).1 hk with g | g
          · exact .inl g
          · exact .inr (by omega)
        · simp [Value.ownBlock] at hk)
    have HKi2 : Hid (∀ W, Chg (fun k => ¬ X1 k) w3 W → Forms X1 W B (Node.kids f) capk) := fun W hW =>
      ((hk.no (formE_good n) h3.out.1).mono (formE_good n) (fun k _ h => (hX1 k).2 (.inl h))).chg (formE_good n) hW (fun _ h g => g h)
    have HA2 : Hid (∀ W, Chg (fun k => ¬ X1 k) w3 W → Lins X1 W AA At capA) := fun W hW =>
      ((hAt.no linE_good h3.out.1).mono linE_good (fun k _ h => (hX1 k).2 (.inl h))).chg linE_good hW (fun _ h g => g h)
    have HBX : Hid (∀ W, Chg (fun k => ¬ X1 k) w3 W → W.heap[w.heap.size]? = some (.cells #[.int .i64 (Node.kind f), .int .i64 (Node.lin f).1, .slice A (Node.lin f).2.length cap, .slice B (Node.kids f).length capk] 27 (0, 0))) := fun W hW =>
      hW.obj h3.out.2 (fun g => g ((hX1 _).2 (.inr rfl)))
    have HKd := Lib.hid hkids
    have HREC := Lib.hid hrec
    have HEND := Lib.hid hend
    have HLEN := Lib.hid hlen
    have HCN := Lib.hid hcnt
    have HN := Lib.hid (And.intro hN hout)
    have HAN := Lib.hid hAN
    have h01' := Lib.hid h01
    clear hX1 hown hXs hAt hk hkids hrec hend hlen hcnt hk2 hk4 hN hout hAN h01
    obtain ⟨e2, e4⟩ := hkd
    generalize Node.kind f = kd at *
    generalize (Node.lin f).1 = c at *
    generalize (Node.lin f).2 = t at *
    generalize Node.kids f = ks at *
    have hksl : ks.length ≤ 100000 := by have := HLEN.out; have := HCN.out; have := HN.out.1; have := HAN.out; omega
    go_enter Try.func28, Try.ntmps28
    go_upto_region 1 with fail
    rw [← HW3.out]
    clear HW3
    obtain ⟨p0, p1, p2, p3⟩ := obj_four h3.out.2
    go_wp2_with fail
    go_loopw [2, 3, 14, 15] (fun s2 s3 s14 s15 wr => ∃ (i : Nat) (vK vC : Value), vK = s14 ∧ vC = s3 ∧ s2 = .int .i64 (litL n At (ks.take i) (N, out, [])).1 ∧ s15 = .int .i64 i ∧ i ≤ ks.length ∧ Hid (Lp3 X1 w3 (litL n At (ks.take i) (N, out, [])).2.1 (litL n At (ks.take i) (N, out, [])).2.2 vK vC wr)) (fun _ _ _ s15 _ => ks.length - (intOf s15).toNat)
    case atStart => exact ⟨0, _, v, rfl, rfl, rfl, rfl, Nat.zero_le _, hstart⟩
    case round =>
      obtain ⟨i, vK, vC, rfl, rfl, rfl, rfl, gi, hst⟩ := hrel
      clear hstart
      obtain ⟨p0, p1, p2, p3⟩ := obj_four (HBX.out wr hst.out.chg)
      by_cases hlt : i < ks.length
      · obtain ⟨b, o, v0, v1, v2, v3, rfl, hv, x0, x1, x2, x3⟩ := forms_at (HKi2.out wr hst.out.chg) i hlt
        have i0 : (0 : Int) ≤ (i : Int) := by omega
        have i1 : (i : Int) < (ks.length : Int) := by omega
        obtain ⟨q1, q2, q3, q4, q5, q6⟩ := HREC.out i hlt
        have HG := Lib.hid (litL_take (A := At) (s := (N, out, [])) hlt)
        generalize hgr : litL n At (ks.take (i + 1)) (N, out, []) = r' at *
        have HGR := Lib.hid hgr
        clear hgr
        generalize litL n At (ks.take i) (N, out, []) = r at *
        have HI : Hid (Calls Try.prog 28 #[.agg #[v0, v1, v2, v3], .slice AA At.length capA, .int .i64 r.1, vC] wr fun e w' => ∃ v', e = .returned (.tuple #[v', .int .i64 (litF n ks[i] At r.1 r.2.1).1, .int .i64 (litF n ks[i] At r.1 r.2.1).2.2]) ∧
            Hid (ORows (fun k => X1 k ∨ vK.ownBlock = some k) w' v' (litF n ks[i] At r.1 r.2.1).2.1 ∧ Chg (fun k => ¬ X1 k) w3 w' ∧ OInts 3 (fun k => ¬ X1 k) w' vK r.2.2)) := by
          have hXK : ∀ k, vK.ownBlock = some k → ¬ X1 k ∧ k < wr.heap.size := fun k hk => hst.out.kids.mine k hk
          have hr1 := hst.out.chg.size
          refine (IH.out ks[i] (fun k => X1 k ∨ vK.ownBlock = some k) wr _ (ElV.of_st (formV_good n) hv (fun k h => .inl h)) (HKd.out _ (List.getElem_mem hlt)) (fun k hk => ?_) At AA capA ((HA2.out wr hst.out.chg).mono linE_good (fun k _ h => .inl h)) r.1 vC r.2.1 hst.out.rows (by have := HAN.out; omega) (by omega) (by omega)).mono ?_
          · rcases hk with hk | hk
            · have := HX1s.out k hk; omega
            · have := (hXK k hk).2; omega
          · rintro e w' ⟨v', rfl, g2, g3⟩
            refine ⟨v', rfl, g2, hst.out.chg.trans g3 (fun k hk _ g => hk (.inl g)), hst.out.kids.keep g3 (fun k hk g => g (.inr hk))⟩
        generalize litF n ks[i] At r.1 r.2.1 = s at *
        have hs2 : -100000 ≤ s.2.2 ∧ s.2.2 ≤ 100000 := q6 s.2.2 (by rw [HG.out]; simp)
        have HP : Hid (∀ w5 v5 A7 cap7 w7, Hid (ORows (fun k => X1 k ∨ vK.ownBlock = some k) w5 v5 s.2.1 ∧ Chg (fun k => ¬ X1 k) w3 w5 ∧ OInts 3 (fun k => ¬ X1 k) w5 vK r.2.2) →
            OInts 3 (fun k => vK.ownBlock = some k ∨ w5.heap.size ≤ k) w7 (.slice A7 (r.2.2.length + 1) cap7) (r.2.2 ++ [s.2.2]) → Chg (fun k => vK.ownBlock = some k) w5 w7 → Hid (Lp3 X1 w3 r'.2.1 r'.2.2 (.slice A7 (r.2.2.length + 1) cap7) v5 w7)) := by
          rintro w5 v5 A7 cap7 w7 ⟨g2, g3, g4⟩ h1 h2
          rw [HG.out]
          have hXK : ∀ k, vK.ownBlock = some k → ¬ X1 k := fun k hk => (g4.mine k hk).1
          have h5 := g3.size
          refine ⟨g2.after h2 (fun k _ g => .inr g) (fun k hk => ?_), h1.to (fun k hk _ g => ?_), g3.trans h2 (fun k hk _ => hXK k hk)⟩
          · rcases hk with hk | hk
            · exact .inl (.inl hk)
            · exact ((h1.mine k hk).1).elim (fun g => .inl (.inr g)) .inr
          · rcases (h1.mine k hk).1 with g' | g'
            · exact hXK k g' g
            · have := HX1s.out k g; omega
        have HK : Hid (∀ w5 v5, Hid (ORows (fun k => X1 k ∨ vK.ownBlock = some k) w5 v5 s.2.1 ∧ Chg (fun k => ¬ X1 k) w3 w5 ∧ OInts 3 (fun k => ¬ X1 k) w5 vK r.2.2) → OInts 3 (fun k => vK.ownBlock = some k ∨ w5.heap.size ≤ k) w5 vK r.2.2) :=
          fun w5 v5 h => h.2.2.to (fun k hk _ => .inl hk)
        have HS1 : Hid (s.1 = r'.1) := by unfold Hid; rw [HG.out]
        obtain ⟨sN, sO, sK⟩ := s
        simp only at hs2 HI HP HK HS1
        have hrl : r.2.2.length ≤ 100000 := by omega
        clear hv IH hst HREC HX1s HA2 HKi2 HG q1 q2 q3 q4 q5 q6
        go_wp2_with (first
          | (go_at_call 28; refine HI.out.mono ?_; rintro e w5 ⟨v5, rfl, h5⟩)
          | (at_builtin; (refine wpList_push_int intsTyC rfl (.tmp 74) (.tmp 76) rfl (M := fun k => vK.ownBlock = some k ∨ w5.heap.size ≤ k) (w := w5) (fun k hk => .inr hk) (HK.out w5 v5 h5) rfl rfl (I64.of (by omega) (by omega)) (by omega) ?_); intro A7 cap7 w7 g1 g2; have h7 := HP.out w5 v5 A7 cap7 w7 h5 g1 g2; clear g1 g2))
        go_roundw
        case rel => exact ⟨i + 1, _, v5, rfl, rfl, by rw [HGR.out, HS1.out], by go_num, hlt, by rw [HGR.out]; exact h7⟩
        case measure => simp [intOf]; omega
      · obtain rfl : i = ks.length := by omega
        rw [List.take_of_length_le (Nat.le_refl _), ← HRR.out] at hst
        have HB := HEND.out
        have hN' := HN.out
        have hcn := HCN.out
        have hlen := HLEN.out
        have hAN' := HAN.out
        clear IH HREC HKi2 HA2 HKd HEND HN HCN HLEN
        have hrN0 : 0 ≤ rN := by omega
        have hrN : rN ≤ 99999 := by omega
        have hrO : rO.length ≤ 300000 := by omega
        have hrK : rK.length ≤ 100000 := by have : rK.length = ks.length := HB.2.2.2.1.trans (by simp); omega
        have HKB : Hid (∀ x ∈ rK, -100000 ≤ x ∧ x ≤ 100000) := fun x hx => by have := HB.2.2.2.2 x hx; omega
        have HKL : Hid (rK.length = ks.length) := HB.2.2.2.1.trans (by simp)
        have hrO2 : rO.length + rK.length + 1 ≤ 300000 := by have := HKL.out; omega
        have HRN : Hid ((litL n At (ks.take ks.length) (N, out, [])).1 = rN) := by unfold Hid; rw [List.take_of_length_le (Nat.le_refl _), ← HRR.out]
        clear HB hN' hcn hlen hAN' HAN gi hlt
        have hst2 : Hid (Lp3 X1 w3 rO rK vK vC wr) := hst
        clear hst
        have hsv1 : -100000 ≤ sv := by rw [HSV.out]; unfold sgn; split <;> omega
        have hsv2 : sv ≤ 100000 := by rw [HSV.out]; unfold sgn; split <;> omega
        obtain ⟨AK, capK, rfl, hKs⟩ := hst2.out.kids.1.ints (l := rK) (by unfold big; omega) hst2.out.kids.2
        obtain ⟨Xk, hXk⟩ : ∃ Xk : Nat → Prop, ∀ k, Xk k ↔ X1 k ∨ (Value.slice AK rK.length capK).ownBlock = some k := ⟨fun k => X1 k ∨ (Value.slice AK rK.length capK).ownBlock = some k, fun k => Iff.rfl⟩
        have HXk := Lib.hid hXk
        have HXks : Hid (∀ k, Xk k → k < wr.heap.size) := fun k hk => by
          have := hst2.out.chg.size
          rcases (hXk k).1 hk with g | g
          · have := HX1s.out k g; omega
          · exact (hst2.out.kids.mine k g).2
        have HKs : Hid (∀ W, Chg (fun k => ¬ Xk k) wr W → Ints Xk W AK rK capK) := fun W hW => by
          obtain ⟨A', c', e, h'⟩ := (hst2.out.kids.to (M' := Xk) (fun k hk _ => (hXk k).2 (.inr hk))).ints (by unfold big; omega)
          cases e
          exact h'.chg intE_good hW (fun _ h g => g h)
        have HST3 : Hid (ORows Xk wr vC rO ∧ Chg (fun k => ¬ X k) w wr) :=
          ⟨hst2.out.rows.mono rowV_good (fun k _ h g => h ((hXk k).1 g)) (fun k _ h g => h ((hXk k).1 g)), h3.out.1.no.trans hst2.out.chg (fun k hk _ g => hk ((HX1.out k).2 (.inl g)))⟩
        have HXX : Hid (∀ k, X k → Xk k) := fun k hk => (hXk k).2 (.inl ((HX1.out k).2 (.inl hk)))
        have hv0 : litL n At (ks.take ks.length) (N, out, []) = (rN, rO, rK) := by rw [List.take_of_length_le (Nat.le_refl _), ← HRR.out]
        rw [hv0]
        clear hv0 HRN
        simp only
        obtain ⟨w6, rfl⟩ : ∃ w6, w6 = wr := ⟨_, rfl⟩
        have HSTA : Hid (Lp3 Xk w6 (rO ++ (rK.take 0).map (fun k => [-sv, sgn neg k])) (sv :: (rK.take 0).map (fun k => -(sgn neg k))) (.slice (some ⟨w6.heap.size, 0, none⟩) 1 1) vC (w6.alloc (.cells #[.int .i64 sv] 3))) := by
          have hal : Chg No w6 (w6.alloc (.cells #[.int .i64 sv] 3)) := (Chg.refl _ _).alloc _
          refine ⟨?_, ?_, hal.no⟩
          · simp only [List.take_zero, List.map_nil, List.append_nil]
            exact HST3.out.1.after hal (fun _ _ g => g.elim) (fun k hk => hk.imp id (fun e => by simp [Value.ownBlock] at e; omega))
          · refine ⟨⟨by simp, .inr ⟨w6.heap.size, 0, 1, #[.int .i64 sv], rfl, fun g => absurd (HXks.out _ g) (Nat.lt_irrefl _), heap_alloc_new _ _, Nat.le_refl _, by decide, by simp, by simp⟩⟩, fun x hx => ?_⟩
            simp at hx; subst hx
            exact I64.of (by omega) (by omega)
        have HFIN : Hid (∀ W v, ORows Xk W v (rO ++ (rK.map (fun k => [-sv, sgn neg k]) ++ [sv :: rK.map (fun k => -(sgn neg k))])) → Chg (fun k => ¬ Xk k) w6 W → ORows X W v (rO ++ (rK.map (fun k => [-sv, sgn neg k]) ++ [sv :: rK.map (fun k => -(sgn neg k))])) ∧ Chg (fun k => ¬ X k) w W) := fun W v h1 h2 =>
          ⟨h1.mono rowV_good (fun q _ h g => h (HXX.out q g)) (fun q _ h g => h (HXX.out q g)), HST3.out.2.trans h2 (fun k hk _ g => hk (HXX.out k g))⟩
        have HOW0 : Hid (ORows Xk w6 vC rO) := HST3.out.1
        clear hXk hKs hst2 HX1 HX1s HBX HST3 HXX
        obtain ⟨d2, d4⟩ := h2456.out
        rcases h01'.out with ⟨rfl, hks⟩ | ⟨rfl, hks⟩ | hx | hx | rfl | rfl
        · have hK0 : rK = [] := List.eq_nil_of_length_eq_zero (by rw [HKL.out, hks]; rfl)
          have hng : neg = false := HNEG.out.trans rfl
          have HSV' := HSV.out
          rw [hng] at HSV'
          obtain rfl : sv = rN + 1 := HSV'
          have hrow : Hid (rowV (fun q => (¬ Xk q) ∧ vC.ownBlock ≠ some q) (w6.alloc (.cells #[.int .i64 (rN + 1)] 3)) [.slice (some ⟨w6.heap.size, 0, none⟩) 1 1] [rN + 1]) :=
            row_of rfl (intsW_of_block (l := [rN + 1]) (heap_alloc_new _ _) ⟨fun g => by have := HXks.out _ g; omega, fun g => by have := (HOW0.out.mine _ g).2; omega⟩ (by simp [big]) (by simp; exact I64.of (by omega) (by omega)))
          have HOW1 : Hid (ORows Xk (w6.alloc (.cells #[.int .i64 (rN + 1)] 3)) vC rO) := HOW0.out.no rowV_good ((Chg.refl _ _).alloc _)
          have HFR : Hid (∀ q, (w6.alloc (.cells #[.int .i64 (rN + 1)] 3)).heap.size ≤ q → ¬ Xk q) := fun q hq g => by
            have := HXks.out _ g
            have := (((Chg.refl No w6).alloc (.cells #[.int .i64 (rN + 1)] 3))).size
            omega
          have HF2 : Hid (∀ A7 cap7 w7, ORows Xk w7 (.slice A7 (rO.length + 1) cap7) (rO ++ [[rN + 1]]) → Chg (fun q => vC.ownBlock = some q) (w6.alloc (.cells #[.int .i64 (rN + 1)] 3)) w7 → Hid (ORows X w7 (.slice A7 (rO.length + 1) cap7) (rO ++ (rK.map (fun k => [-(rN + 1), sgn neg k]) ++ [(rN + 1) :: rK.map (fun k => -(sgn neg k))])) ∧ Chg (fun k => ¬ X k) w w7)) := fun A7 cap7 w7 g1 g2 =>
            HFIN.out w7 _ (by rw [hK0]; exact g1) (((Chg.refl No w6).alloc _).no.trans g2 (fun q hq _ => (HOW0.out.mine q hq).1))
          have HSZ1 : Hid ((w6.alloc (.cells #[.int .i64 (rN + 1)] 3)).heap.size = w6.heap.size + 1) := by unfold Hid; simp
          clear hK0 hng hks HSTA HKs HXks HRR HKB HKL HNEG HSV hrO2 hb2 hksl
          go_wp2_with (at_builtin; refine wpList_pushL' rowV_good rowsTyC rfl (.tmp 84) (.tmp 87) rfl HFR.out HOW1.out rfl hrow.out (by simp [Value.oneCell']) HSZ1.out rfl (show (rO.length + 1) * 24 ≤ 140737488355328 by omega) ?_; intro A7 cap7 w7 g1 g2; have G3 := HF2.out A7 cap7 w7 g1 g2; clear g1 g2)
          refine bodyPost_ret (v := .tuple #[.slice A7 (rO.length + 1) cap7, .int .i64 (rN + 1), .int .i64 (rN + 1)]) (by simp [results, Try.results28, go_sem]) rfl ⟨_, rfl, by first | exact G3.out.1 | (have g := G3.out.1; rw [Int.neg_neg] at g; exact g), G3.out.2⟩
        · have hK0 : rK = [] := List.eq_nil_of_length_eq_zero (by rw [HKL.out, hks]; rfl)
          have hng : neg = true := HNEG.out.trans rfl
          have HSV' := HSV.out
          rw [hng] at HSV'
          obtain rfl : sv = -(rN + 1) := HSV'
          have hrow : Hid (rowV (fun q => (¬ Xk q) ∧ vC.ownBlock ≠ some q) (w6.alloc (.cells #[.int .i64 (-(rN + 1))] 3)) [.slice (some ⟨w6.heap.size, 0, none⟩) 1 1] [-(rN + 1)]) :=
            row_of rfl (intsW_of_block (l := [-(rN + 1)]) (heap_alloc_new _ _) ⟨fun g => by have := HXks.out _ g; omega, fun g => by have := (HOW0.out.mine _ g).2; omega⟩ (by simp [big]) (by simp; exact I64.of (by omega) (by omega)))
          have HOW1 : Hid (ORows Xk (w6.alloc (.cells #[.int .i64 (-(rN + 1))] 3)) vC rO) := HOW0.out.no rowV_good ((Chg.refl _ _).alloc _)
          have HFR : Hid (∀ q, (w6.alloc (.cells #[.int .i64 (-(rN + 1))] 3)).heap.size ≤ q → ¬ Xk q) := fun q hq g => by
            have := HXks.out _ g
            have := (((Chg.refl No w6).alloc (.cells #[.int .i64 (-(rN + 1))] 3))).size
            omega
          have HF2 : Hid (∀ A7 cap7 w7, ORows Xk w7 (.slice A7 (rO.length + 1) cap7) (rO ++ [[-(rN + 1)]]) → Chg (fun q => vC.ownBlock = some q) (w6.alloc (.cells #[.int .i64 (-(rN + 1))] 3)) w7 → Hid (ORows X w7 (.slice A7 (rO.length + 1) cap7) (rO ++ (rK.map (fun k => [-(-(rN + 1)), sgn neg k]) ++ [(-(rN + 1)) :: rK.map (fun k => -(sgn neg k))])) ∧ Chg (fun k => ¬ X k) w w7)) := fun A7 cap7 w7 g1 g2 =>
            HFIN.out w7 _ (by rw [hK0]; exact g1) (((Chg.refl No w6).alloc _).no.trans g2 (fun q hq _ => (HOW0.out.mine q hq).1))
          have HSZ1 : Hid ((w6.alloc (.cells #[.int .i64 (-(rN + 1))] 3)).heap.size = w6.heap.size + 1) := by unfold Hid; simp
          clear hK0 hng hks HSTA HKs HXks HRR HKB HKL HNEG HSV hrO2 hb2 hksl
          go_wp2_with (at_builtin; refine wpList_pushL' rowV_good rowsTyC rfl (.tmp 91) (.tmp 95) rfl HFR.out HOW1.out rfl hrow.out (by simp [Value.oneCell']) HSZ1.out rfl (show (rO.length + 1) * 24 ≤ 140737488355328 by omega) ?_; intro A7 cap7 w7 g1 g2; have G3 := HF2.out A7 cap7 w7 g1 g2; clear g1 g2)
          refine bodyPost_ret (v := .tuple #[.slice A7 (rO.length + 1) cap7, .int .i64 (rN + 1), .int .i64 (rN + 1)]) (by simp [results, Try.results28, go_sem]) rfl ⟨_, rfl, by first | exact G3.out.1 | (have g := G3.out.1; rw [Int.neg_neg] at g; exact g), G3.out.2⟩
        · exact absurd hx d2
        · exact absurd hx d4
        · have hng : neg = false := HNEG.out.trans rfl
          subst hng
          obtain rfl : sv = rN + 1 := HSV.out
          clear h01' h2456 d2 d4 HRR HNEG HSV
          go_wp2_with fail
          go_loopw [3, 20, 21] (fun s3 s20 s21 wr => ∃ (i : Nat) (vA vC : Value), vC = s3 ∧ vA = s20 ∧ s21 = .int .i64 i ∧ i ≤ rK.length ∧ Hid (Lp3 Xk w6 (rO ++ (rK.take i).map (fun k => [-(rN + 1), sgn false k])) ((rN + 1) :: (rK.take i).map (fun k => -(sgn false k))) vA vC wr)) (fun _ _ s21 _ => rK.length - (intOf s21).toNat)
          case atStart => exact ⟨0, _, vC, rfl, rfl, rfl, Nat.zero_le _, HSTA⟩
          case round =>
            clear HSTA HOW0
            obtain ⟨i, vA, vC, rfl, rfl, rfl, gi, hst⟩ := hrel
            have hzr : w6.heap.size ≤ wr.heap.size := hst.out.chg.size
            by_cases hlt : i < rK.length
            · have HKW := Lib.hid (fun W (hW : Chg (fun k => ¬ Xk k) w6 W) => HKs.out W hW)
              obtain ⟨b, o, rfl, hx⟩ := (HKs.out wr hst.out.chg).int_at i hlt
              have HX7 : Hid (∀ W, Chg (fun k => ¬ Xk k) w6 W → W.cell? ⟨b, o + i, none⟩ = some (.int .i64 rK[i])) := fun W hW => by
                obtain ⟨b', o', e, h'⟩ := (HKs.out W hW).int_at i hlt
                cases e
                exact h'
              have i0 : (0 : Int) ≤ (i : Int) := by omega
              have i1 : (i : Int) < (rK.length : Int) := by omega
              obtain ⟨k1, k2⟩ := HKB.out _ (List.getElem_mem hlt)
              have HTK : Hid (rK.take (i + 1) = rK.take i ++ [rK[i]]) := List.take_succ_eq_append_getElem hlt
              have hti : (rK.take i).length = i := by rw [List.length_take]; omega
              generalize rK[i] = k at *
              generalize hT' : rK.take (i + 1) = T' at *
              have HT' := Lib.hid hT'
              clear hT'
              generalize rK.take i = T at *
              have hTl : T.length ≤ 100000 := by omega
              have hrl : (rO ++ T.map (fun k => [-(rN + 1), sgn false k])).length ≤ 299998 := by simp; omega
              have hal : ((rN + 1) :: T.map (fun k => -(sgn false k))).length ≤ 200000 := by simp; omega
              clear hti
              have HR1 : Hid (rO ++ T'.map (fun k => [-(rN + 1), sgn false k]) = (rO ++ T.map (fun k => [-(rN + 1), sgn false k])) ++ [[-(rN + 1), k]]) := by
                unfold Hid; rw [HTK.out]; simp [sgn] <;> omega
              have HR2 : Hid ((rN + 1) :: T'.map (fun k => -(sgn false k)) = ((rN + 1) :: T.map (fun k => -(sgn false k))) ++ [-k]) := by
                unfold Hid; rw [HTK.out]; simp [sgn]
              clear HTK
              generalize rO ++ T.map (fun k => [-(rN + 1), sgn false k]) = rowsL at *
              generalize (rN + 1) :: T.map (fun k => -(sgn false k)) = allL at *
              have HW1 : Hid (Chg No wr (wr.alloc (.cells #[.int .i64 (-(rN + 1)), .int .i64 (k)] 3))) := (Chg.refl _ _).alloc _
              have HSZ1 : Hid ((wr.alloc (.cells #[.int .i64 (-(rN + 1)), .int .i64 (k)] 3)).heap.size = wr.heap.size + 1) := by unfold Hid; simp
              have HROW : Hid (rowV (fun q => (¬ (Xk q ∨ vA.ownBlock = some q)) ∧ vC.ownBlock ≠ some q) (wr.alloc (.cells #[.int .i64 (-(rN + 1)), .int .i64 (k)] 3)) [.slice (some ⟨wr.heap.size, 0, none⟩) 2 2] [-(rN + 1), k]) :=
                row_of rfl (intsW_of_block (l := [-(rN + 1), k]) (heap_alloc_new _ _) ⟨fun g => g.elim (fun g => by have := HXks.out _ g; omega) (fun g => by have := (hst.out.kids.mine _ g).2; omega), fun g => by have := (hst.out.rows.mine _ g).2; omega⟩ (by simp [big]) (by simp; exact ⟨I64.of (by omega) (by omega), I64.of (by omega) (by omega)⟩))
              have HOW1 : Hid (ORows (fun q => Xk q ∨ vA.ownBlock = some q) (wr.alloc (.cells #[.int .i64 (-(rN + 1)), .int .i64 (k)] 3)) vC rowsL) := hst.out.rows.no rowV_good HW1.out
              have HFR : Hid (∀ q, (wr.alloc (.cells #[.int .i64 (-(rN + 1)), .int .i64 (k)] 3)).heap.size ≤ q → ¬ (Xk q ∨ vA.ownBlock = some q)) := fun q hq g => by
                have := HW1.out.size
                rcases g with g | g
                · have := HXks.out _ g; omega
                · have := (hst.out.kids.mine _ g).2; omega
              have HP : Hid (∀ w7 A7 cap7, ORows (fun q => Xk q ∨ vA.ownBlock = some q) w7 (.slice A7 (rowsL.length + 1) cap7) (rowsL ++ [[-(rN + 1), k]]) → Chg (fun q => vC.ownBlock = some q) (wr.alloc (.cells #[.int .i64 (-(rN + 1)), .int .i64 (k)] 3)) w7 →
                  w7.cell? ⟨b, o + i, none⟩ = some (.int .i64 k) ∧ Hid (OInts 3 (fun q => vA.ownBlock = some q ∨ w7.heap.size ≤ q) w7 vA allL) ∧
                  Hid (∀ w9 A9 cap9, OInts 3 (fun q => vA.ownBlock = some q ∨ w7.heap.size ≤ q) w9 (.slice A9 (allL.length + 1) cap9) (allL ++ [-k]) → Chg (fun q => vA.ownBlock = some q) w7 w9 →
                    Hid (Lp3 Xk w6 (rO ++ T'.map (fun k => [-(rN + 1), sgn false k])) ((rN + 1) :: T'.map (fun k => -(sgn false k))) (.slice A9 (allL.length + 1) cap9) (.slice A7 (rowsL.length + 1) cap7) w9))) := fun w7 A7 cap7 g1 g2 => by
                have hvC : ∀ q, vC.ownBlock = some q → ¬ (Xk q ∨ vA.ownBlock = some q) ∧ q < wr.heap.size := fun q hq => hst.out.rows.mine q hq
                have hvA : ∀ q, vA.ownBlock = some q → ¬ Xk q ∧ q < wr.heap.size := fun q hq => hst.out.kids.mine q hq
                have hch7 : Chg (fun q => ¬ Xk q) wr w7 := HW1.out.no.trans g2 (fun q hq _ g => (hvC q hq).1 (.inl g))
                have hall7 : OInts 3 (fun q => ¬ Xk q) w7 vA allL := (hst.out.kids.no HW1.out).keep g2 (fun q hq g => (hvC q g).1 (.inr hq))
                refine ⟨HX7.out w7 (hst.out.chg.trans hch7 (fun q hq _ => hq)), hall7.to (fun q hq _ => .inl hq), fun w9 A9 cap9 h1 h2 => ?_⟩
                rw [HR1.out, HR2.out]
                have hsz7 := hch7.size
                refine ⟨g1.after h2 (fun q _ g => .inr g) (fun q hq => ?_), h1.to (fun q hq _ g => ?_), (hst.out.chg.trans hch7 (fun q hq _ => hq)).trans h2 (fun q hq _ => (hvA q hq).1)⟩
                · rcases hq with hq | hq
                  · exact .inl (.inl hq)
                  · exact ((h1.mine q hq).1).elim (fun g => .inl (.inr g)) .inr
                · rcases (h1.mine q hq).1 with g' | g'
                  · exact (hvA q g').1 g
                  · have := HXks.out q g; omega
              clear hst HR1 HR2 HXks HKs HKW HKB HFIN HKL
              go_wp2_with (at_builtin; first
                | (refine wpList_pushL' rowV_good rowsTyC rfl (.tmp 107) (.tmp 115) rfl HFR.out HOW1.out rfl HROW.out (by simp [Value.oneCell']) HSZ1.out rfl (show (rowsL.length + 1) * 24 ≤ 140737488355328 by omega) ?_; intro A7 cap7 w7 g1 g2; obtain ⟨hx7, G3, G4⟩ := HP.out w7 A7 cap7 g1 g2; clear g1 g2)
                | (refine wpList_push_int' intsTyC rfl (.tmp 117) (.tmp 123) rfl (fun q hq => .inr hq) G3.out rfl rfl rfl (I64.of (by omega) (by omega)) (by omega) ?_; intro A9 cap9 w9 g1 g2; have h9 := G4.out w9 A9 cap9 g1 g2; clear g1 g2))
              go_roundw
              case rel => exact ⟨i + 1, _, _, rfl, rfl, by go_num, hlt, by rw [HT'.out]; exact h9⟩
              case measure => simp [intOf]; omega
            · obtain rfl : i = rK.length := by omega
              rw [List.take_of_length_le (Nat.le_refl _)] at hst
              have hrl : (rO ++ rK.map (fun k => [-(rN + 1), sgn false k])).length ≤ 299999 := by simp; omega
              have hal : ((rN + 1) :: rK.map (fun k => -(sgn false k))).length ≤ 200000 := by simp; omega
              have HANS : Hid (rO ++ (rK.map (fun k => [-(rN + 1), sgn false k]) ++ [(rN + 1) :: rK.map (fun k => -(sgn false k))]) = (rO ++ rK.map (fun k => [-(rN + 1), sgn false k])) ++ [(rN + 1) :: rK.map (fun k => -(sgn false k))]) := by unfold Hid; simp
              have HFIN2 : Hid (∀ W v, ORows Xk W v ((rO ++ rK.map (fun k => [-(rN + 1), sgn false k])) ++ [(rN + 1) :: rK.map (fun k => -(sgn false k))]) → Chg (fun k => ¬ Xk k) w6 W → Hid (ORows X W v (rO ++ (rK.map (fun k => [-(rN + 1), sgn false k]) ++ [(rN + 1) :: rK.map (fun k => -(sgn false k))])) ∧ Chg (fun k => ¬ X k) w W)) := fun W v h1 h2 =>
                HFIN.out W v (by rw [HANS.out]; exact h1) h2
              clear HANS HFIN HKs
              generalize rO ++ rK.map (fun k => [-(rN + 1), sgn false k]) = rowsL at *
              obtain ⟨allL, hall0⟩ : ∃ allL, allL = (rN + 1) :: rK.map (fun k => -(sgn false k)) := ⟨_, rfl⟩
              rw [← hall0] at hst hal
              have HALL0 := Lib.hid hall0
              clear hall0
              obtain ⟨AA2, cap2, rfl, hall⟩ := hst.out.kids.1.ints (l := allL) (by unfold big; omega) hst.out.kids.2
              have HALL : Hid (rowV (fun q => (¬ Xk q) ∧ vC.ownBlock ≠ some q) wr [.slice AA2 allL.length cap2] allL) := by
                obtain ⟨A', c', e, h'⟩ := (hst.out.kids.to (M' := fun q => (¬ Xk q) ∧ vC.ownBlock ≠ some q) (fun q hq _ => ⟨(hst.out.kids.mine q hq).1, fun g => (hst.out.rows.mine q g).1 (.inr hq)⟩)).1.intsW (l := allL) (by unfold big; omega) hst.out.kids.2
                cases e
                exact row_of rfl h'
              have HOW1 : Hid (ORows Xk wr vC rowsL) := hst.out.rows.mono rowV_good (fun q _ h g => h (.inl g)) (fun q _ h g => h (.inl g))
              have HFR : Hid (∀ q, wr.heap.size ≤ q → ¬ Xk q) := fun q hq g => by
                have := HXks.out _ g; omega
              have HP : Hid (∀ w7 A7 cap7, ORows Xk w7 (.slice A7 (rowsL.length + 1) cap7) (rowsL ++ [allL]) → Chg (fun q => vC.ownBlock = some q) wr w7 →
                  Hid (ORows X w7 (.slice A7 (rowsL.length + 1) cap7) (rO ++ (rK.map (fun k => [-(rN + 1), sgn false k]) ++ [(rN + 1) :: rK.map (fun k => -(sgn false k))])) ∧ Chg (fun k => ¬ X k) w w7)) := fun w7 A7 cap7 g1 g2 =>
                HFIN2.out w7 _ (by rw [← HALL0.out]; exact g1) (hst.out.chg.trans g2 (fun q hq _ g => (hst.out.rows.mine q hq).1 (.inl g)))
              clear hst hall HXks hlt gi HKB HFIN2 HALL0 HKL
              go_wp2_with (at_builtin; refine wpList_pushL' rowV_good rowsTyC rfl (.tmp 125) (.tmp 127) rfl HFR.out HOW1.out rfl HALL.out (by simp [Value.oneCell']) rfl rfl (show (rowsL.length + 1) * 24 ≤ 140737488355328 by omega) ?_; intro A7 cap7 w7 g1 g2; have G3 := HP.out w7 A7 cap7 g1 g2; clear g1 g2)
              refine bodyPost_ret (v := .tuple #[.slice A7 (rowsL.length + 1) cap7, .int .i64 (rN + 1), .int .i64 (rN + 1)]) (by simp [results, Try.results28, go_sem]) rfl ⟨_, rfl, G3.out.1, G3.out.2⟩
        · have hng : neg = true := HNEG.out.trans rfl
          subst hng
          obtain rfl : sv = -(rN + 1) := HSV.out
          clear h01' h2456 d2 d4 HRR HNEG HSV
          go_wp2_with fail
          go_loopw [3, 22, 23] (fun s3 s22 s23 wr => ∃ (i : Nat) (vA vC : Value), vC = s3 ∧ vA = s22 ∧ s23 = .int .i64 i ∧ i ≤ rK.length ∧ Hid (Lp3 Xk w6 (rO ++ (rK.take i).map (fun k => [-(-(rN + 1)), sgn true k])) ((-(rN + 1)) :: (rK.take i).map (fun k => -(sgn true k))) vA vC wr)) (fun _ _ s23 _ => rK.length - (intOf s23).toNat)
          case atStart => exact ⟨0, _, vC, rfl, rfl, rfl, Nat.zero_le _, HSTA⟩
          case round =>
            clear HSTA HOW0
            obtain ⟨i, vA, vC, rfl, rfl, rfl, gi, hst⟩ := hrel
            have hzr : w6.heap.size ≤ wr.heap.size := hst.out.chg.size
            by_cases hlt : i < rK.length
            · have HKW := Lib.hid (fun W (hW : Chg (fun k => ¬ Xk k) w6 W) => HKs.out W hW)
              obtain ⟨b, o, rfl, hx⟩ := (HKs.out wr hst.out.chg).int_at i hlt
              have HX7 : Hid (∀ W, Chg (fun k => ¬ Xk k) w6 W → W.cell? ⟨b, o + i, none⟩ = some (.int .i64 rK[i])) := fun W hW => by
                obtain ⟨b', o', e, h'⟩ := (HKs.out W hW).int_at i hlt
                cases e
                exact h'
              have i0 : (0 : Int) ≤ (i : Int) := by omega
              have i1 : (i : Int) < (rK.length : Int) := by omega
              obtain ⟨k1, k2⟩ := HKB.out _ (List.getElem_mem hlt)
              have HTK : Hid (rK.take (i + 1) = rK.take i ++ [rK[i]]) := List.take_succ_eq_append_getElem hlt
              have hti : (rK.take i).length = i := by rw [List.length_take]; omega
              generalize rK[i] = k at *
              generalize hT' : rK.take (i + 1) = T' at *
              have HT' := Lib.hid hT'
              clear hT'
              generalize rK.take i = T at *
              have hTl : T.length ≤ 100000 := by omega
              have hrl : (rO ++ T.map (fun k => [-(-(rN + 1)), sgn true k])).length ≤ 299998 := by simp; omega
              have hal : ((-(rN + 1)) :: T.map (fun k => -(sgn true k))).length ≤ 200000 := by simp; omega
              clear hti
              have HR1 : Hid (rO ++ T'.map (fun k => [-(-(rN + 1)), sgn true k]) = (rO ++ T.map (fun k => [-(-(rN + 1)), sgn true k])) ++ [[rN + 1, -k]]) := by
                unfold Hid; rw [HTK.out]; simp [sgn] <;> omega
              have HR2 : Hid ((-(rN + 1)) :: T'.map (fun k => -(sgn true k)) = ((-(rN + 1)) :: T.map (fun k => -(sgn true k))) ++ [k]) := by
                unfold Hid; rw [HTK.out]; simp [sgn]
              clear HTK
              generalize rO ++ T.map (fun k => [-(-(rN + 1)), sgn true k]) = rowsL at *
              generalize (-(rN + 1)) :: T.map (fun k => -(sgn true k)) = allL at *
              have HW1 : Hid (Chg No wr (wr.alloc (.cells #[.int .i64 (rN + 1), .int .i64 (-k)] 3))) := (Chg.refl _ _).alloc _
              have HSZ1 : Hid ((wr.alloc (.cells #[.int .i64 (rN + 1), .int .i64 (-k)] 3)).heap.size = wr.heap.size + 1) := by unfold Hid; simp
              have HROW : Hid (rowV (fun q => (¬ (Xk q ∨ vA.ownBlock = some q)) ∧ vC.ownBlock ≠ some q) (wr.alloc (.cells #[.int .i64 (rN + 1), .int .i64 (-k)] 3)) [.slice (some ⟨wr.heap.size, 0, none⟩) 2 2] [rN + 1, -k]) :=
                row_of rfl (intsW_of_block (l := [rN + 1, -k]) (heap_alloc_new _ _) ⟨fun g => g.elim (fun g => by have := HXks.out _ g; omega) (fun g => by have := (hst.out.kids.mine _ g).2; omega), fun g => by have := (hst.out.rows.mine _ g).2; omega⟩ (by simp [big]) (by simp; exact ⟨I64.of (by omega) (by omega), I64.of (by omega) (by omega)⟩))
              have HOW1 : Hid (ORows (fun q => Xk q ∨ vA.ownBlock = some q) (wr.alloc (.cells #[.int .i64 (rN + 1), .int .i64 (-k)] 3)) vC rowsL) := hst.out.rows.no rowV_good HW1.out
              have HFR : Hid (∀ q, (wr.alloc (.cells #[.int .i64 (rN + 1), .int .i64 (-k)] 3)).heap.size ≤ q → ¬ (Xk q ∨ vA.ownBlock = some q)) := fun q hq g => by
                have := HW1.out.size
                rcases g with g | g
                · have := HXks.out _ g; omega
                · have := (hst.out.kids.mine _ g).2; omega
              have HP : Hid (∀ w7 A7 cap7, ORows (fun q => Xk q ∨ vA.ownBlock = some q) w7 (.slice A7 (rowsL.length + 1) cap7) (rowsL ++ [[rN + 1, -k]]) → Chg (fun q => vC.ownBlock = some q) (wr.alloc (.cells #[.int .i64 (rN + 1), .int .i64 (-k)] 3)) w7 →
                  w7.cell? ⟨b, o + i, none⟩ = some (.int .i64 k) ∧ Hid (OInts 3 (fun q => vA.ownBlock = some q ∨ w7.heap.size ≤ q) w7 vA allL) ∧
                  Hid (∀ w9 A9 cap9, OInts 3 (fun q => vA.ownBlock = some q ∨ w7.heap.size ≤ q) w9 (.slice A9 (allL.length + 1) cap9) (allL ++ [k]) → Chg (fun q => vA.ownBlock = some q) w7 w9 →
                    Hid (Lp3 Xk w6 (rO ++ T'.map (fun k => [-(-(rN + 1)), sgn true k])) ((-(rN + 1)) :: T'.map (fun k => -(sgn true k))) (.slice A9 (allL.length + 1) cap9) (.slice A7 (rowsL.length + 1) cap7) w9))) := fun w7 A7 cap7 g1 g2 => by
                have hvC : ∀ q, vC.ownBlock = some q → ¬ (Xk q ∨ vA.ownBlock = some q) ∧ q < wr.heap.size := fun q hq => hst.out.rows.mine q hq
                have hvA : ∀ q, vA.ownBlock = some q → ¬ Xk q ∧ q < wr.heap.size := fun q hq => hst.out.kids.mine q hq
                have hch7 : Chg (fun q => ¬ Xk q) wr w7 := HW1.out.no.trans g2 (fun q hq _ g => (hvC q hq).1 (.inl g))
                have hall7 : OInts 3 (fun q => ¬ Xk q) w7 vA allL := (hst.out.kids.no HW1.out).keep g2 (fun q hq g => (hvC q g).1 (.inr hq))
                refine ⟨HX7.out w7 (hst.out.chg.trans hch7 (fun q hq _ => hq)), hall7.to (fun q hq _ => .inl hq), fun w9 A9 cap9 h1 h2 => ?_⟩
                rw [HR1.out, HR2.out]
                have hsz7 := hch7.size
                refine ⟨g1.after h2 (fun q _ g => .inr g) (fun q hq => ?_), h1.to (fun q hq _ g => ?_), (hst.out.chg.trans hch7 (fun q hq _ => hq)).trans h2 (fun q hq _ => (hvA q hq).1)⟩
                · rcases hq with hq | hq
                  · exact .inl (.inl hq)
                  · exact ((h1.mine q hq).1).elim (fun g => .inl (.inr g)) .inr
                · rcases (h1.mine q hq).1 with g' | g'
                  · exact (hvA q g').1 g
                  · have := HXks.out q g; omega
              clear hst HR1 HR2 HXks HKs HKW HKB HFIN HKL
              go_wp2_with (at_builtin; first
                | (refine wpList_pushL' rowV_good rowsTyC rfl (.tmp 140) (.tmp 148) rfl HFR.out HOW1.out rfl HROW.out (by simp [Value.oneCell']) HSZ1.out rfl (show (rowsL.length + 1) * 24 ≤ 140737488355328 by omega) ?_; intro A7 cap7 w7 g1 g2; obtain ⟨hx7, G3, G4⟩ := HP.out w7 A7 cap7 g1 g2; clear g1 g2)
                | (refine wpList_push_int' intsTyC rfl (.tmp 150) (.tmp 155) rfl (fun q hq => .inr hq) G3.out rfl rfl rfl (I64.of (by omega) (by omega)) (by omega) ?_; intro A9 cap9 w9 g1 g2; have h9 := G4.out w9 A9 cap9 g1 g2; clear g1 g2))
              go_roundw
              case rel => exact ⟨i + 1, _, _, rfl, rfl, by go_num, hlt, by rw [HT'.out]; exact h9⟩
              case measure => simp [intOf]; omega
            · obtain rfl : i = rK.length := by omega
              rw [List.take_of_length_le (Nat.le_refl _)] at hst
              have hrl : (rO ++ rK.map (fun k => [-(-(rN + 1)), sgn true k])).length ≤ 299999 := by simp; omega
              have hal : ((-(rN + 1)) :: rK.map (fun k => -(sgn true k))).length ≤ 200000 := by simp; omega
              have HANS : Hid (rO ++ (rK.map (fun k => [-(-(rN + 1)), sgn true k]) ++ [(-(rN + 1)) :: rK.map (fun k => -(sgn true k))]) = (rO ++ rK.map (fun k => [-(-(rN + 1)), sgn true k])) ++ [(-(rN + 1)) :: rK.map (fun k => -(sgn true k))]) := by unfold Hid; simp
              have HFIN2 : Hid (∀ W v, ORows Xk W v ((rO ++ rK.map (fun k => [-(-(rN + 1)), sgn true k])) ++ [(-(rN + 1)) :: rK.map (fun k => -(sgn true k))]) → Chg (fun k => ¬ Xk k) w6 W → Hid (ORows X W v (rO ++ (rK.map (fun k => [-(-(rN + 1)), sgn true k]) ++ [(-(rN + 1)) :: rK.map (fun k => -(sgn true k))])) ∧ Chg (fun k => ¬ X k) w W)) := fun W v h1 h2 =>
                HFIN.out W v (by rw [HANS.out]; exact h1) h2
              clear HANS HFIN HKs
              generalize rO ++ rK.map (fun k => [-(-(rN + 1)), sgn true k]) = rowsL at *
              obtain ⟨allL, hall0⟩ : ∃ allL, allL = (-(rN + 1)) :: rK.map (fun k => -(sgn true k)) := ⟨_, rfl⟩
              rw [← hall0] at hst hal
              have HALL0 := Lib.hid hall0
              clear hall0
              obtain ⟨AA2, cap2, rfl, hall⟩ := hst.out.kids.1.ints (l := allL) (by unfold big; omega) hst.out.kids.2
              have HALL : Hid (rowV (fun q => (¬ Xk q) ∧ vC.ownBlock ≠ some q) wr [.slice AA2 allL.length cap2] allL) := by
                obtain ⟨A', c', e, h'⟩ := (hst.out.kids.to (M' := fun q => (¬ Xk q) ∧ vC.ownBlock ≠ some q) (fun q hq _ => ⟨(hst.out.kids.mine q hq).1, fun g => (hst.out.rows.mine q g).1 (.inr hq)⟩)).1.intsW (l := allL) (by unfold big; omega) hst.out.kids.2
                cases e
                exact row_of rfl h'
              have HOW1 : Hid (ORows Xk wr vC rowsL) := hst.out.rows.mono rowV_good (fun q _ h g => h (.inl g)) (fun q _ h g => h (.inl g))
              have HFR : Hid (∀ q, wr.heap.size ≤ q → ¬ Xk q) := fun q hq g => by
                have := HXks.out _ g; omega
              have HP : Hid (∀ w7 A7 cap7, ORows Xk w7 (.slice A7 (rowsL.length + 1) cap7) (rowsL ++ [allL]) → Chg (fun q => vC.ownBlock = some q) wr w7 →
                  Hid (ORows X w7 (.slice A7 (rowsL.length + 1) cap7) (rO ++ (rK.map (fun k => [-(-(rN + 1)), sgn true k]) ++ [(-(rN + 1)) :: rK.map (fun k => -(sgn true k))])) ∧ Chg (fun k => ¬ X k) w w7)) := fun w7 A7 cap7 g1 g2 =>
                HFIN2.out w7 _ (by rw [← HALL0.out]; exact g1) (hst.out.chg.trans g2 (fun q hq _ g => (hst.out.rows.mine q hq).1 (.inl g)))
              clear hst hall HXks hlt gi HKB HFIN2 HALL0 HKL
              go_wp2_with (at_builtin; refine wpList_pushL' rowV_good rowsTyC rfl (.tmp 157) (.tmp 159) rfl HFR.out HOW1.out rfl HALL.out (by simp [Value.oneCell']) rfl rfl (show (rowsL.length + 1) * 24 ≤ 140737488355328 by omega) ?_; intro A7 cap7 w7 g1 g2; have G3 := HP.out w7 A7 cap7 g1 g2; clear g1 g2)
              refine bodyPost_ret (v := .tuple #[.slice A7 (rowsL.length + 1) cap7, .int .i64 (rN + 1), .int .i64 (rN + 1)]) (by simp [results, Try.results28, go_sem]) rfl ⟨_, rfl, G3.out.1, G3.out.2⟩
theorem make1_all : ∀ n, MakeOk n
  | 0 => fun _ _ _ _ h => h.elim
  | n + 1 => make_step n (Lib.hid (make1_all n))
end Go.Proofs.Ytlejcnbpodmleaa
/- CnfH -/
namespace Go.Proofs.Ytlejcnbpodmleaa
open Go Go.RowKit

/-- All clauses of a formula. -/
def cnfAll (n : Nat) (f : FT n) : Int × List (List Int) :=
  ((litF n f (atomsF n f []) (atomsF n f []).length []).1, (litF n f (atomsF n f []) (atomsF n f []).length []).2.1 ++ [[(litF n f (atomsF n f []) (atomsF n f []).length []).2.2]])
def cnfErr (n : Nat) (f : FT n) : Int := if isB n f = true then (if 8192 < (cnfAll n f).1 ∨ chk (cnfAll n f).1 (cnfAll n f).2 ≠ 0 then 2 else 0) else 5
def cnfOut (n : Nat) (f : FT n) : Int × List Lin × List (List Int) := if cnfErr n f = 0 then ((cnfAll n f).1, atomsF n f [], (cnfAll n f).2) else (0, [], [])

theorem rows_mem {R : Nat → Prop} {w : World} {A : Option Addr} {l : List (List Int)} {cap : Nat} (h : Sl rowV.mem rowV.sz R w A l cap) : Rows2 R w A l cap :=
  ⟨h.le, h.max, h.room, h.nil, fun i hi => by
    obtain ⟨b, o, e, hR, cs, hl, hc, hv⟩ := h.at_ i hi
    obtain ⟨A', cap', rfl, hs⟩ := hv
    exact ⟨b, o, e, hR, A', cap', hc 0 _ rfl, hs.unwr⟩⟩
theorem obj_three {w : World} {b : Nat} {x y z : Value} {t : TypeId} (h : w.heap[b]? = some (.cells #[x, y, z] t (0, 0))) :
    w.cell? ⟨b, 0, none⟩ = some x ∧ w.cell? ⟨b, 1, none⟩ = some y ∧ w.cell? ⟨b, 2, none⟩ = some z ∧ w.frozen? ⟨b, 0, none⟩ = false ∧ w.frozen? ⟨b, 1, none⟩ = false ∧ w.frozen? ⟨b, 2, none⟩ = false := by
  simp [World.cell?, World.frozen?, h]
/-- Anywhere. -/
def Any : Nat → Prop := fun _ => True

/-- What the reference's Make answers. -/
def RefMakeRet (w : World) (er : Int) (o : Int × List Lin × List (List Int)) (e : Ending) (w' : World) : Prop :=
  ∃ AA ca BB cb, e = .returned (.tuple #[.agg #[.int .i64 o.1, .slice AA o.2.1.length ca, .slice BB o.2.2.length cb], .int .i64 er]) ∧ Lins Any w' AA o.2.1 ca ∧ Rows2 Any w' BB o.2.2 cb ∧ Chg No w w'

theorem chg_new {S : Nat → Prop} {w w1 w2 : World} (h : Chg No w w1) (g : Chg S w1 w2) (hS : ∀ k, S k → w.heap.size ≤ k) : Chg No w w2 :=
  h.trans g (fun k hk hlt => by have := hS k hk; omega)

set_option maxRecDepth 100000 in
set_option maxHeartbeats 4000000 in
theorem refMake_any {n : Nat} {f : FT n} {R : Nat → Prop} {w : World} {cs : List Value} (h : (formV n) R w cs f) :
    Calls Try.prog 10 #[.agg cs.toArray] w (RefMakeRet w (cnfErr n f) (cnfOut n f)) := by
  obtain ⟨kd, c, A, tl, cap, B, kl, capk, rfl⟩ := form_shape h
  have hg := formV_good n
  obtain ⟨w3, hw3⟩ : ∃ w3, w3 = (w.alloc (.cells #[.int .i64 kd, .int .i64 c, .slice A tl cap, .slice B kl capk] 27)).alloc (.cells #[.int .i64 0, .slice none 0 0, .slice none 0 0] 33) := ⟨_, rfl⟩
  have h3 : Hid (Chg No w w3 ∧ w3.heap[w.heap.size]? = some (.cells #[.int .i64 kd, .int .i64 c, .slice A tl cap, .slice B kl capk] 27 (0, 0)) ∧ w3.heap[w.heap.size + 1]? = some (.cells #[.int .i64 0, .slice none 0 0, .slice none 0 0] 33 (0, 0)) ∧ w3.heap.size = w.heap.size + 2) := by
    rw [hw3]
    refine ⟨((Chg.refl _ _).alloc _).alloc _, at_old (heap_alloc_new _ _), at_new (by simp), by simp⟩
  have HI := Lib.hid (ref03Is_any (hg.no h h3.out.1))
  have hF3 : (formV n) (fun k => k < w.heap.size) w3 [.int .i64 kd, .int .i64 c, .slice A tl cap, .slice B kl capk] f := hg.no (hg.mono h (fun k hk _ => hk)) h3.out.1
  have HF3 := Lib.hid hF3
  clear h hF3
  cases hB : isB n f
  · have e1 : cnfErr n f = 5 := by unfold cnfErr; rw [hB]; rfl
    have e2 : cnfOut n f = (0, [], []) := by unfold cnfOut; rw [e1]; rfl
    rw [e1, e2]
    rw [← is_eq, hB] at HI
    clear e1 e2 HF3
    go_enter Try.func10, Try.ntmps10
    go_upto_region 1 with fail
    rw [← hw3]
    clear hw3
    obtain ⟨p0, p1, p2, p3⟩ := obj_four h3.out.2.1
    go_wp2_with (go_at_call 26; refine HI.out.mono ?_; rintro e w4 ⟨rfl, h4⟩; have H4 := Lib.hid h4; obtain ⟨r0, r1, r2, f0, f1, f2⟩ := obj_three (h4.obj h3.out.2.2.1 id); clear h4)
    refine bodyPost_ret (v := .tuple #[.agg #[.int .i64 0, .slice none 0 0, .slice none 0 0], .int .i64 5]) (by simp [results, Try.results10, go_sem, r0, r1, r2]) rfl ⟨none, 0, none, 0, rfl, Sl.empty, Sl.empty, ?_⟩
    exact chg_new (S := fun k => k = w.heap.size + 1) (h3.out.1.thenNo H4.out) ((((Chg.refl (fun k => k = w.heap.size + 1) _).setCell _ _ (fun _ => rfl)).setCell _ _ (fun _ => rfl)).setCell _ _ (fun _ => rfl)) (fun k hk => by omega)
  · obtain ⟨hon, hcn⟩ := is_only hB
    rw [← is_eq, hB] at HI
    have hal := atoms_len n f []
    simp only [List.length_nil, Nat.zero_add] at hal
    have HAt := Lib.hid (fun W (h : Chg No w3 W) => atoms_any n f (fun k => k < w3.heap.size) (fun k => k < w.heap.size) W _ (hg.no HF3.out h) hon (fun _ h => Nat.lt_of_lt_of_le h h3.out.1.size) (fun k hk => Nat.lt_of_lt_of_le hk h.size) (.slice none 0 0) [] (OwnL.nil _ _ _ _ _) (by simp; omega))
    have hr := litF_range (atomsF n f []) n f hon (atomsF n f []).length [] (Int.le_refl _)
    have HMk := Lib.hid (fun W (h : Chg (fun k => ¬ k < w3.heap.size) w3 W) AA ca (hA : Lins (fun k => k < W.heap.size) W AA (atomsF n f []) ca) => make1_all n f (fun k => k < W.heap.size) W _ (ElV.of_st hg (hg.chg HF3.out h (fun k hk g => g (Nat.lt_of_lt_of_le hk h3.out.1.size))) (fun k hk => Nat.lt_of_lt_of_le hk (Nat.le_trans h3.out.1.size h.size))) hon (fun k hk => hk) (atomsF n f []) AA ca hA (atomsF n f []).length (.slice none 0 0) [] (OwnL.nil _ _ _ _ _) (Int.le_refl _) (by omega) (by simp; omega))
    have e1 : cnfErr n f = if 8192 < (cnfAll n f).1 ∨ chk (cnfAll n f).1 (cnfAll n f).2 ≠ 0 then 2 else 0 := by unfold cnfErr; rw [if_pos hB]
    have e2 : cnfOut n f = if cnfErr n f = 0 then ((cnfAll n f).1, atomsF n f [], (cnfAll n f).2) else (0, [], []) := rfl
    unfold cnfAll at e1 e2
    rw [e1] at e2
    rw [e1, e2]
    clear e1 e2
    generalize hlt : litF n f (atomsF n f []) (atomsF n f []).length [] = r at *
    clear hlt
    generalize atomsF n f [] = l at *
    obtain ⟨rN, rO, rK⟩ := r
    simp only [List.length_nil] at hr HMk ⊢
    have hrN : rN ≤ 100000 := by omega
    have hrO : rO.length ≤ 200000 := by omega
    have hK1 : -100000 ≤ rK := by omega
    have hK2 : rK ≤ 100000 := by omega
    have hll : l.length ≤ 20480 := by omega
    obtain ⟨cl, hcl⟩ : ∃ cl, cl = rO ++ [[rK]] := ⟨_, rfl⟩
    have hcll : cl.length = rO.length + 1 := by rw [hcl]; simp
    rw [← hcl]
    have HCL := Lib.hid hcl
    have HCLL := Lib.hid hcll
    obtain ⟨er, her⟩ : ∃ er : Int, er = if 8192 < rN ∨ chk rN cl ≠ 0 then 2 else 0 := ⟨_, rfl⟩
    rw [← her]
    have HER := Lib.hid her
    clear her hcl hcll hr hal hcn hon HF3
    have HCk := Lib.hid (fun W AA ca (h : Rows2 Any W AA cl ca) => refCheck_any rN Any W AA cl ca h)
    go_enter Try.func10, Try.ntmps10
    go_upto_region 1 with fail
    rw [← hw3]
    clear hw3
    obtain ⟨p0, p1, p2, p3⟩ := obj_four h3.out.2.1
    go_upto_region 4 with (go_at_call 26; refine HI.out.mono ?_; rintro e w4 ⟨rfl, h4⟩; have H4 := Lib.hid h4; clear h4)
    clear p0 p1 p2 p3
    obtain ⟨p0, p1, p2, p3⟩ := obj_four (H4.out.obj h3.out.2.1 id)
    go_upto_region 5 with (go_at_call 27; refine (HAt.out w4 H4.out).mono ?_; rintro e w5 ⟨v5, rfl, g5, c5⟩; have G5 := Lib.hid g5; have C5 := Lib.hid (H4.out.no.trans c5 (fun k hk _ => hk)); clear g5 c5)
    obtain ⟨AA, ca, rfl, hsl⟩ := G5.out.sl linV_good (by show l.length * 32 ≤ big; unfold big; omega)
    have HLn : Hid (Lins (fun k => k < w5.heap.size) w5 AA l ca) := hsl.mono linE_good (fun k hk _ => hk)
    clear hsl
    clear p0 p1 p2 p3
    obtain ⟨p0, p1, p2, p3⟩ := obj_four (C5.out.obj h3.out.2.1 (fun g => g (by have := h3.out.2.2.2; omega)))
    go_upto_region 6 with (go_at_call 28; refine (HMk.out w5 C5.out AA ca HLn.out).mono ?_; rintro e w6 ⟨v6, rfl, g6, c6⟩; have G6 := Lib.hid g6; have C6 := Lib.hid c6; clear g6 c6)
    have hsz5 : Hid (w3.heap.size ≤ w5.heap.size) := C5.out.size
    have hsz6 : Hid (w5.heap.size ≤ w6.heap.size) := C6.out.size
    have HROW : Hid (rowV (fun q => (¬ q < w5.heap.size) ∧ v6.ownBlock ≠ some q) (w6.alloc (.cells #[.int .i64 rK] 3)) [.slice (some ⟨w6.heap.size, 0, none⟩) 1 1] [rK]) :=
      row_of rfl (intsW_of_block (l := [rK]) (heap_alloc_new _ _) ⟨by have := hsz6.out; omega, fun g => by have := (G6.out.mine _ g).2; omega⟩ (by simp [big]) (by simp; exact I64.of (by omega) (by omega)))
    have HOW1 : Hid (ORows (fun k => k < w5.heap.size) (w6.alloc (.cells #[.int .i64 rK] 3)) v6 rO) := G6.out.no rowV_good ((Chg.refl _ _).alloc _)
    have HFR : Hid (∀ q, (w6.alloc (.cells #[.int .i64 rK] 3)).heap.size ≤ q → ¬ q < w5.heap.size) := fun q hq => by
      have := (((Chg.refl No w6).alloc (.cells #[.int .i64 rK] 3))).size
      have := hsz6.out
      omega
    have HSZ1 : Hid ((w6.alloc (.cells #[.int .i64 rK] 3)).heap.size = w6.heap.size + 1) := by unfold Hid; simp
    have HP : Hid (∀ A7 cap7 w7, ORows (fun k => k < w5.heap.size) w7 (.slice A7 (rO.length + 1) cap7) (rO ++ [[rK]]) → Chg (fun q => v6.ownBlock = some q) (w6.alloc (.cells #[.int .i64 rK] 3)) w7 →
        (w7.cell? ⟨w.heap.size + 1, 0, none⟩ = some (.int .i64 0) ∧ w7.cell? ⟨w.heap.size + 1, 1, none⟩ = some (.slice none 0 0) ∧ w7.cell? ⟨w.heap.size + 1, 2, none⟩ = some (.slice none 0 0) ∧ w7.frozen? ⟨w.heap.size + 1, 0, none⟩ = false ∧ w7.frozen? ⟨w.heap.size + 1, 1, none⟩ = false ∧ w7.frozen? ⟨w.heap.size + 1, 2, none⟩ = false) ∧
        Hid (∀ er W, ((w7.setCell ⟨w.heap.size + 1, 0, none⟩ (.int .i64 0)).setCell ⟨w.heap.size + 1, 1, none⟩ (.slice none 0 0)).setCell ⟨w.heap.size + 1, 2, none⟩ (.slice none 0 0) = W → RefMakeRet w er (0, [], []) (.returned (.tuple #[.agg #[.int .i64 0, .slice none 0 0, .slice none 0 0], .int .i64 er])) W) ∧
        Hid (∀ er W, ((w7.setCell ⟨w.heap.size + 1, 0, none⟩ (.int .i64 rN)).setCell ⟨w.heap.size + 1, 1, none⟩ (.slice AA l.length ca)).setCell ⟨w.heap.size + 1, 2, none⟩ (.slice A7 (rO.length + 1) cap7) = W → RefMakeRet w er (rN, l, cl) (.returned (.tuple #[.agg #[.int .i64 rN, .slice AA l.length ca, .slice A7 (rO.length + 1) cap7], .int .i64 er])) W) ∧
        Hid (Rows2 Any w7 A7 cl cap7)) := fun A7 cap7 w7 g1 g2 => by
      have z3 := h3.out.2.2.2
      have z5 := hsz5.out
      have z6 := hsz6.out
      have hv6 : ∀ q, v6.ownBlock = some q → ¬ q < w5.heap.size := fun q hq => (G6.out.mine q hq).1
      have c7 : Chg (fun k => ¬ k < w5.heap.size) w5 w7 := (C6.out.thenNo ((Chg.refl _ _).alloc _)).trans g2 (fun q hq _ => hv6 q hq)
      have o7 : w7.heap[w.heap.size + 1]? = some (.cells #[.int .i64 0, .slice none 0 0, .slice none 0 0] 33 (0, 0)) := c7.obj (C5.out.obj h3.out.2.2.1 (fun g => g (by omega))) (fun g => g (by omega))
      have c07 : Chg No w w7 := chg_new (chg_new h3.out.1 C5.out (fun k hk => by omega)) c7 (fun k hk => by omega)
      have hset : ∀ u0 u1 u2, Chg (fun k => k = w.heap.size + 1) w7 (((w7.setCell ⟨w.heap.size + 1, 0, none⟩ u0).setCell ⟨w.heap.size + 1, 1, none⟩ u1).setCell ⟨w.heap.size + 1, 2, none⟩ u2) := fun u0 u1 u2 =>
        (((Chg.refl (fun k => k = w.heap.size + 1) _).setCell _ _ (fun _ => rfl)).setCell _ _ (fun _ => rfl)).setCell _ _ (fun _ => rfl)
      have hl5 : Lins (fun k => (k < w5.heap.size ∧ k ≠ w.heap.size + 1)) w5 AA l ca := by
        obtain ⟨AA', ca', e', hs'⟩ := G5.out.sl linV_good (by show l.length * 32 ≤ big; unfold big; omega)
        cases e'
        exact hs'.mono linE_good (fun k hk h => ⟨hk, fun e => h.elim (fun h => h (by omega)) (fun h => by omega)⟩)
      obtain ⟨B7, cb7, e7, hs7⟩ := g1.sl rowV_good (by show (rO ++ [[rK]]).length * 24 ≤ big; simp; unfold big; omega)
      rw [← HCL.out] at hs7 e7
      have hlen : cl.length = rO.length + 1 := HCLL.out
      injection e7 with e71 e72 e73
      subst e71; subst e73
      have hrows : Rows2 (fun k => ¬ k < w5.heap.size) w7 A7 cl cap7 := rows_mem (hs7.mono rowV_good.mem (fun k _ h => h.elim id id))
      refine ⟨obj_three o7, fun er W hW => ⟨none, 0, none, 0, rfl, Sl.empty, Sl.empty, ?_⟩, fun er W hW => ⟨AA, ca, A7, cap7, by rw [hlen], ?_, ?_, ?_⟩, hrows.mono rowE_good (fun _ _ _ => trivial)⟩
      · subst hW; exact chg_new c07 (hset _ _ _) (fun k hk => by omega)
      · subst hW
        exact ((hl5.chg linE_good c7 (fun k hk g => g hk.1)).chg linE_good (hset _ _ _) (fun k hk g => hk.2 g)).mono linE_good (fun _ _ _ => trivial)
      · subst hW
        exact (hrows.chg rowE_good (hset _ _ _) (fun k hk g => hk (by omega))).mono rowE_good (fun _ _ _ => trivial)
      · subst hW; exact chg_new c07 (hset _ _ _) (fun k hk => by omega)
    have hA0 : (l.length : Int) ≤ 100000 := by omega
    clear HMk HAt HLn G5 HI hsz5 hsz6
    by_cases hN : 8192 < rN
    · have he : er = 2 := by rw [HER.out, if_pos (.inl hN)]
      subst he
      have hc : ((if (2 : Int) = 0 then (rN, l, cl) else (0, [], [])) : Int × List Lin × List (List Int)) = (0, [], []) := rfl
      rw [hc]
      have hd : decide (rN > 8192) = true := by simpa using hN
      clear HER HCk hc
      go_wp2_with (at_builtin; refine wpList_pushL' rowV_good rowsTyC rfl (.tmp 25) (.tmp 28) rfl HFR.out HOW1.out rfl HROW.out (by simp [Value.oneCell']) HSZ1.out rfl (show (rO.length + 1) * 24 ≤ 140737488355328 by omega) ?_; intro A7 cap7 w7 g1 g2; obtain ⟨⟨r0, r1, r2, f0, f1, f2⟩, E1, E2, _⟩ := HP.out A7 cap7 w7 g1 g2; clear g1 g2)
      exact bodyPost_ret (v := .tuple #[.agg #[.int .i64 0, .slice none 0 0, .slice none 0 0], .int .i64 2]) (by simp [results, Try.results10, go_sem, r0, r1, r2]) rfl (E1.out _ _ rfl)
    · by_cases hc0 : chk rN cl = 0
      · have he : er = 0 := by rw [HER.out, if_neg (fun h => h.elim hN (fun h => h hc0))]
        subst he
        have hc : ((if (0 : Int) = 0 then (rN, l, cl) else (0, [], [])) : Int × List Lin × List (List Int)) = (rN, l, cl) := rfl
        rw [hc]
        have hd : decide (rN > 8192) = false := by simpa using hN
        rw [hc0] at HCk
        clear HER hc hc0
        go_wp2_with (first
          | (at_builtin; refine wpList_pushL' rowV_good rowsTyC rfl (.tmp 25) (.tmp 28) rfl HFR.out HOW1.out rfl HROW.out (by simp [Value.oneCell']) HSZ1.out rfl (show (rO.length + 1) * 24 ≤ 140737488355328 by omega) ?_; intro A7 cap7 w7 g1 g2; obtain ⟨⟨r0, r1, r2, f0, f1, f2⟩, E1, E2, E3⟩ := HP.out A7 cap7 w7 g1 g2; rw [HCLL.out] at HCk; clear g1 g2)
          | (go_at_call 29; refine (HCk.out _ _ _ E3.out).mono ?_; rintro e w8 ⟨rfl, rfl⟩))
        exact bodyPost_ret (v := .tuple #[.agg #[.int .i64 rN, .slice AA l.length ca, .slice A7 (rO.length + 1) cap7], .int .i64 0]) (by simp [results, Try.results10, go_sem, r0, r1, r2]) rfl (E2.out _ _ rfl)
      · have he : er = 2 := by rw [HER.out, if_pos (.inr hc0)]
        subst he
        have hc : ((if (2 : Int) = 0 then (rN, l, cl) else (0, [], [])) : Int × List Lin × List (List Int)) = (0, [], []) := rfl
        rw [hc]
        have hd : decide (rN > 8192) = false := by simpa using hN
        have hd2 : (chk rN cl != 0) = true := by simpa using hc0
        clear HER hc hc0
        generalize chk rN cl = ck at *
        go_wp2_with (first
          | (at_builtin; refine wpList_pushL' rowV_good rowsTyC rfl (.tmp 25) (.tmp 28) rfl HFR.out HOW1.out rfl HROW.out (by simp [Value.oneCell']) HSZ1.out rfl (show (rO.length + 1) * 24 ≤ 140737488355328 by omega) ?_; intro A7 cap7 w7 g1 g2; obtain ⟨⟨r0, r1, r2, f0, f1, f2⟩, E1, E2, E3⟩ := HP.out A7 cap7 w7 g1 g2; rw [HCLL.out] at HCk; clear g1 g2)
          | (go_at_call 29; refine (HCk.out _ _ _ E3.out).mono ?_; rintro e w8 ⟨rfl, rfl⟩))
        exact bodyPost_ret (v := .tuple #[.agg #[.int .i64 0, .slice none 0 0, .slice none 0 0], .int .i64 2]) (by simp [results, Try.results10, go_sem, r0, r1, r2]) rfl (E1.out _ _ rfl)
end Go.Proofs.Ytlejcnbpodmleaa
/- CnfI -/
namespace Go.Proofs.Ytlejcnbpodmleaa
open Go Go.RowKit

theorem monosTyC : SliceTy Try.prog 22 49 2 16 (.agg #[.int .i64 0, .int .i64 0]) := ⟨Try.underlying22, by kernel_rfl, rfl, by decide, by decide⟩
theorem mono_oneC {R : Nat → Prop} {w : World} {cs : List Value} {x : Mono} (h : monoV R w cs x) : ∀ u ∈ cs, u.oneCell' = true := by
  obtain ⟨rfl, _⟩ := mono_cells h
  simp [Value.oneCell']
set_option maxHeartbeats 400000 in
theorem cloneMonoC_any {R : Nat → Prop} {w : World} {A : Option Addr} {l : List Mono} {cap : Nat} (hl : Monos R w A l cap) :
    Calls Try.prog 25 #[.slice A l.length cap] w fun e w' => ∃ A' cap', e = .returned (.slice A' l.length cap') ∧ OwnL monoV 49 (fun k => w.heap.size ≤ k) R w' (.slice A' l.length cap') l ∧ Chg No w w' := by
  cases hA : A with
  | none =>
    subst hA
    have h0 : l = [] := List.eq_nil_of_length_eq_zero (by have := hl.le; have := hl.nil rfl; omega)
    have hc : cap = 0 := hl.nil rfl
    subst h0; subst hc
    have he : ∀ W, (binOp .eql 22 (.slice none 0 0) (.slice none 0 0)).run Try.prog W = .ok (.bool true) W := fun W => by kernel_rfl
    clear hl
    go_enter Try.func25, Try.ntmps25
    go_wp2
    go_ret
    exact ⟨none, 0, rfl, OwnL.nil _ _ _ _ _, Chg.refl _ _⟩
  | some a =>
    subst hA
    have HL := Lib.hid hl
    have he := fun W => Lib.run_eql_slice_nil (P := Try.prog) W 22 49 (some a) l.length cap 0 0 Try.underlying22
    clear hl
    go_enter Try.func25, Try.ntmps25
    go_wp2_with (at_builtin; refine wpList_copyL monoV_good mono_oneC monosTyC rfl (.tmp 5) (.tmp 6) rfl rfl rfl HL.out rfl ?_; intro A' cap' w' h1 h2 h3)
    go_ret
    exact ⟨A', cap', rfl, h1, h2⟩
/-- A clone is a slice of terms in new blocks. -/
theorem clone_monos {M R : Nat → Prop} {w : World} {A : Option Addr} {n cap : Nat} {l : List Mono} (h : OwnL monoV 49 M R w (.slice A n cap) l) (hb : l.length * 16 ≤ big) : Monos M w A l cap := by
  obtain ⟨C, h1, h2, h3⟩ := h
  have h' : OwnL monoV 49 M No w (.slice A n cap) l := ⟨C, h1, h2, fun i hi hi' => by
    obtain ⟨e, g1, g2⟩ := mono_cells (h3 i hi hi')
    rw [e]
    exact mono_of g1 g2⟩
  exact (OwnL.sl_of monoV_good h' hb).2.mono monoE_good (fun k _ hk => hk.elim id (fun f => f.elim))

/-- A form whose terms may be written. -/
abbrev linW : ElV Lin := pairV intV (slV (WrE MonoE) 2) 32 (by decide)
theorem linW_good : linW.Good := pairV_good intV_good (slV_good (wrE_good monoE_good) 2) _ _
theorem linW_of {R : Nat → Prop} {w : World} {A : Option Addr} {l : Lin} {cap : Nat} (hi : I64 l.1) (h : Sl (WrE MonoE) 2 R w A l.2 cap) : linW R w [.int .i64 l.1, .slice A l.2.length cap] l :=
  ⟨[.int .i64 l.1], [.slice A l.2.length cap], rfl, rfl, ⟨rfl, hi⟩, A, cap, rfl, h⟩
theorem linW_lin {R : Nat → Prop} {w : World} {cs : List Value} {l : Lin} (h : linW R w cs l) : linV R w cs l := by
  obtain ⟨c1, c2, e, e2, h1, A, cap, e3, h2⟩ := h
  exact ⟨c1, c2, e, e2, h1, A, cap, e3, h2.unwr⟩
theorem ownW_lins {M R : Nat → Prop} {w : World} {v : Value} {l : List Lin} (h : OwnL linW 24 M R w v l) : OwnL linV 24 M R w v l := by
  obtain ⟨C, h1, h2, h3⟩ := h
  exact ⟨C, h1, h2, fun i a b => linW_lin (h3 i a b)⟩
theorem OwnL.frozen {α : Type} {V : ElV α} {e : TypeId} {M R : Nat → Prop} {w : World} {A : Option Addr} {n cap : Nat} {l : List α} (h : OwnL V e M R w (.slice A n cap) l) : ∀ g o, A = some ⟨g, o, none⟩ → ∀ j, w.frozen? ⟨g, j, none⟩ = false := by
  obtain ⟨C, h1, _⟩ := h
  exact h1.frozen

/-- What Make answers. -/
def MakeRet9 (w : World) (er : Int) (o : Int × List Lin × List (List Int)) (e : Ending) (w' : World) : Prop :=
  ∃ AA ca BB cb Z, e = .returned (.tuple #[.agg #[.int .i64 o.1, .slice AA o.2.1.length ca, .slice BB o.2.2.length cb], errV 43 er]) ∧ w.heap.size ≤ Z ∧
    OwnL rowV 47 (fun k => w.heap.size ≤ k ∧ k < Z) (fun k => w.heap.size ≤ k ∧ k < Z) w' (.slice BB o.2.2.length cb) o.2.2 ∧ OwnL linW 24 (fun k => Z ≤ k) (fun k => Z ≤ k) w' (.slice AA o.2.1.length ca) o.2.1 ∧ Chg No w w'
theorem MakeRet9.bad {w w' : World} (er : Int) (h : Chg No w w') : MakeRet9 w er (0, [], []) (.returned (.tuple #[.agg #[.int .i64 0, .slice none 0 0, .slice none 0 0], errV 43 er])) w' :=
  ⟨none, 0, none, 0, w.heap.size, rfl, Nat.le_refl _, OwnL.nil _ _ _ _ _, OwnL.nil _ _ _ _ _, h⟩

set_option maxRecDepth 100000 in
set_option maxHeartbeats 4000000 in
theorem make9_any {n : Nat} {f : FT n} {R : Nat → Prop} {w : World} {cs : List Value} (h : (formV n) R w cs f) :
    Calls Try.prog 9 #[.agg cs.toArray] w (MakeRet9 w (cnfErr n f) (cnfOut n f)) := by
  obtain ⟨kd, c, A, tl, cap, B, kl, capk, rfl⟩ := form_shape h
  have hg := formV_good n
  obtain ⟨w3, hw3⟩ : ∃ w3, w3 = (w.alloc (.cells #[.int .i64 kd, .int .i64 c, .slice A tl cap, .slice B kl capk] 27)).alloc (.cells #[.int .i64 0, .slice none 0 0, .slice none 0 0] 33) := ⟨_, rfl⟩
  have h3 : Hid (Chg No w w3 ∧ w3.heap[w.heap.size]? = some (.cells #[.int .i64 kd, .int .i64 c, .slice A tl cap, .slice B kl capk] 27 (0, 0)) ∧ w3.heap[w.heap.size + 1]? = some (.cells #[.int .i64 0, .slice none 0 0, .slice none 0 0] 33 (0, 0)) ∧ w3.heap.size = w.heap.size + 2) := by
    rw [hw3]
    refine ⟨((Chg.refl _ _).alloc _).alloc _, at_old (heap_alloc_new _ _), at_new (by simp), by simp⟩
  have HI := Lib.hid (normIs_any (hg.no h h3.out.1))
  have hF3 : (formV n) (fun k => k < w.heap.size) w3 [.int .i64 kd, .int .i64 c, .slice A tl cap, .slice B kl capk] f := hg.no (hg.mono h (fun k hk _ => hk)) h3.out.1
  have HF3 := Lib.hid hF3
  clear h hF3
  have hset : ∀ (W : World) u0 u1 u2, Chg (fun k => k = w.heap.size + 1) W (((W.setCell ⟨w.heap.size + 1, 0, none⟩ u0).setCell ⟨w.heap.size + 1, 1, none⟩ u1).setCell ⟨w.heap.size + 1, 2, none⟩ u2) := fun W u0 u1 u2 =>
    (((Chg.refl (fun k => k = w.heap.size + 1) _).setCell _ _ (fun _ => rfl)).setCell _ _ (fun _ => rfl)).setCell _ _ (fun _ => rfl)
  have HSET := Lib.hid hset
  clear hset
  cases hB : isB n f
  · have e1 : cnfErr n f = 5 := by unfold cnfErr; rw [hB]; rfl
    have e2 : cnfOut n f = (0, [], []) := by unfold cnfOut; rw [e1]; rfl
    rw [e1, e2]
    rw [hB] at HI
    clear e1 e2 HF3
    go_enter Try.func9, Try.ntmps9
    go_upto_region 1 with fail
    rw [← hw3]
    clear hw3
    obtain ⟨p0, p1, p2, p3⟩ := obj_four h3.out.2.1
    go_wp2_with (go_at_call 21; refine HI.out.mono ?_; rintro e w4 ⟨rfl, h4⟩; have H4 := Lib.hid h4; obtain ⟨r0, r1, r2, f0, f1, f2⟩ := obj_three (h4.obj h3.out.2.2.1 id); clear h4)
    refine bodyPost_ret (v := .tuple #[.agg #[.int .i64 0, .slice none 0 0, .slice none 0 0], .iface 43 (.int .i64 5)]) (by simp [results, Try.results9, go_sem, r0, r1, r2]) rfl ?_
    exact MakeRet9.bad 5 (chg_new (h3.out.1.thenNo H4.out) (HSET.out _ _ _ _) (fun k hk => by omega))
  · obtain ⟨hon, hcn⟩ := is_only hB
    rw [hB] at HI
    have hal := atoms_len n f []
    simp only [List.length_nil, Nat.zero_add] at hal
    have hr := litF_range (atomsF n f []) n f hon (atomsF n f []).length [] (Int.le_refl _)
    have HGa := Lib.hid (fun (X : Nat → Prop) mb W hF hX hXs vN vC vL hobj => gather_any n f X mb W [.int .i64 kd, .int .i64 c, .slice A tl cap, .slice B kl capk] hF hon hX hXs (.slice none 0 0) [] vN vC vL hobj (OwnL.nil _ _ _ _ _) (by simp; omega))
    have HLi := Lib.hid (fun (X : Nat → Prop) mb W hF hX hXs AA ca hA vL hobj => lit_any n f X mb W [.int .i64 kd, .int .i64 c, .slice A tl cap, .slice B kl capk] hF hon hX hXs (atomsF n f []) AA ca hA (atomsF n f []).length (.slice none 0 0) [] vL hobj (OwnL.nil _ _ _ _ _) (Int.le_refl _) (by omega) (by simp; omega))
    have e1 : cnfErr n f = if 8192 < (cnfAll n f).1 ∨ chk (cnfAll n f).1 (cnfAll n f).2 ≠ 0 then 2 else 0 := by unfold cnfErr; rw [if_pos hB]
    have e2 : cnfOut n f = if cnfErr n f = 0 then ((cnfAll n f).1, atomsF n f [], (cnfAll n f).2) else (0, [], []) := rfl
    unfold cnfAll at e1 e2
    rw [e1] at e2
    rw [e1, e2]
    clear e1 e2
    generalize hlt : litF n f (atomsF n f []) (atomsF n f []).length [] = r at *
    clear hlt
    generalize atomsF n f [] = l at *
    obtain ⟨rN, rO, rK⟩ := r
    simp only [List.length_nil] at hr HLi ⊢
    have hrN : rN ≤ 100000 := by omega
    have hrN0 : 0 ≤ rN := by omega
    have hrO : rO.length ≤ 200000 := by omega
    have hK1 : -100000 ≤ rK := by omega
    have hK2 : rK ≤ 100000 := by omega
    have hll : l.length ≤ 20480 := by omega
    obtain ⟨cl, hcl⟩ : ∃ cl, cl = rO ++ [[rK]] := ⟨_, rfl⟩
    have hcll : cl.length = rO.length + 1 := by rw [hcl]; simp
    rw [← hcl]
    have HCL := Lib.hid hcl
    have HCLL := Lib.hid hcll
    obtain ⟨er, her⟩ : ∃ er : Int, er = if 8192 < rN ∨ chk rN cl ≠ 0 then 2 else 0 := ⟨_, rfl⟩
    rw [← her]
    have HER := Lib.hid her
    obtain ⟨ou, hou⟩ : ∃ ou, ou = (if er = 0 then (rN, l, cl) else (0, [], []) : Int × List Lin × List (List Int)) := ⟨_, rfl⟩
    rw [← hou]
    have HOU := Lib.hid hou
    clear her hcl hcll hr hal hcn hon hou
    go_enter Try.func9, Try.ntmps9
    go_upto_region 1 with fail
    rw [← hw3]
    clear hw3
    obtain ⟨p0, p1, p2, p3⟩ := obj_four h3.out.2.1
    go_upto_region 4 with (go_at_call 21; refine HI.out.mono ?_; rintro e w4 ⟨rfl, h4⟩; have H4 := Lib.hid h4; clear h4)
    clear p0 p1 p2 p3 HI
    obtain ⟨w5, hw5⟩ : ∃ w5, w5 = w4.alloc (.cells #[.int .i64 0, .slice none 0 0, .slice none 0 0, .bool false] 61) := ⟨_, rfl⟩
    rw [← hw5]
    have h5 : Hid (Chg No w3 w5 ∧ w5.heap[w4.heap.size]? = some (.cells #[.int .i64 0, .slice none 0 0, .slice none 0 0, .bool false] 61 (0, 0)) ∧ w5.heap.size = w4.heap.size + 1 ∧ w.heap.size + 2 ≤ w4.heap.size) := by
      rw [hw5]
      exact ⟨H4.out.alloc _, heap_alloc_new _ _, by simp, by have := H4.out.size; have := h3.out.2.2.2; omega⟩
    clear hw5
    obtain ⟨p0, p1, p2, p3⟩ := obj_four (h5.out.1.obj h3.out.2.1 id)
    have HG5 := Lib.hid (HGa.out (fun k => k < w5.heap.size) w4.heap.size w5 (ElV.of_st hg (hg.no HF3.out h5.out.1) (fun k hk => ⟨by have := h5.out.2.2; omega, by have := h5.out.2.2; omega⟩)) (by have := h5.out.2.2.1; omega) (fun k hk => hk) _ _ _ h5.out.2.1)
    clear HGa
    go_upto_region 5 with (go_at_call 22; refine HG5.out.mono ?_; rintro e w6 ⟨v6, rfl, o6, g6, c6⟩; have O6 := Lib.hid o6; have G6 := Lib.hid g6; have C6 := Lib.hid c6; clear o6 g6 c6)
    clear p0 p1 p2 p3 HG5
    obtain ⟨AA, ca, rfl, _⟩ := G6.out.sl linV_good (by show l.length * 32 ≤ big; unfold big; omega)
    obtain ⟨m0, m1, m2, m3⟩ := obj_four O6.out
    have mf := obj_frozen O6.out 0
    have H7 : Hid (∀ w7, w7 = w6.setCell ⟨w4.heap.size, 0, none⟩ (.int .i64 l.length) → Chg (Mk (fun k => k < w5.heap.size) w4.heap.size) w5 w7 ∧ w7.heap[w4.heap.size]? = some (.cells #[.int .i64 l.length, .slice AA l.length ca, .slice none 0 0, .bool false] 61 (0, 0)) ∧
        Lins (St9 (fun k => k < w7.heap.size) w4.heap.size) w7 AA l ca ∧ w5.heap.size ≤ w7.heap.size) := fun w7 hw7 => by
      subst hw7
      have hs := (Chg.refl (fun q => q = w4.heap.size) w6).setCell ⟨w4.heap.size, 0, none⟩ (.int .i64 l.length) (fun _ => rfl)
      have h2 := G6.out.chg linV_good hs (fun k hk e => (G6.out.mine k hk).1 (by have := h5.out.2.2.1; omega)) (fun k hk _ e => hk.2 e)
      obtain ⟨AA', ca', e', hs'⟩ := h2.sl linV_good (by show l.length * 32 ≤ big; unfold big; omega)
      cases e'
      have hc := C6.out.trans hs (fun k hk _ => .inl hk)
      refine ⟨hc, obj_setC _ O6.out, hs'.mono linE_good (fun k hk h => ⟨hk, fun e => ?_⟩), hc.size⟩
      have := h5.out.2.2.1
      rcases h with h | h
      · exact h (by omega)
      · exact h.2 e
    go_upto_region 6 with fail
    obtain ⟨w7, hw7⟩ : ∃ w7, w7 = w6.setCell ⟨w4.heap.size, 0, none⟩ (.int .i64 l.length) := ⟨_, rfl⟩
    rw [← hw7]
    have K7 := Lib.hid (H7.out w7 hw7)
    clear hw7 H7 m0 m1 m2 m3 mf
    have B1 : ∀ k, k < w5.heap.size → k ≠ w4.heap.size → ¬ Mk (fun k => k < w5.heap.size) w4.heap.size k := fun k h1 h2 g => g.elim h2 (fun g => g h1)
    have HB1 := Lib.hid B1
    clear B1
    obtain ⟨p0, p1, p2, p3⟩ := obj_four (K7.out.1.obj (h5.out.1.obj h3.out.2.1 id) (HB1.out _ (by have := h5.out.2.2; omega) (by have := h5.out.2.2; omega)))
    have HL7 := Lib.hid (HLi.out (fun k => k < w7.heap.size) w4.heap.size w7 (ElV.of_st hg (hg.chg (hg.no HF3.out h5.out.1) K7.out.1 (fun k hk => HB1.out k (by have := h5.out.2.2; omega) (by have := h5.out.2.2; omega))) (fun k hk => ⟨by have := h5.out.2.2; have := K7.out.2.2.2; omega, by have := h5.out.2.2; omega⟩)) (by have := h5.out.2.2.1; have := K7.out.2.2.2; omega) (fun k hk => hk) AA ca K7.out.2.2.1 _ K7.out.2.1)
    clear HLi
    go_upto_region 7 with (go_at_call 23; refine HL7.out.mono ?_; rintro e w8 ⟨v8, rfl, o8, g8, c8⟩; have O8 := Lib.hid o8; have G8 := Lib.hid g8; have C8 := Lib.hid c8; clear o8 g8 c8)
    clear p0 p1 p2 p3 HL7
    obtain ⟨m0, m1, m2, m3⟩ := obj_four O8.out
    have hz8 : Hid (w7.heap.size ≤ w8.heap.size) := C8.out.size
    have HROW : Hid (rowV (fun q => (¬ q < w7.heap.size) ∧ v8.ownBlock ≠ some q) (w8.alloc (.cells #[.int .i64 rK] 3)) [.slice (some ⟨w8.heap.size, 0, none⟩) 1 1] [rK]) :=
      row_of rfl (intsW_of_block (l := [rK]) (heap_alloc_new _ _) ⟨by have := hz8.out; omega, fun g => by have := (G8.out.mine _ g).2; omega⟩ (by simp [big]) (by simp; exact I64.of (by omega) (by omega)))
    have HOW1 : Hid (ORows (fun k => k < w7.heap.size) (w8.alloc (.cells #[.int .i64 rK] 3)) v8 rO) := G8.out.no rowV_good ((Chg.refl _ _).alloc _)
    have HFR : Hid (∀ q, (w8.alloc (.cells #[.int .i64 rK] 3)).heap.size ≤ q → ¬ q < w7.heap.size) := fun q hq => by
      have := (((Chg.refl No w8).alloc (.cells #[.int .i64 rK] 3))).size
      have := hz8.out
      omega
    have HSZ1 : Hid ((w8.alloc (.cells #[.int .i64 rK] 3)).heap.size = w8.heap.size + 1) := by unfold Hid; simp
    have HP : Hid (∀ A9 cap9 w9, ORows (fun k => k < w7.heap.size) w9 (.slice A9 (rO.length + 1) cap9) (rO ++ [[rK]]) → Chg (fun q => v8.ownBlock = some q) (w8.alloc (.cells #[.int .i64 rK] 3)) w9 →
        (w9.cell? ⟨w4.heap.size, 2, none⟩ = some v8 ∧ w9.frozen? ⟨w4.heap.size, 2, none⟩ = false) ∧
        Hid (∀ wA, wA = w9.setCell ⟨w4.heap.size, 2, none⟩ (.slice A9 (rO.length + 1) cap9) → Chg No w wA ∧ wA.heap[w.heap.size + 1]? = some (.cells #[.int .i64 0, .slice none 0 0, .slice none 0 0] 33 (0, 0)) ∧
          wA.heap[w4.heap.size]? = some (.cells #[.int .i64 rN, .slice AA l.length ca, .slice A9 (rO.length + 1) cap9, .bool false] 61 (0, 0)) ∧ OwnL rowV 47 (fun k => w4.heap.size < k) (fun k => w4.heap.size < k) wA (.slice A9 (rO.length + 1) cap9) cl ∧
          Lins (fun k => k ≠ w4.heap.size) wA AA l ca)) := fun A9 cap9 w9 g1 g2 => by
      have z3 := h3.out.2.2.2
      have z5 := h5.out.2.2
      have z7 := K7.out.2.2.2
      have z8 := hz8.out
      have hv8 : ∀ q, v8.ownBlock = some q → ¬ q < w7.heap.size := fun q hq => (G8.out.mine q hq).1
      have c9 : Chg (Mk (fun k => k < w7.heap.size) w4.heap.size) w7 w9 := (C8.out.thenNo ((Chg.refl _ _).alloc _)).trans g2 (fun q hq _ => .inr (hv8 q hq))
      have o9 : w9.heap[w4.heap.size]? = some (.cells #[.int .i64 rN, .slice AA l.length ca, v8, .bool false] 61 (0, 0)) := g2.obj (((Chg.refl No w8).alloc _).obj O8.out id) (fun e => hv8 _ e (by omega))
      refine ⟨⟨(obj_four o9).2.2.1, obj_frozen o9 2⟩, fun wA hwA => ?_⟩
      subst hwA
      have hs := (Chg.refl (fun q => q = w4.heap.size) w9).setCell ⟨w4.heap.size, 2, none⟩ (.slice A9 (rO.length + 1) cap9) (fun _ => rfl)
      have cA : Chg (Mk (fun k => k < w7.heap.size) w4.heap.size) w7 (w9.setCell ⟨w4.heap.size, 2, none⟩ (.slice A9 (rO.length + 1) cap9)) := c9.trans hs (fun k hk _ => .inl hk)
      have keep : ∀ k, k < w7.heap.size → k ≠ w4.heap.size → ¬ Mk (fun k => k < w7.heap.size) w4.heap.size k := fun k h1 h2 g => g.elim h2 (fun g => g h1)
      refine ⟨chg_new (chg_new (h3.out.1.thenNo h5.out.1) K7.out.1 (fun k hk => ?_)) cA (fun k hk => ?_), cA.obj (K7.out.1.obj (h5.out.1.obj h3.out.2.2.1 id) (HB1.out _ (by omega) (by omega))) (keep _ (by omega) (by omega)), obj_setC _ o9, ?_, ?_⟩
      · rcases hk with hk | hk
        · omega
        · have : ¬ k < w5.heap.size := hk
          omega
      · rcases hk with hk | hk
        · omega
        · have : ¬ k < w7.heap.size := hk
          omega
      · rw [HCL.out]
        refine (g1.chg rowV_good hs (fun k hk e => (g1.mine k hk).1 (by omega)) (fun k hk _ e => hk (by omega))).mono rowV_good (fun k _ h => ?_) (fun k _ h => ?_)
        · have : ¬ k < w7.heap.size := h
          omega
        · have : ¬ k < w7.heap.size := h
          omega
      · exact (K7.out.2.2.1.chg linE_good cA (fun k hk => keep k hk.1 hk.2)).mono linE_good (fun k _ hk => hk.2)
    clear G8 C8 O6 G6 C6
    go_upto_region 8 with (at_builtin; refine wpList_pushL' rowV_good rowsTyC rfl (.tmp 37) (.tmp 40) rfl HFR.out HOW1.out rfl HROW.out (by simp [Value.oneCell']) HSZ1.out rfl (show (rO.length + 1) * 24 ≤ 140737488355328 by omega) ?_; intro A9 cap9 w9 g1 g2; obtain ⟨⟨q1, q2⟩, GP⟩ := HP.out A9 cap9 w9 g1 g2; clear g1 g2)
    obtain ⟨wA, hwA⟩ : ∃ wA, wA = w9.setCell ⟨w4.heap.size, 2, none⟩ (.slice A9 (rO.length + 1) cap9) := ⟨_, rfl⟩
    rw [← hwA]
    have GA := Lib.hid (GP.out wA hwA)
    clear hwA GP HP HROW HOW1 HFR HSZ1 m0 m1 m2 m3 q1 q2 O8 hz8 K7 HB1 HF3
    obtain ⟨m0, m1, m2, m3⟩ := obj_four GA.out.2.2.1
    have HCH : Hid (∀ d os, Calls Try.prog 24 #[.int .i64 rN, .slice A9 (rO.length + 1) cap9] (later wA d os) fun e w' => e = .returned (errV 43 (chk rN cl)) ∧ Chg No (later wA d os) w') := fun d os => by
      have h1 := GA.out.2.2.2.1.no rowV_good (chg_later wA d os)
      obtain ⟨A', c', e', hs⟩ := h1.sl rowV_good (by show cl.length * 24 ≤ big; have := HCLL.out; unfold big; omega)
      injection e' with e1 e2 e3
      subst e1; subst e3
      rw [e2]
      exact check_any rN _ (later wA d os) A9 cl cap9 (rows_mem hs)
    have n0 := cell_later m0
    have n1 := cell_later m1
    have n2 := cell_later m2
    have HBAD : Hid (er = 0 ∨ er = 2) := by
      unfold Hid; rw [HER.out]; split
      · exact .inr rfl
      · exact .inl rfl
    go_cut [64] (fun s64 wx => s64 = .bool (decide (er ≠ 0)) ∧ Hid (Chg No wA wx))
    case first =>
      rename_i K hK J K' hJ hM
      clear hK
      have HJ := Lib.hid hJ
      clear hJ
      by_cases hN : 8192 < rN
      · have he : er = 2 := by rw [HER.out, if_pos (.inl hN)]
        have hd : decide (8192 < rN) = true := by simpa using hN
        clear HER HCH HOU
        subst he
        refine wp_region_later (by kernel_rfl) (by kernel_rfl) ?_
        repeat (go_big_quiet_step (fail))
        refine wpQuiet_nil ?_
        intro _ hw'
        obtain ⟨⟨dq, osq⟩, hw''⟩ := hw'
        subst hw''
        have hJ := HJ.out
        go_wp2_with fail
        go_meet
        exact ⟨rfl, chg_later wA dq osq⟩
      · have hd : decide (8192 < rN) = false := by simpa using hN
        by_cases hc0 : chk rN cl = 0
        · have he : er = 0 := by rw [HER.out, if_neg (fun h => h.elim hN (fun h => h hc0))]
          have HC2 : Hid (∀ d os, _) := fun d os => Calls.later_of (HCH.out d os)
          rw [hc0, errV_zero] at HC2
          clear HER HCH HOU
          subst he
          refine wp_region_later (by kernel_rfl) (by kernel_rfl) ?_
          repeat (go_big_quiet_step ((go_at_call 24; exact HC2.out _ _)))
          refine wpQuiet_nil ?_
          intro _ hw'
          obtain ⟨⟨dq, osq⟩, hw''⟩ := hw'
          subst hw''
          have hJ := HJ.out
          go_wp2_with fail
          go_meet
          exact ⟨rfl, chg_later wA dq osq⟩
        · have he : er = 2 := by rw [HER.out, if_pos (.inr hc0)]
          have HC2 : Hid (∀ d os, _) := fun d os => Calls.later_of (HCH.out d os)
          rw [errV_of _ hc0] at HC2
          clear HER HCH HOU
          subst he
          generalize chk rN cl = ck at *
          refine wp_region_later (by kernel_rfl) (by kernel_rfl) ?_
          repeat (go_big_quiet_step ((go_at_call 24; exact HC2.out _ _)))
          refine wpQuiet_nil ?_
          intro _ hw'
          obtain ⟨⟨dq, osq⟩, hw''⟩ := hw'
          subst hw''
          have hJ := HJ.out
          go_wp2_with fail
          go_meet
          exact ⟨rfl, chg_later wA dq osq⟩
    case rest =>
    obtain ⟨rfl, GB⟩ := hcut
    clear n0 n1 n2 HCH HER
    rcases HBAD.out with rfl | rfl
    case' inr =>
      have ho : ou = (0, [], []) := by rw [HOU.out]; rfl
      clear HOU HBAD
      subst ho
      obtain ⟨r0, r1, r2, f0, f1, f2⟩ := obj_three (GB.out.obj GA.out.2.1 id)
      go_wp2_with fail
      refine bodyPost_ret (v := .tuple #[.agg #[.int .i64 0, .slice none 0 0, .slice none 0 0], .iface 43 (.int .i64 2)]) (by simp [results, Try.results9, go_sem, r0, r1, r2]) rfl ?_
      exact MakeRet9.bad 2 (chg_new (GA.out.1.thenNo GB.out) (HSET.out _ _ _ _) (fun k hk => by omega))
    have ho : ou = (rN, l, cl) := by rw [HOU.out]; rfl
    clear HOU HBAD
    subst ho
    clear m0 m1 m2 m3
    obtain ⟨m0, m1, m2, m3⟩ := obj_four (GB.out.obj GA.out.2.2.1 id)
    have HLA : Hid (∀ W, Chg No wc W → Lins (fun k => k ≠ w4.heap.size) W AA l ca) := fun W hW => GA.out.2.2.2.2.no linE_good (GB.out.thenNo hW)
    have HRW : Hid (∀ W, Chg No wc W → OwnL rowV 47 (fun k => w4.heap.size < k ∧ k < wc.heap.size) (fun k => w4.heap.size < k ∧ k < wc.heap.size) W (.slice A9 (rO.length + 1) cap9) cl) := fun W hW =>
      ((GA.out.2.2.2.1.no rowV_good GB.out).mono rowV_good (M' := fun k => w4.heap.size < k ∧ k < wc.heap.size) (R' := fun k => w4.heap.size < k ∧ k < wc.heap.size) (fun k hk h => ⟨h, hk⟩) (fun k hk h => ⟨h, hk⟩)).no rowV_good hW
    have HOB : Hid (∀ W, Chg No wc W → W.heap[w4.heap.size]? = some (.cells #[.int .i64 rN, .slice AA l.length ca, .slice A9 (rO.length + 1) cap9, .bool false] 61 (0, 0)) ∧ W.heap[w.heap.size + 1]? = some (.cells #[.int .i64 0, .slice none 0 0, .slice none 0 0] 33 (0, 0)) ∧ Chg No w W) := fun W hW =>
      ⟨hW.obj (GB.out.obj GA.out.2.2.1 id) id, hW.obj (GB.out.obj GA.out.2.1 id) id, (GA.out.1.thenNo GB.out).thenNo hW⟩
    have HZ : Hid (w.heap.size + 2 ≤ w4.heap.size ∧ w4.heap.size < wc.heap.size) := ⟨h5.out.2.2.2, (Array.getElem?_eq_some_iff.1 (GB.out.obj GA.out.2.2.1 id)).1⟩
    clear GA GB h5 H4 h3
    go_wp2_with fail
    go_loopw [6, 73] (fun s6 s73 wr => ∃ (i : Nat) (vA : Value), vA = s6 ∧ s73 = .int .i64 i ∧ i ≤ l.length ∧ Hid (OwnL linW 24 (fun q => wc.heap.size ≤ q) (fun q => wc.heap.size ≤ q) wr vA (l.take i) ∧ Chg No wc wr)) (fun _ s73 _ => l.length - (intOf s73).toNat)
    case atStart => exact ⟨0, _, rfl, rfl, Nat.zero_le _, OwnL.nil _ _ _ _ _, Chg.refl _ _⟩
    case round =>
      obtain ⟨i, vA, rfl, rfl, gi, hst⟩ := hrel
      clear m0 m1 m2 m3
      by_cases hlt : i < l.length
      · obtain ⟨b, o, Ai, ci, rfl, _, x0, x1, hi64, hmo⟩ := lins_at (HLA.out wr hst.out.2) i hlt
        have i0 : (0 : Int) ≤ (i : Int) := by omega
        have i1 : (i : Int) < (l.length : Int) := by omega
        have HCl : Hid (∀ W, Chg No wr W → Calls Try.prog 25 #[.slice Ai l[i].2.length ci] W fun e w' => ∃ A' cap', e = .returned (.slice A' l[i].2.length cap') ∧ OwnL monoV 49 (fun k => W.heap.size ≤ k) (fun k => k ≠ w4.heap.size) w' (.slice A' l[i].2.length cap') l[i].2 ∧ Chg No W w') := fun W hW => cloneMonoC_any (hmo.no monoE_good hW)
        have HTK : Hid (l.take (i + 1) = l.take i ++ [(l[i].1, l[i].2)]) := List.take_succ_eq_append_getElem hlt
        have hti : (l.take i).length = i := by rw [List.length_take]; omega
        have hzr := hst.out.2.size
        have hb := hmo.room
        generalize hT' : l.take (i + 1) = T' at *
        have HT' := Lib.hid hT'
        clear hT'
        generalize l.take i = T at *
        have hTl : T.length ≤ 20480 := by omega
        clear hti
        generalize l[i].1 = cc at *
        generalize l[i].2 = tt at *
        have HC6 : Hid (∀ W w6 A6 cap6, Chg No wr W → W.heap[wr.heap.size]? = some (.cells #[.int .i64 cc, .slice Ai tt.length ci] 24 (0, 0)) → OwnL monoV 49 (fun k => W.heap.size ≤ k) (fun k => k ≠ w4.heap.size) w6 (.slice A6 tt.length cap6) tt → Chg No W w6 →
            (w6.cell? ⟨wr.heap.size, 0, none⟩ = some (.int .i64 cc) ∧ w6.cell? ⟨wr.heap.size, 1, none⟩ = some (.slice Ai tt.length ci)) ∧ Hid (linW (fun q => wc.heap.size ≤ q ∧ vA.ownBlock ≠ some q) w6 [.int .i64 cc, .slice A6 tt.length cap6] (cc, tt)) ∧ Hid (OwnL linW 24 (fun q => wc.heap.size ≤ q) (fun q => wc.heap.size ≤ q) w6 vA T) ∧ Hid (∀ q, w6.heap.size ≤ q → wc.heap.size ≤ q) ∧
            Hid (∀ A8 cap8 w8, OwnL linW 24 (fun q => wc.heap.size ≤ q) (fun q => wc.heap.size ≤ q) w8 (.slice A8 (T.length + 1) cap8) (T ++ [(cc, tt)]) → Chg (fun q => vA.ownBlock = some q) w6 w8 → Hid (OwnL linW 24 (fun q => wc.heap.size ≤ q) (fun q => wc.heap.size ≤ q) w8 (.slice A8 (T.length + 1) cap8) T' ∧ Chg No wc w8))) := fun W w6 A6 cap6 hW hbx g6 c6 => by
          have s1 := hW.size
          have s2 := c6.size
          have hmine : ∀ q, vA.ownBlock = some q → wc.heap.size ≤ q ∧ q < wr.heap.size := fun q hq => hst.out.1.mine q hq
          refine ⟨obj_two' (c6.obj hbx id), ?_, (hst.out.1.no linW_good hW).no linW_good c6, fun q hq => by omega, fun A8 cap8 w8 g1 g2 => ⟨by rw [HTK.out]; exact g1, ?_⟩⟩
          · exact linW_of (l := (cc, tt)) hi64 (((clone_monos g6 hb).wr g6.frozen).mono (wrE_good monoE_good) (fun q _ hq => ⟨by omega, fun e => by have := (hmine q e).2; omega⟩))
          · exact chg_new ((hst.out.2.thenNo hW).thenNo c6) g2 (fun q hq => (hmine q hq).1)
        have hwD : Chg No wr (wr.alloc (.cells #[.int .i64 cc, .slice Ai tt.length ci] 24)).drew := ((Chg.refl No wr).alloc _).drew
        have hoD : (wr.alloc (.cells #[.int .i64 cc, .slice Ai tt.length ci] 24)).drew.heap[wr.heap.size]? = some (.cells #[.int .i64 cc, .slice Ai tt.length ci] 24 (0, 0)) := heap_alloc_new wr (.cells #[.int .i64 cc, .slice Ai tt.length ci] 24)
        have HCW : Hid (Calls Try.prog 25 #[.slice Ai tt.length ci] (wr.alloc (.cells #[.int .i64 cc, .slice Ai tt.length ci] 24)).drew fun e w6 => ∃ A6 cap6, e = .returned (.slice A6 tt.length cap6) ∧ (w6.cell? ⟨wr.heap.size, 0, none⟩ = some (.int .i64 cc) ∧ w6.cell? ⟨wr.heap.size, 1, none⟩ = some (.slice Ai tt.length ci)) ∧ Hid (linW (fun q => wc.heap.size ≤ q ∧ vA.ownBlock ≠ some q) w6 [.int .i64 cc, .slice A6 tt.length cap6] (cc, tt)) ∧ Hid (OwnL linW 24 (fun q => wc.heap.size ≤ q) (fun q => wc.heap.size ≤ q) w6 vA T) ∧ Hid (∀ q, w6.heap.size ≤ q → wc.heap.size ≤ q) ∧
            Hid (∀ A8 cap8 w8, OwnL linW 24 (fun q => wc.heap.size ≤ q) (fun q => wc.heap.size ≤ q) w8 (.slice A8 (T.length + 1) cap8) (T ++ [(cc, tt)]) → Chg (fun q => vA.ownBlock = some q) w6 w8 → Hid (OwnL linW 24 (fun q => wc.heap.size ≤ q) (fun q => wc.heap.size ≤ q) w8 (.slice A8 (T.length + 1) cap8) T' ∧ Chg No wc w8))) := by
          refine (HCl.out _ hwD).mono ?_
          rintro e w6 ⟨A6, cap6, rfl, g6, c6⟩
          exact ⟨A6, cap6, rfl, HC6.out _ w6 A6 cap6 hwD hoD g6 c6⟩
        clear hmo HTK hst HLA HRW HOB hwD hoD HC6 HCl
        go_upto_region 14 with fail
        go_region_law
          ((first
            | (refine step_pushL linW_good linsTy (by rfl) (.tmp 77) (.tmp 84) (by rfl) (M := fun q => wc.heap.size ≤ q) (R := fun q => wc.heap.size ≤ q) (w := w6) G3.out G2.out (by rfl) G1.out (by simp [Value.oneCell']) ((Chg.refl No w6).alloc (.cells #[.int .i64 cc, .slice A6 tt.length cap6] 24)) (news_alloc _ [.int .i64 cc, .slice A6 tt.length cap6] 24) (by rfl) (show (T.length + 1) * 32 ≤ 140737488355328 by omega) ?_; intro A8 cap8 w8 g1 g2; have G8 := G4.out A8 cap8 w8 g1 g2; clear g1 g2)
            | (go_simp; go_at_call 25; refine HCW.out.mono ?_; rintro e w6 ⟨A6, cap6, rfl, ⟨q0, q1⟩, G1, G2, G3, G4⟩)))
        all_goals
          go_wp2
          go_roundw
          case rel =>
            repeat apply Exists.intro
            refine ⟨?_, rfl⟩
            exact ⟨i + 1, _, rfl, by go_num, hlt, by rw [HT'.out]; exact G8⟩
          case measure => simp [intOf]; omega
      · obtain rfl : i = l.length := by omega
        rw [List.take_of_length_le (Nat.le_refl _)] at hst
        obtain ⟨A8, cap8, rfl⟩ : ∃ A8 cap8, vA = .slice A8 l.length cap8 := by
          obtain ⟨A8, cap8, e, _⟩ := hst.out.1.value
          exact ⟨A8, cap8, e⟩
        obtain ⟨o1, o2, cw⟩ := HOB.out wr hst.out.2
        obtain ⟨m0, m1, m2, m3⟩ := obj_four o1
        have mf := obj_frozen o1 1
        have z1 := HZ.out
        have hs := (Chg.refl (fun q => q = w4.heap.size) wr).setCell ⟨w4.heap.size, 1, none⟩ (.slice A8 l.length cap8) (fun _ => rfl)
        obtain ⟨k0, k1, k2, k3⟩ := obj_four (obj_setC (j := 1) (.slice A8 l.length cap8) o1)
        obtain ⟨r0, r1, r2, f0, f1, f2⟩ := obj_three (hs.obj o2 (fun e => by omega))
        have HFIN : Hid (∀ W u0 u1 u2, (((wr.setCell ⟨w4.heap.size, 1, none⟩ (.slice A8 l.length cap8)).setCell ⟨w.heap.size + 1, 0, none⟩ u0).setCell ⟨w.heap.size + 1, 1, none⟩ u1).setCell ⟨w.heap.size + 1, 2, none⟩ u2 = W →
            MakeRet9 w 0 (rN, l, cl) (.returned (.tuple #[.agg #[.int .i64 rN, .slice A8 l.length cap8, .slice A9 (rO.length + 1) cap9], .nilIface])) W) := fun W u0 u1 u2 hW => by
          subst hW
          have hw := HSET.out (wr.setCell ⟨w4.heap.size, 1, none⟩ (.slice A8 l.length cap8)) u0 u1 u2
          have hl : cl.length = rO.length + 1 := HCLL.out
          refine ⟨A8, cap8, A9, cap9, wc.heap.size, by rw [hl, errV_zero], by omega, ?_, ?_, chg_new (chg_new cw hs (fun k hk => by omega)) hw (fun k hk => by omega)⟩
          · have g := HRW.out wr hst.out.2
            rw [hl]
            exact ((g.chg rowV_good hs (fun k hk e => by have := (g.mine k hk).1; omega) (fun k hk _ e => by omega)).chg rowV_good hw (fun k hk e => by have := (g.mine k hk).1; omega) (fun k hk _ e => by omega)).mono rowV_good (fun k _ hk => ⟨by omega, hk.2⟩) (fun k _ hk => ⟨by omega, hk.2⟩)
          · exact (hst.out.1.chg linW_good hs (fun k hk e => by have := (hst.out.1.mine k hk).1; omega) (fun k hk _ e => by omega)).chg linW_good hw (fun k hk e => by have := (hst.out.1.mine k hk).1; omega) (fun k hk _ e => by omega)
        clear hs o1 o2 cw hst HLA HRW HOB HSET HCL HCLL
        go_wp2_with fail
        exact bodyPost_ret (v := .tuple #[.agg #[.int .i64 rN, .slice A8 l.length cap8, .slice A9 (rO.length + 1) cap9], .nilIface]) (by simp [results, Try.results9, go_sem, r0, r1, r2]) rfl (HFIN.out _ _ _ _ rfl)
end Go.Proofs.Ytlejcnbpodmleaa
/- CnfJ -/
namespace Go.Proofs.Ytlejcnbpodmleaa
open Go Go.RowKit

set_option maxHeartbeats 1000000 in
theorem sameLins_any {R R' : Nat → Prop} {w : World} {A A' : Option Addr} {l : List Lin} {cap cap' : Nat} (hx : Lins R w A l cap) (hy : Lins R' w A' l cap') :
    Calls Try.prog 12 #[.slice A l.length cap, .slice A' l.length cap'] w fun e w' => e = .returned (.bool true) ∧ Chg No w w' := by
  have HX := Lib.hid (fun W (h : Chg No w W) => hx.no linE_good h)
  have HY := Lib.hid (fun W (h : Chg No w W) => hy.no linE_good h)
  have hb := hx.big
  unfold big at hb
  clear hx hy
  go_enter Try.func12, Try.ntmps12
  go_wp2
  go_loopw [5] (fun s5 wr => ∃ k : Nat, k ≤ l.length ∧ s5 = .int .i64 k ∧ Hid (Chg No w wr)) (fun s5 _ => l.length - (intOf s5).toNat)
  case atStart => exact ⟨0, Nat.zero_le _, rfl, Chg.refl _ _⟩
  case round =>
    obtain ⟨k, hk, rfl, hch⟩ := hrel
    by_cases hlt : k < l.length
    · obtain ⟨b, o, Ai, ci, rfl, _, hx0, hx1, _, hm⟩ := lins_at (HX.out wr hch.out) k hlt
      obtain ⟨b', o', Ai', ci', rfl, _, hy0, hy1, _, hm'⟩ := lins_at (HY.out wr hch.out) k hlt
      have i0 : (0 : Int) ≤ (k : Int) := by omega
      have i1 : (k : Int) < (l.length : Int) := by omega
      have HSl : Hid (∀ d os, Calls Try.prog 30 #[.agg #[.int .i64 l[k].1, .slice Ai l[k].2.length ci], .agg #[.int .i64 l[k].1, .slice Ai' l[k].2.length ci']] (later wr d os) fun e w'' => e = .returned (.bool true) ∧ ∃ p : Lat, w'' = later wr p.d p.os) := fun d os => by
        have := ref01Same_any (c := l[k].1) (c' := l[k].1) (hm.no monoE_good (chg_later wr d os)) (hm'.no monoE_good (chg_later wr d os))
        simp only [and_self, decide_true] at this
        exact Calls.later_of this
      clear hm hm'
      generalize l[k].1 = c at *
      generalize l[k].2.length = tl at *
      have l2 := cell_later hx0
      have l3 := cell_later hx1
      have l4 := cell_later hy0
      have l5 := cell_later hy1
      go_wp2_with fail
      refine wp_region_later (by kernel_rfl) (by kernel_rfl) ?_
      repeat (quiet_step ((go_at_call 30; exact HSl.out _ _)))
      refine wpQuiet_nil ?_
      intro _ hw'
      obtain ⟨⟨dq, osq⟩, hw''⟩ := hw'
      subst hw''
      have Hc := Lib.hid (hch.out.thenNo (chg_later wr dq osq))
      go_wp2
      go_roundw
      case rel => exact ⟨k + 1, hlt, by go_num, Hc.out⟩
      case measure => simp [intOf]; omega
    · go_wp2
      go_ret
      exact ⟨rfl, hch.out⟩

set_option maxHeartbeats 2000000 in
theorem sameRows_any {R R' : Nat → Prop} {w : World} {A A' : Option Addr} {l : List (List Int)} {cap cap' : Nat} (hx : Rows2 R w A l cap) (hy : Rows2 R' w A' l cap') :
    Calls Try.prog 13 #[.slice A l.length cap, .slice A' l.length cap'] w fun e w' => e = .returned (.bool true) ∧ Chg No w w' := by
  have HX := Lib.hid (fun W (h : Chg No w W) => hx.no rowE_good h)
  have HY := Lib.hid (fun W (h : Chg No w W) => hy.no rowE_good h)
  have hb := hx.big
  unfold big at hb
  clear hx hy
  go_enter Try.func13, Try.ntmps13
  go_wp2
  go_loopw [5] (fun s5 wr => ∃ k : Nat, k ≤ l.length ∧ s5 = .int .i64 k ∧ Hid (Chg No w wr)) (fun s5 _ => l.length - (intOf s5).toNat)
  case atStart => exact ⟨0, Nat.zero_le _, rfl, Chg.refl _ _⟩
  case round =>
    obtain ⟨k, hk, rfl, hch⟩ := hrel
    by_cases hlt : k < l.length
    · obtain ⟨b, o, Ai, ci, rfl, hx0, hm⟩ := (HX.out wr hch.out).row_at k hlt
      obtain ⟨b', o', Ai', ci', rfl, hy0, hm'⟩ := (HY.out wr hch.out).row_at k hlt
      have i0 : (0 : Int) ≤ (k : Int) := by omega
      have i1 : (k : Int) < (l.length : Int) := by omega
      have HM := Lib.hid (fun W (h : Chg No wr W) => hm.no intE_good h)
      have HM' := Lib.hid (fun W (h : Chg No wr W) => hm'.no intE_good h)
      have HX1 : Hid (∀ W, Chg No wr W → W.cell? ⟨b, o + k, none⟩ = some (.slice Ai l[k].length ci) ∧ W.cell? ⟨b', o' + k, none⟩ = some (.slice Ai' l[k].length ci')) := fun W h => ⟨h.cell hx0 id, h.cell hy0 id⟩
      have hb2 := hm.big
      unfold big at hb2
      clear hm hm'
      generalize l[k] = r at *
      go_wp2
      go_quiet (fail)
      go_wp2
      have HC0 : Hid (Chg No wr (wr.drewN nq)) := (Chg.refl _ _).drewN nq
      obtain ⟨wo, hwo⟩ : ∃ wo, wo = wr.drewN nq := ⟨_, rfl⟩
      rw [← hwo] at HC0 ⊢
      clear hwo hx0 hy0
      obtain ⟨wp, rfl⟩ : ∃ wp, wp = wr := ⟨_, rfl⟩
      go_loopw [6] (fun s6 wr => ∃ j : Nat, j ≤ r.length ∧ s6 = .int .i64 j ∧ Hid (Chg No wp wr)) (fun s6 _ => r.length - (intOf s6).toNat)
      case atStart => exact ⟨0, Nat.zero_le _, rfl, HC0.out⟩
      case round =>
        obtain ⟨j, hj, rfl, hcj⟩ := hrel
        obtain ⟨hx0, hy0⟩ := HX1.out wr hcj.out
        by_cases hlj : j < r.length
        · obtain ⟨c, d, rfl, hz0⟩ := (HM.out wr hcj.out).int_at j hlj
          obtain ⟨c', d', rfl, hz1⟩ := (HM'.out wr hcj.out).int_at j hlj
          have j0 : (0 : Int) ≤ (j : Int) := by omega
          have j1 : (j : Int) < (r.length : Int) := by omega
          generalize r[j] = x at *
          go_wp2
          go_quiet (fail)
          have HC1 : Hid (Chg No wp (wr.drewN nq)) := hcj.out.drewN nq
          go_wp2
          go_roundw
          case rel => exact ⟨j + 1, hlj, by go_num, HC1.out⟩
          case measure => simp [intOf]; omega
        · go_wp2
          go_roundw
          case rel => exact ⟨k + 1, hlt, by go_num, hch.out.thenNo hcj.out⟩
          case measure => simp [intOf]; omega
    · go_wp2
      go_ret
      exact ⟨rfl, hch.out⟩

/-- A formula without parts. -/
def leafF (kd : Int) : FT 1 := ⟨kd, (0, []), []⟩
theorem leaf_form (kd : Int) (h : I64 kd) (w : World) : (formV 1) No w [.int .i64 kd, .int .i64 0, .slice none 0 0, .slice none 0 0] (leafF kd) :=
  ⟨none, 0, none, 0, rfl, h, by show I64 0; unfold I64; decide, Sl.empty, Sl.empty⟩
theorem leaf_true : cnfErr 1 (leafF 0) = 0 ∧ cnfOut 1 (leafF 0) = (1, [], [[1], [1]]) := by decide
theorem leaf_eq : cnfErr 1 (leafF 3) = 5 ∧ cnfOut 1 (leafF 3) = (0, [], []) := by decide

set_option maxHeartbeats 1000000 in
theorem up9_any (w : World) : Calls Try.prog 7 #[] w fun e w' => e = .returned (.bool true) ∧ Chg No w w' := by
  have H1 : Hid (∀ W, Calls Try.prog 9 #[.agg #[.int .i64 0, .int .i64 0, .slice none 0 0, .slice none 0 0]] W fun e w' => ∃ AA ca BB cb, e = .returned (.tuple #[.agg #[.int .i64 1, .slice AA 0 ca, .slice BB 2 cb], .nilIface]) ∧ Chg No W w') := fun W => by
    have h := make9_any (leaf_form 0 (by unfold I64; decide) W)
    rw [leaf_true.1, leaf_true.2] at h
    refine h.mono ?_
    rintro e w' ⟨AA, ca, BB, cb, Z, rfl, _, _, _, hc⟩
    exact ⟨AA, ca, BB, cb, by rw [errV_zero]; rfl, hc⟩
  have H2 : Hid (∀ W, Calls Try.prog 9 #[.agg #[.int .i64 3, .int .i64 0, .slice none 0 0, .slice none 0 0]] W fun e w' => ∃ AA ca BB cb, e = .returned (.tuple #[.agg #[.int .i64 0, .slice AA 0 ca, .slice BB 0 cb], .iface 43 (.int .i64 5)]) ∧ Chg No W w') := fun W => by
    have h := make9_any (leaf_form 3 (by unfold I64; decide) W)
    rw [leaf_eq.1, leaf_eq.2] at h
    refine h.mono ?_
    rintro e w' ⟨AA, ca, BB, cb, Z, rfl, _, _, _, hc⟩
    exact ⟨AA, ca, BB, cb, by rw [errV_of _ (by decide)]; rfl, hc⟩
  obtain ⟨ei, hei, hec⟩ := errInfo
  have heq : ∀ W, (binOp .eql 35 (.iface 43 (.int .i64 5)) (.iface 43 (.int .i64 5))).run Try.prog W = .ok (.bool true) W := fun W => by
    kernel_rfl
  go_enter Try.func7, Try.ntmps7
  go_upto_region 2 with (go_at_call 9; refine (H1.out _).mono ?_; rintro e w1 ⟨A1, c1, B1, d1, rfl, h1⟩; have K1 := Lib.hid h1; clear h1)
  have O1 : Hid ((w1.alloc (.cells #[.int .i64 1, .slice A1 0 c1, .slice B1 2 d1] 33)).heap[w1.heap.size]? = some (.cells #[.int .i64 1, .slice A1 0 c1, .slice B1 2 d1] 33 (0, 0))) := heap_alloc_new _ _
  go_wp2_with (go_at_call 9; refine (H2.out _).mono ?_; rintro e w2 ⟨A2, c2, B2, d2, rfl, h2⟩; obtain ⟨r0, r1, r2, _⟩ := obj_three (((Chg.refl No w2).alloc (.cells #[.int .i64 0, .slice A2 0 c2, .slice B2 0 d2] 33)).obj (h2.obj O1.out id) id); have K2 := Lib.hid h2; clear h2)
  go_ret
  exact ⟨rfl, ((K1.out.alloc _).thenNo K2.out).alloc _⟩

theorem small_any {n : Nat} {f : FT n} {R : Nat → Prop} {w : World} {cs : List Value} (h : (formV n) R w cs f) :
    Calls Try.prog 8 #[.agg cs.toArray] w fun e w' => ∃ q, e = .returned (.bool q) ∧ Chg No w w' := by
  have hg := formV_good n
  obtain ⟨kd, c, A, tl, cap, B, kl, capk, rfl⟩ := form_shape h
  have HL := Lib.hid (fun W (hc : Chg No w W) => lightF_any n f R W _ (hg.no h hc) 1500 200 (by omega) (by omega) (by omega) (by omega))
  clear h
  go_enter Try.func8, Try.ntmps8
  go_wp2_with (go_at_call 20; refine (HL.out _ ((Chg.refl _ _).alloc _)).mono ?_; rintro e w1 ⟨m, rfl, _, _, h1⟩)
  go_ret
  exact ⟨_, rfl, ((Chg.refl _ _).alloc _).thenNo h1⟩
end Go.Proofs.Ytlejcnbpodmleaa
/- CnfMks -/
namespace Go.Proofs.Ytlejcnbpodmleaa
open Go Go.RowKit

theorem form_of {n : Nat} {R : Nat → Prop} {w : World} {x : Node (FT n)} {A B : Option Addr} {cap capk : Nat} (h1 : I64 x.kind) (h2 : I64 x.lin.1) (h3 : Monos R w A x.lin.2 cap) (h4 : Forms R w B x.kids capk) :
    (formV (n + 1)) R w [.int .i64 x.kind, .int .i64 x.lin.1, .slice A x.lin.2.length cap, .slice B x.kids.length capk] x :=
  ⟨A, cap, B, capk, rfl, h1, h2, h3, by rw [formV_sz]; exact h4⟩
theorem cnfErr_range (n : Nat) (f : FT n) : 0 ≤ cnfErr n f ∧ cnfErr n f ≤ 16 := by
  unfold cnfErr
  split
  · split <;> omega
  · omega
theorem own_lins {M R : Nat → Prop} {w : World} {A : Option Addr} {n cap : Nat} {l : List Lin} (h : OwnL linW 24 M R w (.slice A n cap) l) (hl : l.length ≤ 100000) : n = l.length ∧ Lins Any w A l cap := by
  have h1 := (ownW_lins h).sl_of linV_good (by show l.length * 32 ≤ big; unfold big; omega)
  exact ⟨h1.1, h1.2.mono linE_good (fun _ _ _ => trivial)⟩
theorem own_rows {M R : Nat → Prop} {w : World} {A : Option Addr} {n cap : Nat} {l : List (List Int)} (h : OwnL rowV 47 M R w (.slice A n cap) l) (hl : l.length ≤ 1000000) : n = l.length ∧ Rows2 Any w A l cap := by
  have h1 := h.sl_of rowV_good (by show l.length * 24 ≤ big; unfold big; omega)
  exact ⟨h1.1, rows_mem (h1.2.mono rowV_good.mem (fun _ _ _ => trivial))⟩
theorem cnfOut_len (n : Nat) (f : FT n) : (cnfOut n f).2.1.length ≤ 100000 ∧ (cnfOut n f).2.2.length ≤ 1000000 := by
  unfold cnfOut
  split
  · rename_i h
    have hB : isB n f = true := by
      cases hB : isB n f with
      | true => rfl
      | false => unfold cnfErr at h; rw [hB] at h; simp at h
    obtain ⟨hon, hcn⟩ := is_only hB
    have hal := atoms_len n f []
    have hr := litF_range (atomsF n f []) n f hon (atomsF n f []).length [] (Int.le_refl _)
    simp only [List.length_nil, Nat.zero_add] at hal hr
    unfold cnfAll
    simp only [List.length_append, List.length_cons, List.length_nil]
    omega
  · simp

set_option maxRecDepth 100000 in
set_option maxHeartbeats 2000000 in
theorem cnfMakes_walk {n : Nat} {f : FT n} {R : Nat → Prop} {w : World} {cs : List Value} (h : (formV n) R w cs f) :
    Calls Try.prog 3 #[.agg cs.toArray] w fun e w' => e = .returned (.bool true) ∧ Chg No w w' := by
  have hg := formV_good n
  obtain ⟨kd, c, A, tl, cap, B, kl, capk, rfl⟩ := form_shape h
  have HU := Lib.hid (fun W => up9_any W)
  have HS := Lib.hid (fun W (hc : Chg No w W) => small_any (hg.no h hc))
  have HM := Lib.hid (fun W (hc : Chg No w W) => make9_any (hg.no h hc))
  have HR := Lib.hid (fun W (hc : Chg No w W) => refMake_any (hg.no h hc))
  have HCd := Lib.hid (fun W => code_any W (cnfErr n f) (cnfErr_range n f).1 (cnfErr_range n f).2)
  obtain ⟨l1, l2⟩ := cnfOut_len n f
  clear h
  generalize cnfErr n f = er at *
  generalize cnfOut n f = o at *
  obtain ⟨oN, oA, oC⟩ := o
  simp only at l1 l2
  have h0 : Hid (Chg No w (w.alloc (.cells #[.int .i64 kd, .int .i64 c, .slice A tl cap, .slice B kl capk] 27)) ∧ (w.alloc (.cells #[.int .i64 kd, .int .i64 c, .slice A tl cap, .slice B kl capk] 27)).heap[w.heap.size]? = some (.cells #[.int .i64 kd, .int .i64 c, .slice A tl cap, .slice B kl capk] 27 (0, 0))) := ⟨(Chg.refl _ _).alloc _, heap_alloc_new _ _⟩
  go_enter Try.func3, Try.ntmps3
  go_upto_region 3 with (first
    | (go_at_call 7; refine (HU.out _).mono ?_; rintro e w1 ⟨rfl, h1⟩; have O1 := Lib.hid (h1.obj h0.out.2 id); obtain ⟨p0, p1, p2, p3⟩ := obj_four O1.out; have H1 := Lib.hid (h0.out.1.thenNo h1); clear h1)
    | (go_at_call 8; refine (HS.out _ H1.out).mono ?_; rintro e w2 ⟨q, rfl, h2⟩; have O2 := Lib.hid (h2.obj O1.out id); clear p0 p1 p2 p3; obtain ⟨p0, p1, p2, p3⟩ := obj_four O2.out; have H2 := Lib.hid (H1.out.thenNo h2); clear h2))
  cases q
  · go_wp2_with fail
    go_ret
    exact ⟨rfl, H2.out⟩
  go_upto_region 6 with (go_at_call 9; (with_reducible refine (HM.out _ H2.out).mono ?_); rintro e w3 ⟨A1, c1, B1, d1, Z, rfl, _, g1, g2, h3⟩; have G1 := Lib.hid (own_rows g1 l2).2; have G2 := Lib.hid (own_lins g2 l1).2; have C3 := Lib.hid h3; clear g1 g2 h3)
  obtain ⟨w4, hw4⟩ : ∃ w4, w4 = w3.alloc (.cells #[.int .i64 oN, .slice A1 oA.length c1, .slice B1 oC.length d1] 33) := ⟨_, rfl⟩
  rw [← hw4]
  have C4 : Hid (Chg No w3 w4 ∧ w4.heap[w3.heap.size]? = some (.cells #[.int .i64 oN, .slice A1 oA.length c1, .slice B1 oC.length d1] 33 (0, 0))) := by rw [hw4]; exact ⟨(Chg.refl _ _).alloc _, heap_alloc_new _ _⟩
  clear hw4 p0 p1 p2 p3
  have C24 := Lib.hid (C3.out.thenNo C4.out.1)
  obtain ⟨p0, p1, p2, p3⟩ := obj_four (C24.out.obj O2.out id)
  go_upto_region 7 with (go_at_call 10; (with_reducible refine (HR.out _ (H2.out.thenNo C24.out)).mono ?_); rintro e w5 ⟨A2, c2, B2, d2, rfl, g3, g4, h5⟩; have G3 := Lib.hid g3; have G4 := Lib.hid g4; have C5 := Lib.hid h5; clear h5 g3 g4)
  obtain ⟨w6, hw6⟩ : ∃ w6, w6 = w5.alloc (.cells #[.int .i64 oN, .slice A2 oA.length c2, .slice B2 oC.length d2] 33) := ⟨_, rfl⟩
  rw [← hw6]
  have C6 : Hid (Chg No w5 w6 ∧ w6.heap[w5.heap.size]? = some (.cells #[.int .i64 oN, .slice A2 oA.length c2, .slice B2 oC.length d2] 33 (0, 0))) := by rw [hw6]; exact ⟨(Chg.refl _ _).alloc _, heap_alloc_new _ _⟩
  clear hw6 p0 p1 p2 p3
  have CEL : Hid (∀ W, Chg No w6 W → Chg No w W ∧ (W.cell? ⟨w3.heap.size, 0, none⟩ = some (.int .i64 oN) ∧ W.cell? ⟨w3.heap.size, 1, none⟩ = some (.slice A1 oA.length c1) ∧ W.cell? ⟨w3.heap.size, 2, none⟩ = some (.slice B1 oC.length d1)) ∧ (W.cell? ⟨w5.heap.size, 0, none⟩ = some (.int .i64 oN) ∧ W.cell? ⟨w5.heap.size, 1, none⟩ = some (.slice A2 oA.length c2) ∧ W.cell? ⟨w5.heap.size, 2, none⟩ = some (.slice B2 oC.length d2)) ∧ Lins Any W A1 oA c1 ∧ Lins Any W A2 oA c2 ∧ Rows2 Any W B1 oC d1 ∧ Rows2 Any W B2 oC d2) := fun W hW => by
    have c45 := (C4.out.1.thenNo C5.out).thenNo (C6.out.1.thenNo hW)
    have c46 := C5.out.thenNo (C6.out.1.thenNo hW)
    obtain ⟨a0, a1, a2, _⟩ := obj_three (c46.obj C4.out.2 id)
    obtain ⟨b0, b1, b2, _⟩ := obj_three (hW.obj C6.out.2 id)
    exact ⟨(H2.out.thenNo C24.out).thenNo c46, ⟨a0, a1, a2⟩, ⟨b0, b1, b2⟩, G2.out.no linE_good c45, G3.out.no linE_good (C6.out.1.thenNo hW), G1.out.no rowE_good c45, G4.out.no rowE_good (C6.out.1.thenNo hW)⟩
  obtain ⟨_, ⟨a0, a1, a2⟩, ⟨b0, b1, b2⟩, _⟩ := CEL.out w6 (Chg.refl _ _)
  go_wp2_with (first
    | (go_at_call 11; refine (HCd.out _).mono ?_; rintro e w7 ⟨rfl, rfl⟩)
    | (go_at_call 12; refine (sameLins_any (CEL.out w6 (Chg.refl _ _)).2.2.2.1 (CEL.out w6 (Chg.refl _ _)).2.2.2.2.1).mono ?_; rintro e w7 ⟨rfl, h7⟩; have C7 := Lib.hid h7; obtain ⟨_, ⟨d0, d1', d2'⟩, ⟨e0, e1, e2⟩, _⟩ := CEL.out w7 h7; clear h7)
    | (go_at_call 13; refine (sameRows_any (CEL.out w7 C7.out).2.2.2.2.2.1 (CEL.out w7 C7.out).2.2.2.2.2.2).mono ?_; rintro e w8 ⟨rfl, h8⟩))
  go_ret
  exact ⟨rfl, (CEL.out w8 (C7.out.thenNo h8)).1⟩
end Go.Proofs.Ytlejcnbpodmleaa
