/-
  The reference's make1.
-/
import Derived.Test.YtlejcnbpodmleaaCnfF
namespace Go.Proofs.Ytlejcnbpodmleaa
open Go Go.RowKit

def MakeOk (n : Nat) : Prop := ∀ (f : FT n) (X : Nat → Prop) (w : World) (cs : List Value), (formV n) X w cs f → onlyF n f = true → (∀ k, X k → k < w.heap.size) →
  ∀ (A : List Lin) (AA : Option Addr) (capA : Nat), Lins X w AA A capA → ∀ (N : Int) (v : Value) (out : List (List Int)),
    ORows X w v out → A.length ≤ N → N + cntF n f ≤ 100000 → out.length + 2 * cntF n f ≤ 300000 →
    Calls Try.prog 28 #[.agg cs.toArray, .slice AA A.length capA, .int .i64 N, v] w fun e w' => ∃ v', e = .returned (.tuple #[v', .int .i64 (litF n f A N out).1, .int .i64 (litF n f A N out).2.2]) ∧
      ORows X w' v' (litF n f A N out).2.1 ∧ Chg (fun k => ¬ X k) w w'

/-- What the loops hold. -/
structure Lp3 (X1 : Nat → Prop) (w3 : World) (rows : List (List Int)) (ints : List Int) (vK vC : Value) (w : World) : Prop where
  rows : ORows (fun k => X1 k ∨ vK.ownBlock = some k) w vC rows
  kids : OInts 3 (fun k => ¬ X1 k) w vK ints
  chg : Chg (fun k => ¬ X1 k) w3 w

set_option maxRecDepth 100000 in
set_option maxHeartbeats 4000000 in
theorem make_step (n : Nat) (IH : Hid (MakeOk n)) : MakeOk (n + 1) := by
    rintro f X w cs h hon hXs At AA capA hAt N v out hown hAN hN hout
    obtain ⟨A, cap, B, capk, rfl, i1, i2, hm, hk⟩ := node_cells h
    obtain ⟨hok, hkids⟩ := only_kids hon
    have hcnt : cntF (n + 1) f = 1 + ((Node.kids f).map (cntF n)).sum := rfl
    have hb1 := hm.big
    have hb2 := hk.big
    unfold big at hb1 hb2
    obtain ⟨w3, hw3⟩ : ∃ w3, w3 = w.alloc (.cells #[.int .i64 (Node.kind f), .int .i64 (Node.lin f).1, .slice A (Node.lin f).2.length cap, .slice B (Node.kids f).length capk] 27) := ⟨_, rfl⟩
    have h3 : Hid (Chg No w w3 ∧ w3.heap[w.heap.size]? = some (.cells #[.int .i64 (Node.kind f), .int .i64 (Node.lin f).1, .slice A (Node.lin f).2.length cap, .slice B (Node.kids f).length capk] 27 (0, 0))) := by
      rw [hw3]; exact ⟨(Chg.refl _ _).alloc _, heap_alloc_new _ _⟩
    have HW3 := Lib.hid hw3
    clear hw3
    by_cases hk2 : Node.kind f = 2
    · have hlit : litF (n + 1) f At N out = (N, out, atI At (Node.lin f)) := by unfold litF; rw [if_pos hk2]
      rw [hlit]
      have HAt := Lib.hid (at_any (a := Node.lin f) (hAt.no linE_good h3.out.1) (hm.no monoE_good h3.out.1))
      have HS1 := Lib.hid (hown.no rowV_good h3.out.1)
      clear hAt hlit hk hkids hown hXs h hm IH
      rw [hk2] at h3 HW3 ⊢
      generalize atI At (Node.lin f) = ai at *
      generalize Node.lin f = lin at *
      generalize Node.kids f = ks at *
      obtain ⟨c, t⟩ := lin
      simp only at hb1 i2 h3 HW3 HAt ⊢
      go_enter Try.func28, Try.ntmps28
      go_upto_region 1 with fail
      rw [← HW3.out]
      obtain ⟨p0, p1, p2, p3⟩ := obj_four h3.out.2
      go_wp2_with (go_at_call 49; refine HAt.out.mono ?_; rintro e w4 ⟨rfl, h4⟩)
      refine bodyPost_ret (v := .tuple #[v, .int .i64 N, .int .i64 ai]) (by simp [results, Try.results28, go_sem]) rfl ⟨v, rfl, HS1.out.no rowV_good h4, (h3.out.1.thenNo h4).no⟩
    by_cases hk4 : Node.kind f = 4
    · have hl := only_not hok hk4
      have hlt : 0 < (Node.kids f).length := by omega
      obtain ⟨hlit, hc1⟩ := lit_not (A := At) (N := N) (out := out) hk4 hl hlt
      have hkr := litF_range At n (Node.kids f)[0] (hkids _ (List.getElem_mem hlt)) N out hAN
      rw [hlit]
      obtain ⟨b, o, v0, v1, v2, v3, rfl, hv, x0, x1, x2, x3⟩ := forms_at (hk.no (formE_good n) h3.out.1) 0 hlt
      simp only [Nat.zero_mul, Nat.add_zero] at x0 x1 x2 x3
      have HI := Lib.hid (IH.out (Node.kids f)[0] X w3 _ hv (hkids _ (List.getElem_mem hlt)) (fun k hk => Nat.lt_of_lt_of_le (hXs k hk) h3.out.1.size) At AA capA (hAt.no linE_good h3.out.1) N v out (hown.no rowV_good h3.out.1) hAN (by omega) (by omega))
      rw [hk4] at h3 HW3 ⊢
      have j1 : (0 : Int) < ((Node.kids f).length : Int) := by omega
      generalize litF n (Node.kids f)[0] At N out = r at *
      have r1 : -100000 ≤ r.2.2 := by omega
      have r2 : r.2.2 ≤ 100000 := by omega
      clear hAt hlit hk hkids hown hXs h hm IH hkr hc1 hv hlt hl hk4 hk2
      generalize (Node.lin f).1 = c at *
      generalize (Node.lin f).2 = t at *
      generalize (Node.kids f).length = kl at *
      go_enter Try.func28, Try.ntmps28
      go_upto_region 1 with fail
      rw [← HW3.out]
      obtain ⟨p0, p1, p2, p3⟩ := obj_four h3.out.2
      obtain ⟨rN, rO, rK⟩ := r
      simp only at r1 r2 HI ⊢
      go_wp2_with (go_at_call 28; refine HI.out.mono ?_; rintro e w4 ⟨v4, rfl, h4⟩; have H4 := Lib.hid h4; clear h4)
      refine bodyPost_ret (v := .tuple #[v4, .int .i64 rN, .int .i64 (-rK)]) (by simp [results, Try.results28, go_sem]) rfl ⟨v4, rfl, H4.out.1, h3.out.1.no.trans H4.out.2 (fun k hk _ => hk)⟩
    have h01 := only_kind hok
    have hrec : ∀ i (hi : i < (Node.kids f).length), N ≤ (litL n At ((Node.kids f).take i) (N, out, [])).1 ∧ (litL n At ((Node.kids f).take i) (N, out, [])).1 + cntF n (Node.kids f)[i] + 1 ≤ 100000 ∧ (litL n At ((Node.kids f).take i) (N, out, [])).2.1.length + 2 * cntF n (Node.kids f)[i] ≤ 300000 ∧ (litL n At ((Node.kids f).take i) (N, out, [])).2.2.length = i ∧ -100000 ≤ (litL n At ((Node.kids f).take (i + 1)) (N, out, [])).1 ∧ ∀ x ∈ (litL n At ((Node.kids f).take (i + 1)) (N, out, [])).2.2, -100000 ≤ x ∧ x ≤ 100000 := fun i hi => by
      have ih : ∀ k ∈ Node.kids f, LitR At n k := fun k hk => litF_range At n k (hkids k hk)
      have r0 := litL_range ((Node.kids f).take i) (N, out, []) (fun k hk => ih k (List.mem_of_mem_take hk)) hAN (by simp)
      have r1 := litL_range ((Node.kids f).take (i + 1)) (N, out, []) (fun k hk => ih k (List.mem_of_mem_take hk)) hAN (by simp)
      have hs := sum_take (cntF n) (Node.kids f) i hi
      have hs2 : (((Node.kids f).take (i + 1)).map (cntF n)).sum = (((Node.kids f).take i).map (cntF n)).sum + cntF n (Node.kids f)[i] := by
        rw [List.take_succ_eq_append_getElem hi, List.map_append, List.sum_append]; simp
      simp only [List.length_take, List.length_nil, Nat.zero_add] at r0 r1
      refine ⟨r0.1, by omega, by omega, by rw [r0.2.2.2.1]; omega, by omega, fun x hx => ?_⟩
      have := r1.2.2.2.2 x hx
      omega
    have hend := litL_range (Node.kids f) (N, out, []) (fun k hk => litF_range At n k (hkids k hk)) hAN (by simp)
    have hlen := sum_cnt_len (Node.kids f) hkids
    rw [lit_full hk2 hk4, gate_eq]
    obtain ⟨r, hr⟩ : ∃ r, r = litL n At (Node.kids f) (N, out, []) := ⟨_, rfl⟩
    obtain ⟨neg, hneg⟩ : ∃ neg, neg = isNeg (Node.kind f) := ⟨_, rfl⟩
    obtain ⟨rN, rO, rK⟩ := r
    rw [← hr] at hend ⊢
    rw [← hneg]
    obtain ⟨sv, hsv⟩ : ∃ sv, sv = sgn neg (rN + 1) := ⟨_, rfl⟩
    simp only
    rw [← hsv]
    have HRR := Lib.hid hr
    have HNEG := Lib.hid hneg
    have HSV := Lib.hid hsv
    clear hr hneg hsv
    have hkd : (Node.kind f == 2) = false ∧ (Node.kind f == 4) = false := ⟨by simpa using hk2, by simpa using hk4⟩
    have h2456 : Hid (Node.kind f ≠ 2 ∧ Node.kind f ≠ 4) := ⟨hk2, hk4⟩
    clear h hm hon hok
    have HX1 : Hid (∃ X1 : Nat → Prop, (∀ k, X1 k ↔ X k ∨ k = w.heap.size)) := ⟨fun k => X k ∨ k = w.heap.size, fun k => Iff.rfl⟩
    obtain ⟨X1, hX1⟩ := HX1.out
    have HX1 := Lib.hid hX1
    have hsz : Hid (w.heap.size < w3.heap.size) := (Array.getElem?_eq_some_iff.1 h3.out.2).1
    have HX1s : Hid (∀ k, X1 k → k < w3.heap.size) := fun k hk => by
      have h1 := h3.out.1.size
      have h2 := hsz.out
      rcases (hX1 k).1 hk with h | h
      · have := hXs k h; omega
      · omega
    have hstart : Hid (Lp3 X1 w3 (litL n At ((Node.kids f).take 0) (N, out, [])).2.1 (litL n At ((Node.kids f).take 0) (N, out, [])).2.2 (.slice none 0 0) v w3) := by
      refine ⟨?_, OInts.nil _ _ _, Chg.refl _ _⟩
      exact hown.after h3.out.1 (fun _ _ g => g.elim) (fun k hk => by
        rcases hk with hk | hk
        · rcases (hX1 k).1 hk with g | g
          · exact .inl g
          · exact .inr (by omega)
        · simp [Value.ownBlock] at hk)
    have HKi2 : Hid (∀ W, Chg (fun k => ¬ X1 k) w3 W → Forms X1 W B (Node.kids f) capk) := fun W hW =>
      ((hk.no (formE_good n) h3.out.1).mono (formE_good n) (fun k _ h => (hX1 k).2 (.inl h))).chg (formE_good n) hW (fun _ h g => g h)
    have HA2 : Hid (∀ W, Chg (fun k => ¬ X1 k) w3 W → Lins X1 W AA At capA) := fun W hW =>
      ((hAt.no linE_good h3.out.1).mono linE_good (fun k _ h => (hX1 k).2 (.inl h))).chg linE_good hW (fun _ h g => g h)
    have HBX : Hid (∀ W, Chg (fun k => ¬ X1 k) w3 W → W.heap[w.heap.size]? = some (.cells #[.int .i64 (Node.kind f), .int .i64 (Node.lin f).1, .slice A (Node.lin f).2.length cap, .slice B (Node.kids f).length capk] 27 (0, 0))) := fun W hW =>
      hW.obj h3.out.2 (fun g => g ((hX1 _).2 (.inr rfl)))
    have HKd := Lib.hid hkids
    have HREC := Lib.hid hrec
    have HEND := Lib.hid hend
    have HLEN := Lib.hid hlen
    have HCN := Lib.hid hcnt
    have HN := Lib.hid (And.intro hN hout)
    have HAN := Lib.hid hAN
    have h01' := Lib.hid h01
    clear hX1 hown hXs hAt hk hkids hrec hend hlen hcnt hk2 hk4 hN hout hAN h01
    obtain ⟨e2, e4⟩ := hkd
    generalize Node.kind f = kd at *
    generalize (Node.lin f).1 = c at *
    generalize (Node.lin f).2 = t at *
    generalize Node.kids f = ks at *
    have hksl : ks.length ≤ 100000 := by have := HLEN.out; have := HCN.out; have := HN.out.1; have := HAN.out; omega
    go_enter Try.func28, Try.ntmps28
    go_upto_region 1 with fail
    rw [← HW3.out]
    clear HW3
    obtain ⟨p0, p1, p2, p3⟩ := obj_four h3.out.2
    go_wp2_with fail
    go_loopw [2, 3, 14, 15] (fun s2 s3 s14 s15 wr => ∃ (i : Nat) (vK vC : Value), vK = s14 ∧ vC = s3 ∧ s2 = .int .i64 (litL n At (ks.take i) (N, out, [])).1 ∧ s15 = .int .i64 i ∧ i ≤ ks.length ∧ Hid (Lp3 X1 w3 (litL n At (ks.take i) (N, out, [])).2.1 (litL n At (ks.take i) (N, out, [])).2.2 vK vC wr)) (fun _ _ _ s15 _ => ks.length - (intOf s15).toNat)
    case atStart => exact ⟨0, _, v, rfl, rfl, rfl, rfl, Nat.zero_le _, hstart⟩
    case round =>
      obtain ⟨i, vK, vC, rfl, rfl, rfl, rfl, gi, hst⟩ := hrel
      clear hstart
      obtain ⟨p0, p1, p2, p3⟩ := obj_four (HBX.out wr hst.out.chg)
      by_cases hlt : i < ks.length
      · obtain ⟨b, o, v0, v1, v2, v3, rfl, hv, x0, x1, x2, x3⟩ := forms_at (HKi2.out wr hst.out.chg) i hlt
        have i0 : (0 : Int) ≤ (i : Int) := by omega
        have i1 : (i : Int) < (ks.length : Int) := by omega
        obtain ⟨q1, q2, q3, q4, q5, q6⟩ := HREC.out i hlt
        have HG := Lib.hid (litL_take (A := At) (s := (N, out, [])) hlt)
        generalize hgr : litL n At (ks.take (i + 1)) (N, out, []) = r' at *
        have HGR := Lib.hid hgr
        clear hgr
        generalize litL n At (ks.take i) (N, out, []) = r at *
        have HI : Hid (Calls Try.prog 28 #[.agg #[v0, v1, v2, v3], .slice AA At.length capA, .int .i64 r.1, vC] wr fun e w' => ∃ v', e = .returned (.tuple #[v', .int .i64 (litF n ks[i] At r.1 r.2.1).1, .int .i64 (litF n ks[i] At r.1 r.2.1).2.2]) ∧
            Hid (ORows (fun k => X1 k ∨ vK.ownBlock = some k) w' v' (litF n ks[i] At r.1 r.2.1).2.1 ∧ Chg (fun k => ¬ X1 k) w3 w' ∧ OInts 3 (fun k => ¬ X1 k) w' vK r.2.2)) := by
          have hXK : ∀ k, vK.ownBlock = some k → ¬ X1 k ∧ k < wr.heap.size := fun k hk => hst.out.kids.mine k hk
          have hr1 := hst.out.chg.size
          refine (IH.out ks[i] (fun k => X1 k ∨ vK.ownBlock = some k) wr _ (ElV.of_st (formV_good n) hv (fun k h => .inl h)) (HKd.out _ (List.getElem_mem hlt)) (fun k hk => ?_) At AA capA ((HA2.out wr hst.out.chg).mono linE_good (fun k _ h => .inl h)) r.1 vC r.2.1 hst.out.rows (by have := HAN.out; omega) (by omega) (by omega)).mono ?_
          · rcases hk with hk | hk
            · have := HX1s.out k hk; omega
            · have := (hXK k hk).2; omega
          · rintro e w' ⟨v', rfl, g2, g3⟩
            refine ⟨v', rfl, g2, hst.out.chg.trans g3 (fun k hk _ g => hk (.inl g)), hst.out.kids.keep g3 (fun k hk g => g (.inr hk))⟩
        generalize litF n ks[i] At r.1 r.2.1 = s at *
        have hs2 : -100000 ≤ s.2.2 ∧ s.2.2 ≤ 100000 := q6 s.2.2 (by rw [HG.out]; simp)
        have HP : Hid (∀ w5 v5 A7 cap7 w7, Hid (ORows (fun k => X1 k ∨ vK.ownBlock = some k) w5 v5 s.2.1 ∧ Chg (fun k => ¬ X1 k) w3 w5 ∧ OInts 3 (fun k => ¬ X1 k) w5 vK r.2.2) →
            OInts 3 (fun k => vK.ownBlock = some k ∨ w5.heap.size ≤ k) w7 (.slice A7 (r.2.2.length + 1) cap7) (r.2.2 ++ [s.2.2]) → Chg (fun k => vK.ownBlock = some k) w5 w7 → Hid (Lp3 X1 w3 r'.2.1 r'.2.2 (.slice A7 (r.2.2.length + 1) cap7) v5 w7)) := by
          rintro w5 v5 A7 cap7 w7 ⟨g2, g3, g4⟩ h1 h2
          rw [HG.out]
          have hXK : ∀ k, vK.ownBlock = some k → ¬ X1 k := fun k hk => (g4.mine k hk).1
          have h5 := g3.size
          refine ⟨g2.after h2 (fun k _ g => .inr g) (fun k hk => ?_), h1.to (fun k hk _ g => ?_), g3.trans h2 (fun k hk _ => hXK k hk)⟩
          · rcases hk with hk | hk
            · exact .inl (.inl hk)
            · exact ((h1.mine k hk).1).elim (fun g => .inl (.inr g)) .inr
          · rcases (h1.mine k hk).1 with g' | g'
            · exact hXK k g' g
            · have := HX1s.out k g; omega
        have HK : Hid (∀ w5 v5, Hid (ORows (fun k => X1 k ∨ vK.ownBlock = some k) w5 v5 s.2.1 ∧ Chg (fun k => ¬ X1 k) w3 w5 ∧ OInts 3 (fun k => ¬ X1 k) w5 vK r.2.2) → OInts 3 (fun k => vK.ownBlock = some k ∨ w5.heap.size ≤ k) w5 vK r.2.2) :=
          fun w5 v5 h => h.2.2.to (fun k hk _ => .inl hk)
        have HS1 : Hid (s.1 = r'.1) := by unfold Hid; rw [HG.out]
        obtain ⟨sN, sO, sK⟩ := s
        simp only at hs2 HI HP HK HS1
        have hrl : r.2.2.length ≤ 100000 := by omega
        clear hv IH hst HREC HX1s HA2 HKi2 HG q1 q2 q3 q4 q5 q6
        go_wp2_with (first
          | (go_at_call 28; refine HI.out.mono ?_; rintro e w5 ⟨v5, rfl, h5⟩)
          | (at_builtin; (refine wpList_push_int intsTyC rfl (.tmp 74) (.tmp 76) rfl (M := fun k => vK.ownBlock = some k ∨ w5.heap.size ≤ k) (w := w5) (fun k hk => .inr hk) (HK.out w5 v5 h5) rfl rfl (I64.of (by omega) (by omega)) (by omega) ?_); intro A7 cap7 w7 g1 g2; have h7 := HP.out w5 v5 A7 cap7 w7 h5 g1 g2; clear g1 g2))
        go_roundw
        case rel => exact ⟨i + 1, _, v5, rfl, rfl, by rw [HGR.out, HS1.out], by go_num, hlt, by rw [HGR.out]; exact h7⟩
        case measure => simp [intOf]; omega
      · obtain rfl : i = ks.length := by omega
        rw [List.take_of_length_le (Nat.le_refl _), ← HRR.out] at hst
        have HB := HEND.out
        have hN' := HN.out
        have hcn := HCN.out
        have hlen := HLEN.out
        have hAN' := HAN.out
        clear IH HREC HKi2 HA2 HKd HEND HN HCN HLEN
        have hrN0 : 0 ≤ rN := by omega
        have hrN : rN ≤ 99999 := by omega
        have hrO : rO.length ≤ 300000 := by omega
        have hrK : rK.length ≤ 100000 := by have : rK.length = ks.length := HB.2.2.2.1.trans (by simp); omega
        have HKB : Hid (∀ x ∈ rK, -100000 ≤ x ∧ x ≤ 100000) := fun x hx => by have := HB.2.2.2.2 x hx; omega
        have HKL : Hid (rK.length = ks.length) := HB.2.2.2.1.trans (by simp)
        have hrO2 : rO.length + rK.length + 1 ≤ 300000 := by have := HKL.out; omega
        have HRN : Hid ((litL n At (ks.take ks.length) (N, out, [])).1 = rN) := by unfold Hid; rw [List.take_of_length_le (Nat.le_refl _), ← HRR.out]
        clear HB hN' hcn hlen hAN' HAN gi hlt
        have hst2 : Hid (Lp3 X1 w3 rO rK vK vC wr) := hst
        clear hst
        have hsv1 : -100000 ≤ sv := by rw [HSV.out]; unfold sgn; split <;> omega
        have hsv2 : sv ≤ 100000 := by rw [HSV.out]; unfold sgn; split <;> omega
        obtain ⟨AK, capK, rfl, hKs⟩ := hst2.out.kids.1.ints (l := rK) (by unfold big; omega) hst2.out.kids.2
        obtain ⟨Xk, hXk⟩ : ∃ Xk : Nat → Prop, ∀ k, Xk k ↔ X1 k ∨ (Value.slice AK rK.length capK).ownBlock = some k := ⟨fun k => X1 k ∨ (Value.slice AK rK.length capK).ownBlock = some k, fun k => Iff.rfl⟩
        have HXk := Lib.hid hXk
        have HXks : Hid (∀ k, Xk k → k < wr.heap.size) := fun k hk => by
          have := hst2.out.chg.size
          rcases (hXk k).1 hk with g | g
          · have := HX1s.out k g; omega
          · exact (hst2.out.kids.mine k g).2
        have HKs : Hid (∀ W, Chg (fun k => ¬ Xk k) wr W → Ints Xk W AK rK capK) := fun W hW => by
          obtain ⟨A', c', e, h'⟩ := (hst2.out.kids.to (M' := Xk) (fun k hk _ => (hXk k).2 (.inr hk))).ints (by unfold big; omega)
          cases e
          exact h'.chg intE_good hW (fun _ h g => g h)
        have HST3 : Hid (ORows Xk wr vC rO ∧ Chg (fun k => ¬ X k) w wr) :=
          ⟨hst2.out.rows.mono rowV_good (fun k _ h g => h ((hXk k).1 g)) (fun k _ h g => h ((hXk k).1 g)), h3.out.1.no.trans hst2.out.chg (fun k hk _ g => hk ((HX1.out k).2 (.inl g)))⟩
        have HXX : Hid (∀ k, X k → Xk k) := fun k hk => (hXk k).2 (.inl ((HX1.out k).2 (.inl hk)))
        have hv0 : litL n At (ks.take ks.length) (N, out, []) = (rN, rO, rK) := by rw [List.take_of_length_le (Nat.le_refl _), ← HRR.out]
        rw [hv0]
        clear hv0 HRN
        simp only
        obtain ⟨w6, rfl⟩ : ∃ w6, w6 = wr := ⟨_, rfl⟩
        have HSTA : Hid (Lp3 Xk w6 (rO ++ (rK.take 0).map (fun k => [-sv, sgn neg k])) (sv :: (rK.take 0).map (fun k => -(sgn neg k))) (.slice (some ⟨w6.heap.size, 0, none⟩) 1 1) vC (w6.alloc (.cells #[.int .i64 sv] 3))) := by
          have hal : Chg No w6 (w6.alloc (.cells #[.int .i64 sv] 3)) := (Chg.refl _ _).alloc _
          refine ⟨?_, ?_, hal.no⟩
          · simp only [List.take_zero, List.map_nil, List.append_nil]
            exact HST3.out.1.after hal (fun _ _ g => g.elim) (fun k hk => hk.imp id (fun e => by simp [Value.ownBlock] at e; omega))
          · refine ⟨⟨by simp, .inr ⟨w6.heap.size, 0, 1, #[.int .i64 sv], rfl, fun g => absurd (HXks.out _ g) (Nat.lt_irrefl _), heap_alloc_new _ _, Nat.le_refl _, by decide, by simp, by simp⟩⟩, fun x hx => ?_⟩
            simp at hx; subst hx
            exact I64.of (by omega) (by omega)
        have HFIN : Hid (∀ W v, ORows Xk W v (rO ++ (rK.map (fun k => [-sv, sgn neg k]) ++ [sv :: rK.map (fun k => -(sgn neg k))])) → Chg (fun k => ¬ Xk k) w6 W → ORows X W v (rO ++ (rK.map (fun k => [-sv, sgn neg k]) ++ [sv :: rK.map (fun k => -(sgn neg k))])) ∧ Chg (fun k => ¬ X k) w W) := fun W v h1 h2 =>
          ⟨h1.mono rowV_good (fun q _ h g => h (HXX.out q g)) (fun q _ h g => h (HXX.out q g)), HST3.out.2.trans h2 (fun k hk _ g => hk (HXX.out k g))⟩
        have HOW0 : Hid (ORows Xk w6 vC rO) := HST3.out.1
        clear hXk hKs hst2 HX1 HX1s HBX HST3 HXX
        obtain ⟨d2, d4⟩ := h2456.out
        rcases h01'.out with ⟨rfl, hks⟩ | ⟨rfl, hks⟩ | hx | hx | rfl | rfl
        · have hK0 : rK = [] := List.eq_nil_of_length_eq_zero (by rw [HKL.out, hks]; rfl)
          have hng : neg = false := HNEG.out.trans rfl
          have HSV' := HSV.out
          rw [hng] at HSV'
          obtain rfl : sv = rN + 1 := HSV'
          have hrow : Hid (rowV (fun q => (¬ Xk q) ∧ vC.ownBlock ≠ some q) (w6.alloc (.cells #[.int .i64 (rN + 1)] 3)) [.slice (some ⟨w6.heap.size, 0, none⟩) 1 1] [rN + 1]) :=
            row_of rfl (intsW_of_block (l := [rN + 1]) (heap_alloc_new _ _) ⟨fun g => by have := HXks.out _ g; omega, fun g => by have := (HOW0.out.mine _ g).2; omega⟩ (by simp [big]) (by simp; exact I64.of (by omega) (by omega)))
          have HOW1 : Hid (ORows Xk (w6.alloc (.cells #[.int .i64 (rN + 1)] 3)) vC rO) := HOW0.out.no rowV_good ((Chg.refl _ _).alloc _)
          have HFR : Hid (∀ q, (w6.alloc (.cells #[.int .i64 (rN + 1)] 3)).heap.size ≤ q → ¬ Xk q) := fun q hq g => by
            have := HXks.out _ g
            have := (((Chg.refl No w6).alloc (.cells #[.int .i64 (rN + 1)] 3))).size
            omega
          have HF2 : Hid (∀ A7 cap7 w7, ORows Xk w7 (.slice A7 (rO.length + 1) cap7) (rO ++ [[rN + 1]]) → Chg (fun q => vC.ownBlock = some q) (w6.alloc (.cells #[.int .i64 (rN + 1)] 3)) w7 → Hid (ORows X w7 (.slice A7 (rO.length + 1) cap7) (rO ++ (rK.map (fun k => [-(rN + 1), sgn neg k]) ++ [(rN + 1) :: rK.map (fun k => -(sgn neg k))])) ∧ Chg (fun k => ¬ X k) w w7)) := fun A7 cap7 w7 g1 g2 =>
            HFIN.out w7 _ (by rw [hK0]; exact g1) (((Chg.refl No w6).alloc _).no.trans g2 (fun q hq _ => (HOW0.out.mine q hq).1))
          have HSZ1 : Hid ((w6.alloc (.cells #[.int .i64 (rN + 1)] 3)).heap.size = w6.heap.size + 1) := by unfold Hid; simp
          clear hK0 hng hks HSTA HKs HXks HRR HKB HKL HNEG HSV hrO2 hb2 hksl
          go_wp2_with (at_builtin; refine wpList_pushL' rowV_good rowsTyC rfl (.tmp 84) (.tmp 87) rfl HFR.out HOW1.out rfl hrow.out (by simp [Value.oneCell']) HSZ1.out rfl (show (rO.length + 1) * 24 ≤ 140737488355328 by omega) ?_; intro A7 cap7 w7 g1 g2; have G3 := HF2.out A7 cap7 w7 g1 g2; clear g1 g2)
          refine bodyPost_ret (v := .tuple #[.slice A7 (rO.length + 1) cap7, .int .i64 (rN + 1), .int .i64 (rN + 1)]) (by simp [results, Try.results28, go_sem]) rfl ⟨_, rfl, by first | exact G3.out.1 | (have g := G3.out.1; rw [Int.neg_neg] at g; exact g), G3.out.2⟩
        · have hK0 : rK = [] := List.eq_nil_of_length_eq_zero (by rw [HKL.out, hks]; rfl)
          have hng : neg = true := HNEG.out.trans rfl
          have HSV' := HSV.out
          rw [hng] at HSV'
          obtain rfl : sv = -(rN + 1) := HSV'
          have hrow : Hid (rowV (fun q => (¬ Xk q) ∧ vC.ownBlock ≠ some q) (w6.alloc (.cells #[.int .i64 (-(rN + 1))] 3)) [.slice (some ⟨w6.heap.size, 0, none⟩) 1 1] [-(rN + 1)]) :=
            row_of rfl (intsW_of_block (l := [-(rN + 1)]) (heap_alloc_new _ _) ⟨fun g => by have := HXks.out _ g; omega, fun g => by have := (HOW0.out.mine _ g).2; omega⟩ (by simp [big]) (by simp; exact I64.of (by omega) (by omega)))
          have HOW1 : Hid (ORows Xk (w6.alloc (.cells #[.int .i64 (-(rN + 1))] 3)) vC rO) := HOW0.out.no rowV_good ((Chg.refl _ _).alloc _)
          have HFR : Hid (∀ q, (w6.alloc (.cells #[.int .i64 (-(rN + 1))] 3)).heap.size ≤ q → ¬ Xk q) := fun q hq g => by
            have := HXks.out _ g
            have := (((Chg.refl No w6).alloc (.cells #[.int .i64 (-(rN + 1))] 3))).size
            omega
          have HF2 : Hid (∀ A7 cap7 w7, ORows Xk w7 (.slice A7 (rO.length + 1) cap7) (rO ++ [[-(rN + 1)]]) → Chg (fun q => vC.ownBlock = some q) (w6.alloc (.cells #[.int .i64 (-(rN + 1))] 3)) w7 → Hid (ORows X w7 (.slice A7 (rO.length + 1) cap7) (rO ++ (rK.map (fun k => [-(-(rN + 1)), sgn neg k]) ++ [(-(rN + 1)) :: rK.map (fun k => -(sgn neg k))])) ∧ Chg (fun k => ¬ X k) w w7)) := fun A7 cap7 w7 g1 g2 =>
            HFIN.out w7 _ (by rw [hK0]; exact g1) (((Chg.refl No w6).alloc _).no.trans g2 (fun q hq _ => (HOW0.out.mine q hq).1))
          have HSZ1 : Hid ((w6.alloc (.cells #[.int .i64 (-(rN + 1))] 3)).heap.size = w6.heap.size + 1) := by unfold Hid; simp
          clear hK0 hng hks HSTA HKs HXks HRR HKB HKL HNEG HSV hrO2 hb2 hksl
          go_wp2_with (at_builtin; refine wpList_pushL' rowV_good rowsTyC rfl (.tmp 91) (.tmp 95) rfl HFR.out HOW1.out rfl hrow.out (by simp [Value.oneCell']) HSZ1.out rfl (show (rO.length + 1) * 24 ≤ 140737488355328 by omega) ?_; intro A7 cap7 w7 g1 g2; have G3 := HF2.out A7 cap7 w7 g1 g2; clear g1 g2)
          refine bodyPost_ret (v := .tuple #[.slice A7 (rO.length + 1) cap7, .int .i64 (rN + 1), .int .i64 (rN + 1)]) (by simp [results, Try.results28, go_sem]) rfl ⟨_, rfl, by first | exact G3.out.1 | (have g := G3.out.1; rw [Int.neg_neg] at g; exact g), G3.out.2⟩
        · exact absurd hx d2
        · exact absurd hx d4
        · have hng : neg = false := HNEG.out.trans rfl
          subst hng
          obtain rfl : sv = rN + 1 := HSV.out
          clear h01' h2456 d2 d4 HRR HNEG HSV
          go_wp2_with fail
          go_loopw [3, 20, 21] (fun s3 s20 s21 wr => ∃ (i : Nat) (vA vC : Value), vC = s3 ∧ vA = s20 ∧ s21 = .int .i64 i ∧ i ≤ rK.length ∧ Hid (Lp3 Xk w6 (rO ++ (rK.take i).map (fun k => [-(rN + 1), sgn false k])) ((rN + 1) :: (rK.take i).map (fun k => -(sgn false k))) vA vC wr)) (fun _ _ s21 _ => rK.length - (intOf s21).toNat)
          case atStart => exact ⟨0, _, vC, rfl, rfl, rfl, Nat.zero_le _, HSTA⟩
          case round =>
            clear HSTA HOW0
            obtain ⟨i, vA, vC, rfl, rfl, rfl, gi, hst⟩ := hrel
            have hzr : w6.heap.size ≤ wr.heap.size := hst.out.chg.size
            by_cases hlt : i < rK.length
            · have HKW := Lib.hid (fun W (hW : Chg (fun k => ¬ Xk k) w6 W) => HKs.out W hW)
              obtain ⟨b, o, rfl, hx⟩ := (HKs.out wr hst.out.chg).int_at i hlt
              have HX7 : Hid (∀ W, Chg (fun k => ¬ Xk k) w6 W → W.cell? ⟨b, o + i, none⟩ = some (.int .i64 rK[i])) := fun W hW => by
                obtain ⟨b', o', e, h'⟩ := (HKs.out W hW).int_at i hlt
                cases e
                exact h'
              have i0 : (0 : Int) ≤ (i : Int) := by omega
              have i1 : (i : Int) < (rK.length : Int) := by omega
              obtain ⟨k1, k2⟩ := HKB.out _ (List.getElem_mem hlt)
              have HTK : Hid (rK.take (i + 1) = rK.take i ++ [rK[i]]) := List.take_succ_eq_append_getElem hlt
              have hti : (rK.take i).length = i := by rw [List.length_take]; omega
              generalize rK[i] = k at *
              generalize hT' : rK.take (i + 1) = T' at *
              have HT' := Lib.hid hT'
              clear hT'
              generalize rK.take i = T at *
              have hTl : T.length ≤ 100000 := by omega
              have hrl : (rO ++ T.map (fun k => [-(rN + 1), sgn false k])).length ≤ 299998 := by simp; omega
              have hal : ((rN + 1) :: T.map (fun k => -(sgn false k))).length ≤ 200000 := by simp; omega
              clear hti
              have HR1 : Hid (rO ++ T'.map (fun k => [-(rN + 1), sgn false k]) = (rO ++ T.map (fun k => [-(rN + 1), sgn false k])) ++ [[-(rN + 1), k]]) := by
                unfold Hid; rw [HTK.out]; simp [sgn] <;> omega
              have HR2 : Hid ((rN + 1) :: T'.map (fun k => -(sgn false k)) = ((rN + 1) :: T.map (fun k => -(sgn false k))) ++ [-k]) := by
                unfold Hid; rw [HTK.out]; simp [sgn]
              clear HTK
              generalize rO ++ T.map (fun k => [-(rN + 1), sgn false k]) = rowsL at *
              generalize (rN + 1) :: T.map (fun k => -(sgn false k)) = allL at *
              have HW1 : Hid (Chg No wr (wr.alloc (.cells #[.int .i64 (-(rN + 1)), .int .i64 (k)] 3))) := (Chg.refl _ _).alloc _
              have HSZ1 : Hid ((wr.alloc (.cells #[.int .i64 (-(rN + 1)), .int .i64 (k)] 3)).heap.size = wr.heap.size + 1) := by unfold Hid; simp
              have HROW : Hid (rowV (fun q => (¬ (Xk q ∨ vA.ownBlock = some q)) ∧ vC.ownBlock ≠ some q) (wr.alloc (.cells #[.int .i64 (-(rN + 1)), .int .i64 (k)] 3)) [.slice (some ⟨wr.heap.size, 0, none⟩) 2 2] [-(rN + 1), k]) :=
                row_of rfl (intsW_of_block (l := [-(rN + 1), k]) (heap_alloc_new _ _) ⟨fun g => g.elim (fun g => by have := HXks.out _ g; omega) (fun g => by have := (hst.out.kids.mine _ g).2; omega), fun g => by have := (hst.out.rows.mine _ g).2; omega⟩ (by simp [big]) (by simp; exact ⟨I64.of (by omega) (by omega), I64.of (by omega) (by omega)⟩))
              have HOW1 : Hid (ORows (fun q => Xk q ∨ vA.ownBlock = some q) (wr.alloc (.cells #[.int .i64 (-(rN + 1)), .int .i64 (k)] 3)) vC rowsL) := hst.out.rows.no rowV_good HW1.out
              have HFR : Hid (∀ q, (wr.alloc (.cells #[.int .i64 (-(rN + 1)), .int .i64 (k)] 3)).heap.size ≤ q → ¬ (Xk q ∨ vA.ownBlock = some q)) := fun q hq g => by
                have := HW1.out.size
                rcases g with g | g
                · have := HXks.out _ g; omega
                · have := (hst.out.kids.mine _ g).2; omega
              have HP : Hid (∀ w7 A7 cap7, ORows (fun q => Xk q ∨ vA.ownBlock = some q) w7 (.slice A7 (rowsL.length + 1) cap7) (rowsL ++ [[-(rN + 1), k]]) → Chg (fun q => vC.ownBlock = some q) (wr.alloc (.cells #[.int .i64 (-(rN + 1)), .int .i64 (k)] 3)) w7 →
                  w7.cell? ⟨b, o + i, none⟩ = some (.int .i64 k) ∧ Hid (OInts 3 (fun q => vA.ownBlock = some q ∨ w7.heap.size ≤ q) w7 vA allL) ∧
                  Hid (∀ w9 A9 cap9, OInts 3 (fun q => vA.ownBlock = some q ∨ w7.heap.size ≤ q) w9 (.slice A9 (allL.length + 1) cap9) (allL ++ [-k]) → Chg (fun q => vA.ownBlock = some q) w7 w9 →
                    Hid (Lp3 Xk w6 (rO ++ T'.map (fun k => [-(rN + 1), sgn false k])) ((rN + 1) :: T'.map (fun k => -(sgn false k))) (.slice A9 (allL.length + 1) cap9) (.slice A7 (rowsL.length + 1) cap7) w9))) := fun w7 A7 cap7 g1 g2 => by
                have hvC : ∀ q, vC.ownBlock = some q → ¬ (Xk q ∨ vA.ownBlock = some q) ∧ q < wr.heap.size := fun q hq => hst.out.rows.mine q hq
                have hvA : ∀ q, vA.ownBlock = some q → ¬ Xk q ∧ q < wr.heap.size := fun q hq => hst.out.kids.mine q hq
                have hch7 : Chg (fun q => ¬ Xk q) wr w7 := HW1.out.no.trans g2 (fun q hq _ g => (hvC q hq).1 (.inl g))
                have hall7 : OInts 3 (fun q => ¬ Xk q) w7 vA allL := (hst.out.kids.no HW1.out).keep g2 (fun q hq g => (hvC q g).1 (.inr hq))
                refine ⟨HX7.out w7 (hst.out.chg.trans hch7 (fun q hq _ => hq)), hall7.to (fun q hq _ => .inl hq), fun w9 A9 cap9 h1 h2 => ?_⟩
                rw [HR1.out, HR2.out]
                have hsz7 := hch7.size
                refine ⟨g1.after h2 (fun q _ g => .inr g) (fun q hq => ?_), h1.to (fun q hq _ g => ?_), (hst.out.chg.trans hch7 (fun q hq _ => hq)).trans h2 (fun q hq _ => (hvA q hq).1)⟩
                · rcases hq with hq | hq
                  · exact .inl (.inl hq)
                  · exact ((h1.mine q hq).1).elim (fun g => .inl (.inr g)) .inr
                · rcases (h1.mine q hq).1 with g' | g'
                  · exact (hvA q g').1 g
                  · have := HXks.out q g; omega
              clear hst HR1 HR2 HXks HKs HKW HKB HFIN HKL
              go_wp2_with (at_builtin; first
                | (refine wpList_pushL' rowV_good rowsTyC rfl (.tmp 107) (.tmp 115) rfl HFR.out HOW1.out rfl HROW.out (by simp [Value.oneCell']) HSZ1.out rfl (show (rowsL.length + 1) * 24 ≤ 140737488355328 by omega) ?_; intro A7 cap7 w7 g1 g2; obtain ⟨hx7, G3, G4⟩ := HP.out w7 A7 cap7 g1 g2; clear g1 g2)
                | (refine wpList_push_int' intsTyC rfl (.tmp 117) (.tmp 123) rfl (fun q hq => .inr hq) G3.out rfl rfl rfl (I64.of (by omega) (by omega)) (by omega) ?_; intro A9 cap9 w9 g1 g2; have h9 := G4.out w9 A9 cap9 g1 g2; clear g1 g2))
              go_roundw
              case rel => exact ⟨i + 1, _, _, rfl, rfl, by go_num, hlt, by rw [HT'.out]; exact h9⟩
              case measure => simp [intOf]; omega
            · obtain rfl : i = rK.length := by omega
              rw [List.take_of_length_le (Nat.le_refl _)] at hst
              have hrl : (rO ++ rK.map (fun k => [-(rN + 1), sgn false k])).length ≤ 299999 := by simp; omega
              have hal : ((rN + 1) :: rK.map (fun k => -(sgn false k))).length ≤ 200000 := by simp; omega
              have HANS : Hid (rO ++ (rK.map (fun k => [-(rN + 1), sgn false k]) ++ [(rN + 1) :: rK.map (fun k => -(sgn false k))]) = (rO ++ rK.map (fun k => [-(rN + 1), sgn false k])) ++ [(rN + 1) :: rK.map (fun k => -(sgn false k))]) := by unfold Hid; simp
              have HFIN2 : Hid (∀ W v, ORows Xk W v ((rO ++ rK.map (fun k => [-(rN + 1), sgn false k])) ++ [(rN + 1) :: rK.map (fun k => -(sgn false k))]) → Chg (fun k => ¬ Xk k) w6 W → Hid (ORows X W v (rO ++ (rK.map (fun k => [-(rN + 1), sgn false k]) ++ [(rN + 1) :: rK.map (fun k => -(sgn false k))])) ∧ Chg (fun k => ¬ X k) w W)) := fun W v h1 h2 =>
                HFIN.out W v (by rw [HANS.out]; exact h1) h2
              clear HANS HFIN HKs
              generalize rO ++ rK.map (fun k => [-(rN + 1), sgn false k]) = rowsL at *
              obtain ⟨allL, hall0⟩ : ∃ allL, allL = (rN + 1) :: rK.map (fun k => -(sgn false k)) := ⟨_, rfl⟩
              rw [← hall0] at hst hal
              have HALL0 := Lib.hid hall0
              clear hall0
              obtain ⟨AA2, cap2, rfl, hall⟩ := hst.out.kids.1.ints (l := allL) (by unfold big; omega) hst.out.kids.2
              have HALL : Hid (rowV (fun q => (¬ Xk q) ∧ vC.ownBlock ≠ some q) wr [.slice AA2 allL.length cap2] allL) := by
                obtain ⟨A', c', e, h'⟩ := (hst.out.kids.to (M' := fun q => (¬ Xk q) ∧ vC.ownBlock ≠ some q) (fun q hq _ => ⟨(hst.out.kids.mine q hq).1, fun g => (hst.out.rows.mine q g).1 (.inr hq)⟩)).1.intsW (l := allL) (by unfold big; omega) hst.out.kids.2
                cases e
                exact row_of rfl h'
              have HOW1 : Hid (ORows Xk wr vC rowsL) := hst.out.rows.mono rowV_good (fun q _ h g => h (.inl g)) (fun q _ h g => h (.inl g))
              have HFR : Hid (∀ q, wr.heap.size ≤ q → ¬ Xk q) := fun q hq g => by
                have := HXks.out _ g; omega
              have HP : Hid (∀ w7 A7 cap7, ORows Xk w7 (.slice A7 (rowsL.length + 1) cap7) (rowsL ++ [allL]) → Chg (fun q => vC.ownBlock = some q) wr w7 →
                  Hid (ORows X w7 (.slice A7 (rowsL.length + 1) cap7) (rO ++ (rK.map (fun k => [-(rN + 1), sgn false k]) ++ [(rN + 1) :: rK.map (fun k => -(sgn false k))])) ∧ Chg (fun k => ¬ X k) w w7)) := fun w7 A7 cap7 g1 g2 =>
                HFIN2.out w7 _ (by rw [← HALL0.out]; exact g1) (hst.out.chg.trans g2 (fun q hq _ g => (hst.out.rows.mine q hq).1 (.inl g)))
              clear hst hall HXks hlt gi HKB HFIN2 HALL0 HKL
              go_wp2_with (at_builtin; refine wpList_pushL' rowV_good rowsTyC rfl (.tmp 125) (.tmp 127) rfl HFR.out HOW1.out rfl HALL.out (by simp [Value.oneCell']) rfl rfl (show (rowsL.length + 1) * 24 ≤ 140737488355328 by omega) ?_; intro A7 cap7 w7 g1 g2; have G3 := HP.out w7 A7 cap7 g1 g2; clear g1 g2)
              refine bodyPost_ret (v := .tuple #[.slice A7 (rowsL.length + 1) cap7, .int .i64 (rN + 1), .int .i64 (rN + 1)]) (by simp [results, Try.results28, go_sem]) rfl ⟨_, rfl, G3.out.1, G3.out.2⟩
        · have hng : neg = true := HNEG.out.trans rfl
          subst hng
          obtain rfl : sv = -(rN + 1) := HSV.out
          clear h01' h2456 d2 d4 HRR HNEG HSV
          go_wp2_with fail
          go_loopw [3, 22, 23] (fun s3 s22 s23 wr => ∃ (i : Nat) (vA vC : Value), vC = s3 ∧ vA = s22 ∧ s23 = .int .i64 i ∧ i ≤ rK.length ∧ Hid (Lp3 Xk w6 (rO ++ (rK.take i).map (fun k => [-(-(rN + 1)), sgn true k])) ((-(rN + 1)) :: (rK.take i).map (fun k => -(sgn true k))) vA vC wr)) (fun _ _ s23 _ => rK.length - (intOf s23).toNat)
          case atStart => exact ⟨0, _, vC, rfl, rfl, rfl, Nat.zero_le _, HSTA⟩
          case round =>
            clear HSTA HOW0
            obtain ⟨i, vA, vC, rfl, rfl, rfl, gi, hst⟩ := hrel
            have hzr : w6.heap.size ≤ wr.heap.size := hst.out.chg.size
            by_cases hlt : i < rK.length
            · have HKW := Lib.hid (fun W (hW : Chg (fun k => ¬ Xk k) w6 W) => HKs.out W hW)
              obtain ⟨b, o, rfl, hx⟩ := (HKs.out wr hst.out.chg).int_at i hlt
              have HX7 : Hid (∀ W, Chg (fun k => ¬ Xk k) w6 W → W.cell? ⟨b, o + i, none⟩ = some (.int .i64 rK[i])) := fun W hW => by
                obtain ⟨b', o', e, h'⟩ := (HKs.out W hW).int_at i hlt
                cases e
                exact h'
              have i0 : (0 : Int) ≤ (i : Int) := by omega
              have i1 : (i : Int) < (rK.length : Int) := by omega
              obtain ⟨k1, k2⟩ := HKB.out _ (List.getElem_mem hlt)
              have HTK : Hid (rK.take (i + 1) = rK.take i ++ [rK[i]]) := List.take_succ_eq_append_getElem hlt
              have hti : (rK.take i).length = i := by rw [List.length_take]; omega
              generalize rK[i] = k at *
              generalize hT' : rK.take (i + 1) = T' at *
              have HT' := Lib.hid hT'
              clear hT'
              generalize rK.take i = T at *
              have hTl : T.length ≤ 100000 := by omega
              have hrl : (rO ++ T.map (fun k => [-(-(rN + 1)), sgn true k])).length ≤ 299998 := by simp; omega
              have hal : ((-(rN + 1)) :: T.map (fun k => -(sgn true k))).length ≤ 200000 := by simp; omega
              clear hti
              have HR1 : Hid (rO ++ T'.map (fun k => [-(-(rN + 1)), sgn true k]) = (rO ++ T.map (fun k => [-(-(rN + 1)), sgn true k])) ++ [[rN + 1, -k]]) := by
                unfold Hid; rw [HTK.out]; simp [sgn] <;> omega
              have HR2 : Hid ((-(rN + 1)) :: T'.map (fun k => -(sgn true k)) = ((-(rN + 1)) :: T.map (fun k => -(sgn true k))) ++ [k]) := by
                unfold Hid; rw [HTK.out]; simp [sgn]
              clear HTK
              generalize rO ++ T.map (fun k => [-(-(rN + 1)), sgn true k]) = rowsL at *
              generalize (-(rN + 1)) :: T.map (fun k => -(sgn true k)) = allL at *
              have HW1 : Hid (Chg No wr (wr.alloc (.cells #[.int .i64 (rN + 1), .int .i64 (-k)] 3))) := (Chg.refl _ _).alloc _
              have HSZ1 : Hid ((wr.alloc (.cells #[.int .i64 (rN + 1), .int .i64 (-k)] 3)).heap.size = wr.heap.size + 1) := by unfold Hid; simp
              have HROW : Hid (rowV (fun q => (¬ (Xk q ∨ vA.ownBlock = some q)) ∧ vC.ownBlock ≠ some q) (wr.alloc (.cells #[.int .i64 (rN + 1), .int .i64 (-k)] 3)) [.slice (some ⟨wr.heap.size, 0, none⟩) 2 2] [rN + 1, -k]) :=
                row_of rfl (intsW_of_block (l := [rN + 1, -k]) (heap_alloc_new _ _) ⟨fun g => g.elim (fun g => by have := HXks.out _ g; omega) (fun g => by have := (hst.out.kids.mine _ g).2; omega), fun g => by have := (hst.out.rows.mine _ g).2; omega⟩ (by simp [big]) (by simp; exact ⟨I64.of (by omega) (by omega), I64.of (by omega) (by omega)⟩))
              have HOW1 : Hid (ORows (fun q => Xk q ∨ vA.ownBlock = some q) (wr.alloc (.cells #[.int .i64 (rN + 1), .int .i64 (-k)] 3)) vC rowsL) := hst.out.rows.no rowV_good HW1.out
              have HFR : Hid (∀ q, (wr.alloc (.cells #[.int .i64 (rN + 1), .int .i64 (-k)] 3)).heap.size ≤ q → ¬ (Xk q ∨ vA.ownBlock = some q)) := fun q hq g => by
                have := HW1.out.size
                rcases g with g | g
                · have := HXks.out _ g; omega
                · have := (hst.out.kids.mine _ g).2; omega
              have HP : Hid (∀ w7 A7 cap7, ORows (fun q => Xk q ∨ vA.ownBlock = some q) w7 (.slice A7 (rowsL.length + 1) cap7) (rowsL ++ [[rN + 1, -k]]) → Chg (fun q => vC.ownBlock = some q) (wr.alloc (.cells #[.int .i64 (rN + 1), .int .i64 (-k)] 3)) w7 →
                  w7.cell? ⟨b, o + i, none⟩ = some (.int .i64 k) ∧ Hid (OInts 3 (fun q => vA.ownBlock = some q ∨ w7.heap.size ≤ q) w7 vA allL) ∧
                  Hid (∀ w9 A9 cap9, OInts 3 (fun q => vA.ownBlock = some q ∨ w7.heap.size ≤ q) w9 (.slice A9 (allL.length + 1) cap9) (allL ++ [k]) → Chg (fun q => vA.ownBlock = some q) w7 w9 →
                    Hid (Lp3 Xk w6 (rO ++ T'.map (fun k => [-(-(rN + 1)), sgn true k])) ((-(rN + 1)) :: T'.map (fun k => -(sgn true k))) (.slice A9 (allL.length + 1) cap9) (.slice A7 (rowsL.length + 1) cap7) w9))) := fun w7 A7 cap7 g1 g2 => by
                have hvC : ∀ q, vC.ownBlock = some q → ¬ (Xk q ∨ vA.ownBlock = some q) ∧ q < wr.heap.size := fun q hq => hst.out.rows.mine q hq
                have hvA : ∀ q, vA.ownBlock = some q → ¬ Xk q ∧ q < wr.heap.size := fun q hq => hst.out.kids.mine q hq
                have hch7 : Chg (fun q => ¬ Xk q) wr w7 := HW1.out.no.trans g2 (fun q hq _ g => (hvC q hq).1 (.inl g))
                have hall7 : OInts 3 (fun q => ¬ Xk q) w7 vA allL := (hst.out.kids.no HW1.out).keep g2 (fun q hq g => (hvC q g).1 (.inr hq))
                refine ⟨HX7.out w7 (hst.out.chg.trans hch7 (fun q hq _ => hq)), hall7.to (fun q hq _ => .inl hq), fun w9 A9 cap9 h1 h2 => ?_⟩
                rw [HR1.out, HR2.out]
                have hsz7 := hch7.size
                refine ⟨g1.after h2 (fun q _ g => .inr g) (fun q hq => ?_), h1.to (fun q hq _ g => ?_), (hst.out.chg.trans hch7 (fun q hq _ => hq)).trans h2 (fun q hq _ => (hvA q hq).1)⟩
                · rcases hq with hq | hq
                  · exact .inl (.inl hq)
                  · exact ((h1.mine q hq).1).elim (fun g => .inl (.inr g)) .inr
                · rcases (h1.mine q hq).1 with g' | g'
                  · exact (hvA q g').1 g
                  · have := HXks.out q g; omega
              clear hst HR1 HR2 HXks HKs HKW HKB HFIN HKL
              go_wp2_with (at_builtin; first
                | (refine wpList_pushL' rowV_good rowsTyC rfl (.tmp 140) (.tmp 148) rfl HFR.out HOW1.out rfl HROW.out (by simp [Value.oneCell']) HSZ1.out rfl (show (rowsL.length + 1) * 24 ≤ 140737488355328 by omega) ?_; intro A7 cap7 w7 g1 g2; obtain ⟨hx7, G3, G4⟩ := HP.out w7 A7 cap7 g1 g2; clear g1 g2)
                | (refine wpList_push_int' intsTyC rfl (.tmp 150) (.tmp 155) rfl (fun q hq => .inr hq) G3.out rfl rfl rfl (I64.of (by omega) (by omega)) (by omega) ?_; intro A9 cap9 w9 g1 g2; have h9 := G4.out w9 A9 cap9 g1 g2; clear g1 g2))
              go_roundw
              case rel => exact ⟨i + 1, _, _, rfl, rfl, by go_num, hlt, by rw [HT'.out]; exact h9⟩
              case measure => simp [intOf]; omega
            · obtain rfl : i = rK.length := by omega
              rw [List.take_of_length_le (Nat.le_refl _)] at hst
              have hrl : (rO ++ rK.map (fun k => [-(-(rN + 1)), sgn true k])).length ≤ 299999 := by simp; omega
              have hal : ((-(rN + 1)) :: rK.map (fun k => -(sgn true k))).length ≤ 200000 := by simp; omega
              have HANS : Hid (rO ++ (rK.map (fun k => [-(-(rN + 1)), sgn true k]) ++ [(-(rN + 1)) :: rK.map (fun k => -(sgn true k))]) = (rO ++ rK.map (fun k => [-(-(rN + 1)), sgn true k])) ++ [(-(rN + 1)) :: rK.map (fun k => -(sgn true k))]) := by unfold Hid; simp
              have HFIN2 : Hid (∀ W v, ORows Xk W v ((rO ++ rK.map (fun k => [-(-(rN + 1)), sgn true k])) ++ [(-(rN + 1)) :: rK.map (fun k => -(sgn true k))]) → Chg (fun k => ¬ Xk k) w6 W → Hid (ORows X W v (rO ++ (rK.map (fun k => [-(-(rN + 1)), sgn true k]) ++ [(-(rN + 1)) :: rK.map (fun k => -(sgn true k))])) ∧ Chg (fun k => ¬ X k) w W)) := fun W v h1 h2 =>
                HFIN.out W v (by rw [HANS.out]; exact h1) h2
              clear HANS HFIN HKs
              generalize rO ++ rK.map (fun k => [-(-(rN + 1)), sgn true k]) = rowsL at *
              obtain ⟨allL, hall0⟩ : ∃ allL, allL = (-(rN + 1)) :: rK.map (fun k => -(sgn true k)) := ⟨_, rfl⟩
              rw [← hall0] at hst hal
              have HALL0 := Lib.hid hall0
              clear hall0
              obtain ⟨AA2, cap2, rfl, hall⟩ := hst.out.kids.1.ints (l := allL) (by unfold big; omega) hst.out.kids.2
              have HALL : Hid (rowV (fun q => (¬ Xk q) ∧ vC.ownBlock ≠ some q) wr [.slice AA2 allL.length cap2] allL) := by
                obtain ⟨A', c', e, h'⟩ := (hst.out.kids.to (M' := fun q => (¬ Xk q) ∧ vC.ownBlock ≠ some q) (fun q hq _ => ⟨(hst.out.kids.mine q hq).1, fun g => (hst.out.rows.mine q g).1 (.inr hq)⟩)).1.intsW (l := allL) (by unfold big; omega) hst.out.kids.2
                cases e
                exact row_of rfl h'
              have HOW1 : Hid (ORows Xk wr vC rowsL) := hst.out.rows.mono rowV_good (fun q _ h g => h (.inl g)) (fun q _ h g => h (.inl g))
              have HFR : Hid (∀ q, wr.heap.size ≤ q → ¬ Xk q) := fun q hq g => by
                have := HXks.out _ g; omega
              have HP : Hid (∀ w7 A7 cap7, ORows Xk w7 (.slice A7 (rowsL.length + 1) cap7) (rowsL ++ [allL]) → Chg (fun q => vC.ownBlock = some q) wr w7 →
                  Hid (ORows X w7 (.slice A7 (rowsL.length + 1) cap7) (rO ++ (rK.map (fun k => [-(-(rN + 1)), sgn true k]) ++ [(-(rN + 1)) :: rK.map (fun k => -(sgn true k))])) ∧ Chg (fun k => ¬ X k) w w7)) := fun w7 A7 cap7 g1 g2 =>
                HFIN2.out w7 _ (by rw [← HALL0.out]; exact g1) (hst.out.chg.trans g2 (fun q hq _ g => (hst.out.rows.mine q hq).1 (.inl g)))
              clear hst hall HXks hlt gi HKB HFIN2 HALL0 HKL
              go_wp2_with (at_builtin; refine wpList_pushL' rowV_good rowsTyC rfl (.tmp 157) (.tmp 159) rfl HFR.out HOW1.out rfl HALL.out (by simp [Value.oneCell']) rfl rfl (show (rowsL.length + 1) * 24 ≤ 140737488355328 by omega) ?_; intro A7 cap7 w7 g1 g2; have G3 := HP.out w7 A7 cap7 g1 g2; clear g1 g2)
              refine bodyPost_ret (v := .tuple #[.slice A7 (rowsL.length + 1) cap7, .int .i64 (rN + 1), .int .i64 (rN + 1)]) (by simp [results, Try.results28, go_sem]) rfl ⟨_, rfl, G3.out.1, G3.out.2⟩
theorem make1_all : ∀ n, MakeOk n
  | 0 => fun _ _ _ _ h => h.elim
  | n + 1 => make_step n (Lib.hid (make1_all n))
end Go.Proofs.Ytlejcnbpodmleaa
