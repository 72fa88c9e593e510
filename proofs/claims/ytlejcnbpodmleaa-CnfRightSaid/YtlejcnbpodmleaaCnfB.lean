/-
  The reference's only and Is.
-/
import Derived.Test.YtlejcnbpodmleaaCnfA
namespace Go.Proofs.Ytlejcnbpodmleaa
open Go Go.RowKit

theorem beq0 (a : Nat) : ((a : Int) == 0) = decide (a = 0) := by rw [Bool.eq_iff_iff]; simp
theorem beq1 (a : Nat) : ((a : Int) == 1) = decide (a = 1) := by rw [Bool.eq_iff_iff]; simp; omega

def OnlyOk (n : Nat) : Prop := ∀ (f : FT n) (R : Nat → Prop) (w : World) (cs : List Value), (formV n) R w cs f →
    Calls Try.prog 48 #[.agg cs.toArray] w fun e w' => e = .returned (.bool (onlyF n f)) ∧ Chg No w w'
set_option maxRecDepth 100000 in
set_option maxHeartbeats 4000000 in
theorem onlyOk_step (n : Nat) (IH : Hid (OnlyOk n)) : OnlyOk (n + 1) := by
    rintro f R w cs h
    obtain ⟨A, cap, B, capk, rfl, i1, i2, hm, hk⟩ := node_cells h
    have HK := Lib.hid (fun W (h : Chg No w W) => hk.no (formE_good n) h)
    have HT := Lib.hid (fun W (h : Chg No w W) => hm.no monoE_good h)
    have HC1 := Lib.hid (fun W (h : Chg No w W) => ref01Check_any (Node.lin f).1 (hm.no monoE_good h))
    have HC2 := Lib.hid (fun (hB : linB (Node.lin f).1 (Node.lin f).2 = true) W (h : Chg No w W) => ref01Gcd_any (c := (Node.lin f).1) (hm.no monoE_good h) (linB_coef hB))
    have hb1 := hm.big
    have hb2 := hk.big
    unfold big at hb1 hb2
    obtain ⟨ans, hans2⟩ : ∃ ans, ans = onlyF (n + 1) f := ⟨_, rfl⟩
    rw [← hans2]
    have hans : onlyF (n + 1) f = (okB (Node.kind f) (noneB (Node.lin f).1 (Node.lin f).2.length) (canonB (Node.lin f).1 (Node.lin f).2) (Node.kids f).length (kind0 n (Node.kids f)) && (Node.kids f).all (onlyF n)) := rfl
    rw [hans] at hans2
    have HANS := Lib.hid hans2
    clear h hm hk hans hans2
    generalize Node.kind f = kd at *
    generalize (Node.lin f).1 = c at *
    generalize (Node.lin f).2 = t at *
    generalize Node.kids f = ks at *
    obtain ⟨w3, hw3⟩ : ∃ w3, w3 = w.alloc (.cells #[.int .i64 kd, .int .i64 c, .slice A t.length cap, .slice B ks.length capk] 27) := ⟨_, rfl⟩
    have h3 : Hid (Chg No w w3 ∧ w3.heap[w.heap.size]? = some (.cells #[.int .i64 kd, .int .i64 c, .slice A t.length cap, .slice B ks.length capk] 27 (0, 0))) := by
      rw [hw3]; exact ⟨(Chg.refl _ _).alloc _, heap_alloc_new _ _⟩
    obtain ⟨nb, hnb⟩ : ∃ nb, nb = noneB c t.length := ⟨_, rfl⟩
    have HNB := Lib.hid hnb
    rw [← hnb] at HANS
    clear hnb
    go_enter Try.func48, Try.ntmps48
    go_upto_region 1 with fail
    go_cut [3] (fun s3 wx => s3 = .bool nb ∧ wx = w3)
    case first =>
      clear HANS HC1 HC2 HK IH HT
      generalize t.length = tl at *
      by_cases hc : c = 0
      · subst hc
        by_cases ht : tl = 0
        · subst ht
          go_wp2_with fail
          go_meet
          exact ⟨by rw [HNB.out]; rfl, hw3.symm⟩
        · have e1 : ((tl : Int) == 0) = false := by simp; omega
          go_wp2_with fail
          go_meet
          exact ⟨by rw [HNB.out]; simp [noneB, ht], hw3.symm⟩
      · have e1 : (c == 0) = false := by simp [hc]
        go_wp2_with fail
        go_meet
        exact ⟨by rw [HNB.out]; simp [noneB, hc], hw3.symm⟩
    case rest =>
    obtain ⟨rfl, rfl⟩ := hcut
    clear hw3 HNB
    obtain ⟨p0, p1, p2, p3⟩ := obj_four h3.out.2
    have RET : Hid (∀ (q : Bool) (W : World), q = ans → Chg No w W → Ending.returned (.bool q) = Ending.returned (.bool ans) ∧ Chg No w W) := fun q W h g => ⟨by rw [h], g⟩
    by_cases h0 : kd = 0 ∨ kd = 1
    · have HO : Hid (ans = (nb && decide (ks.length = 0))) := by
        unfold Hid; rw [HANS.out]
        cases ks with
        | nil => rcases h0 with rfl | rfl <;> simp [okB]
        | cons k ks => rcases h0 with rfl | rfl <;> simp [okB]
      clear HANS HC1 HC2 HK IH HT
      generalize t.length = tl at *
      generalize ks.length = kl at *
      rcases h0 with rfl | rfl
      all_goals
        cases nb
        all_goals
          go_wp2_with fail
          go_ret
          exact RET.out _ _ (by rw [HO.out]; simp [beq0]) h3.out.1
    have n0 : (kd == 0) = false := by simp; omega
    have n1 : (kd == 1) = false := by simp; omega
    by_cases h2 : kd = 2
    · subst h2
      clear n0 n1
      have HO : Hid (ans = (linB c t && decide (ks.length = 0) && decide (0 < t.length) && decide (0 < (t.getD 0 (0, 0)).2) && decide (gcdN t = 1))) := by
        unfold Hid; rw [HANS.out]
        have hz : t.length = 0 → decide (0 < (t.getD 0 (0, 0)).2) = false := fun h => by
          have : t = [] := List.eq_nil_of_length_eq_zero h
          subst this; rfl
        cases ks with
        | nil =>
          simp only [okB, canonB]
          cases linB c t
          · simp
          · by_cases hl : t.length = 0
            · simp [hl]
            · have : 0 < t.length := by omega
              simp [this]
        | cons k ks => simp [okB]
      clear HANS HK IH
      generalize ks.length = kl at *
      cases hB : linB c t
      · rw [hB] at HC1 HO
        clear HC2 hB HT
        go_wp2_with (go_at_call 58; refine (HC1.out _ h3.out.1).mono ?_; rintro e w1 ⟨rfl, h1⟩)
        go_ret
        exact RET.out _ _ (by rw [HO.out]; rfl) (h3.out.1.thenNo h1)
      · have HC3 := Lib.hid (HC2.out hB)
        rw [hB] at HC1 HO
        clear HC2 hB
        by_cases hl : kl = 0
        · have e1 : ((kl : Int) == 0) = true := by rw [beq0]; simp [hl]
          have HO1 : Hid (ans = (decide (0 < t.length) && decide (0 < (t.getD 0 (0, 0)).2) && decide (gcdN t = 1))) := by unfold Hid; rw [HO.out]; simp [hl]
          clear HO hl
          by_cases ht : 0 < t.length
          · have HO2 : Hid (ans = (decide (0 < t[0].2) && decide (gcdN t = 1))) := by
              unfold Hid; rw [HO1.out]; simp [ht, List.getD_eq_getElem?_getD]
            obtain ⟨b, o, rfl, _, _⟩ := (HT.out w (Chg.refl _ _)).mono_at 0 ht
            have HX := Lib.hid (fun W (h : Chg No w W) => by obtain ⟨b', o', e1, e2, e3⟩ := (HT.out W h).mono_at 0 ht; cases e1; simpa using e3)
            have i1 : (0 : Int) < (t.length : Int) := by omega
            rename_i hx0 hx1
            clear hx0 hx1 HT HO1
            generalize t[0].2 = k at *
            generalize gcdN t = g at *
            by_cases hk : 0 < k
            · have HO3 : Hid (ans = decide (g = 1)) := by unfold Hid; rw [HO2.out]; simp [hk]
              clear HO2
              go_wp2_with (first
                | (go_at_call 58; refine (HC1.out _ h3.out.1).mono ?_; rintro e w1 ⟨rfl, h1⟩; have r1 := h1.cell p1 id; have r2 := h1.cell p2 id; have r3 := h1.cell p3 id; have q2 := HX.out w1 (h3.out.1.thenNo h1); have H1 := Lib.hid (h3.out.1.thenNo h1); clear h1)
                | (go_at_call 65; refine (HC3.out _ H1.out).mono ?_; rintro e w2 ⟨rfl, h2⟩))
              go_ret
              exact RET.out _ _ (by rw [HO3.out, beq1]) (H1.out.thenNo h2)
            · have e : ans = false := by rw [HO2.out]; simp [hk]
              subst e
              clear HO2
              go_wp2_with (go_at_call 58; refine (HC1.out _ h3.out.1).mono ?_; rintro e w1 ⟨rfl, h1⟩; have r1 := h1.cell p1 id; have r2 := h1.cell p2 id; have r3 := h1.cell p3 id; have q2 := HX.out w1 (h3.out.1.thenNo h1); have H1 := Lib.hid (h3.out.1.thenNo h1); clear h1)
              go_ret
              exact ⟨rfl, H1.out⟩
          · have e : ans = false := by rw [HO1.out]; simp [ht]
            have h0 : t = [] := List.eq_nil_of_length_eq_zero (by omega)
            subst e; subst h0
            clear HO1
            go_wp2_with (go_at_call 58; refine (HC1.out _ h3.out.1).mono ?_; rintro e w1 ⟨rfl, h1⟩; have r1 := h1.cell p1 id; have r2 := h1.cell p2 id; have r3 := h1.cell p3 id; have H1 := Lib.hid (h3.out.1.thenNo h1); clear h1)
            go_ret
            exact ⟨rfl, H1.out⟩
        · have e1 : ((kl : Int) == 0) = false := by rw [beq0]; simp [hl]
          have e : ans = false := by rw [HO.out]; simp [hl]
          subst e
          clear HO hl
          go_wp2_with (go_at_call 58; refine (HC1.out _ h3.out.1).mono ?_; rintro e w1 ⟨rfl, h1⟩; have r1 := h1.cell p1 id; have r2 := h1.cell p2 id; have r3 := h1.cell p3 id; have H1 := Lib.hid (h3.out.1.thenNo h1); clear h1)
          go_ret
          exact ⟨rfl, H1.out⟩
    have n2 : (kd == 2) = false := by simp; omega
    clear HC1 HC2 HT
    by_cases h4 : kd = 4
    · subst h4
      clear n0 n1 n2
      have HO : Hid (ans = (nb && decide (ks.length = 1) && decide (kind0 n ks = 2) && ks.all (onlyF n))) := by unfold Hid; rw [HANS.out]; simp [okB]
      clear HANS
      cases nb
      · have e : ans = false := HO.out
        subst e
        go_wp2_with fail
        go_ret
        exact ⟨rfl, h3.out.1⟩
      by_cases hl : ks.length = 1
      · have hlt : 0 < ks.length := by omega
        obtain ⟨b, o, v0, v1, v2, v3, rfl, hv, x0, x1, x2, x3⟩ := forms_at (HK.out _ h3.out.1) 0 hlt
        obtain rfl := form_kind hv
        have hall : ks.all (onlyF n) = onlyF n ks[0] := by
          match ks, hl with
          | [k], _ => simp
        rw [hall] at HO
        have HI := Lib.hid (IH.out _ _ wc _ hv)
        rw [kind0_eq hlt] at x0 HI
        simp only [Nat.zero_mul, Nat.add_zero] at x0 x1 x2 x3
        have e1 : ((ks.length : Int) == 1) = true := by rw [beq1]; simp [hl]
        have j1 : (0 : Int) < (ks.length : Int) := by omega
        have HO1 : Hid (ans = (decide (kind0 n ks = 2) && onlyF n ks[0])) := by unfold Hid; rw [HO.out]; simp [hl]
        clear hv HO hall hl HK IH
        generalize onlyF n ks[0] = on at *
        by_cases hk2 : kind0 n ks = 2
        · rw [hk2] at x0 HI
          have HO2 : Hid (ans = on) := by unfold Hid; rw [HO1.out]; simp [hk2]
          clear hk2 HO1
          go_wp2_with (go_at_call 48; refine (HI.out).mono ?_; rintro e w1 ⟨rfl, h1⟩)
          go_ret
          exact RET.out _ _ (by rw [HO2.out]) (h3.out.1.thenNo h1)
        · have e : ans = false := by rw [HO1.out]; simp [hk2]
          have e2 : (kind0 n ks == 2) = false := by simpa using hk2
          clear HO1 hk2 HI
          subst e
          generalize kind0 n ks = k0 at *
          go_wp2_with fail
          go_ret
          exact ⟨rfl, h3.out.1⟩
      · have e : ans = false := by rw [HO.out]; simp [hl]
        have e1 : ((ks.length : Int) == 1) = false := by rw [beq1]; simp [hl]
        subst e
        clear HO hl
        go_wp2_with fail
        go_ret
        exact ⟨rfl, h3.out.1⟩
    have n4 : (kd == 4) = false := by simp; omega
    by_cases h5 : kd = 5 ∨ kd = 6
    · have HO : Hid (ans = (nb && ks.all (onlyF n))) := by unfold Hid; rw [HANS.out]; rcases h5 with rfl | rfl <;> simp [okB]
      clear HANS n0 n1 n2 n4
      have hno : Hid (∀ i (h : i < ks.length), onlyF n ks[i] = false → ans = false) := fun i h hf => by
        rw [HO.out]
        have : ks.all (onlyF n) = false := by rw [List.all_eq_false]; exact ⟨ks[i], List.getElem_mem h, by rw [hf]; simp⟩
        rw [this]; simp
      have hyes : Hid ((∀ i (h : i < ks.length), onlyF n ks[i] = true) → ans = nb) := fun hall => by
        rw [HO.out]
        have : ks.all (onlyF n) = true := by
          rw [List.all_eq_true]
          intro x hx
          obtain ⟨i, hi, rfl⟩ := List.getElem_of_mem hx
          exact hall i hi
        rw [this]; simp
      clear HO
      rcases h5 with rfl | rfl
      all_goals
        go_wp2_with fail
        go_loopw [5] (fun s5 wr => ∃ (i : Nat), s5 = .int .i64 i ∧ i ≤ ks.length ∧ Hid (∀ j (h : j < ks.length), j < i → onlyF n ks[j] = true) ∧ Hid (Chg No wc wr)) (fun s5 _ => ks.length - (intOf s5).toNat)
        case atStart => exact ⟨0, rfl, Nat.zero_le _, fun j _ h => absurd h (Nat.not_lt_zero j), Chg.refl _ _⟩
        case round =>
          obtain ⟨i, rfl, gi, hg, hch⟩ := hrel
          obtain ⟨p0, p1, p2, p3⟩ := obj_four (hch.out.obj h3.out.2 id)
          by_cases hlt : i < ks.length
          · obtain ⟨b, o, v0, v1, v2, v3, rfl, hv, x0, x1, x2, x3⟩ := forms_at (HK.out wr (h3.out.1.thenNo hch.out)) i hlt
            have HI := Lib.hid (IH.out _ _ wr _ hv)
            have HN := Lib.hid (hno.out i hlt)
            have HS : Hid (onlyF n ks[i] = true → ∀ j (h : j < ks.length), j < i + 1 → onlyF n ks[j] = true) := fun hp j h hj => by
              rcases Nat.lt_or_ge j i with g | g
              · exact hg.out j h g
              · obtain rfl : j = i := by omega
                exact hp
            generalize onlyF n ks[i] = on at *
            have i0 : (0 : Int) ≤ (i : Int) := by omega
            have i1 : (i : Int) < (ks.length : Int) := by omega
            clear hv IH
            cases on
            · have e := HN.out rfl
              clear HN HS hno hyes
              subst e
              go_wp2_with (go_at_call 48; refine HI.out.mono ?_; rintro e w5 ⟨rfl, h5⟩; have H5 := Lib.hid (hch.out.thenNo h5); clear h5)
              go_ret
              exact ⟨rfl, h3.out.1.thenNo H5.out⟩
            · have HS' := Lib.hid (HS.out rfl)
              clear HN HS
              go_wp2_with (go_at_call 48; refine HI.out.mono ?_; rintro e w5 ⟨rfl, h5⟩; have H5 := Lib.hid (hch.out.thenNo h5); clear h5)
              go_roundw
              case rel => exact ⟨i + 1, by go_num, hlt, HS'.out, H5.out⟩
              case measure => simp [intOf]; omega
          · have HY := Lib.hid (hyes.out (fun j h => hg.out j h (by omega)))
            clear hyes hno
            go_wp2
            go_ret
            exact RET.out _ _ HY.out.symm (h3.out.1.thenNo hch.out)
    · have e : ans = false := by
        rw [HANS.out]
        have h' : kd ≠ 5 ∧ kd ≠ 6 := by omega
        have h'' : kd ≠ 0 ∧ kd ≠ 1 := by omega
        simp [okB, h2, h4, h'.1, h'.2, h''.1, h''.2]
      have n5 : (kd == 5) = false := by simp; omega
      have n6 : (kd == 6) = false := by simp; omega
      subst e
      clear HANS
      go_wp2_with fail
      go_ret
      exact ⟨rfl, h3.out.1⟩
theorem refOnly_any : ∀ n, OnlyOk n
  | 0 => fun _ _ _ _ h => h.elim
  | n + 1 => onlyOk_step n (Lib.hid (refOnly_any n))

def ref03IsB (n : Nat) (f : FT n) : Bool := decide (depthF n f 128 ≤ 128) && decide (0 ≤ sizeF n f 20480) && onlyF n f
set_option maxHeartbeats 1000000 in
theorem ref03Is_any {n : Nat} {f : FT n} {R : Nat → Prop} {w : World} {cs : List Value} (h : (formV n) R w cs f) :
    Calls Try.prog 26 #[.agg cs.toArray] w fun e w' => e = .returned (.bool (ref03IsB n f)) ∧ Chg No w w' := by
  have hg := formV_good n
  obtain ⟨v0, v1, v2, v3, rfl⟩ : ∃ v0 v1 v2 v3, cs = [v0, v1, v2, v3] := by
    have hl := hg.len h
    rw [formV_sz] at hl
    match cs, hl with
    | [v0, v1, v2, v3], _ => exact ⟨v0, v1, v2, v3, rfl⟩
  have HD := Lib.hid (fun W (hc : Chg No w W) z => refDepth_any n f R W _ (hg.no h hc) 128 z)
  have HS := Lib.hid (fun W (hc : Chg No w W) => refSize_any n f R W _ (hg.no h hc) 20480 (by omega) (by omega))
  have HO := Lib.hid (fun W (hc : Chg No w W) => refOnly_any n f R W _ (hg.no h hc))
  clear h
  unfold ref03IsB
  generalize depthF n f 128 = d at *
  generalize sizeF n f 20480 = s at *
  generalize onlyF n f = o at *
  have hcw : Hid (Chg No w (w.alloc (.cells #[v0, v1, v2, v3] 27)) ∧ (w.alloc (.cells #[v0, v1, v2, v3] 27)).heap[w.heap.size]? = some (.cells #[v0, v1, v2, v3] 27 (0, 0))) := ⟨(Chg.refl _ _).alloc _, heap_alloc_new _ _⟩
  have ST : Hid (∀ W W', (Chg No w W ∧ W.heap[w.heap.size]? = some (.cells #[v0, v1, v2, v3] 27 (0, 0))) → Chg No W W' → (Chg No w W' ∧ W'.heap[w.heap.size]? = some (.cells #[v0, v1, v2, v3] 27 (0, 0)))) := fun W W' h h' => ⟨h.1.thenNo h', h'.obj h.2 id⟩
  have e1 : decide ((d : Int) ≤ 128) = decide (d ≤ 128) := by rw [Bool.eq_iff_iff]; simp; omega
  by_cases hd : d ≤ 128
  · have hd' : (d : Int) ≤ 128 := by omega
    by_cases hs : 0 ≤ s
    · rw [show (decide (d ≤ 128) && decide (0 ≤ s) && o) = o by simp [hd, hs]]
      clear e1
      go_enter Try.func26, Try.ntmps26
      go_wp2_with (first
        | (go_at_call 46; refine (HD.out _ hcw.out.1 _ (by rfl) (by omega)).mono ?_; rintro e w1 ⟨rfl, h1⟩; have H1 := Lib.hid (ST.out _ _ hcw.out h1); obtain ⟨p0, p1, p2, p3⟩ := obj_four H1.out.2; clear h1)
        | (go_at_call 47; refine (HS.out _ H1.out.1).mono ?_; rintro e w2 ⟨rfl, h2⟩; have H2 := Lib.hid (ST.out _ _ H1.out h2); obtain ⟨p0, p1, p2, p3⟩ := obj_four H2.out.2; clear h2)
        | (go_at_call 48; refine (HO.out _ H2.out.1).mono ?_; rintro e w3 ⟨rfl, h3⟩))
      go_ret
      exact ⟨rfl, H2.out.1.thenNo h3⟩
    · rw [show (decide (d ≤ 128) && decide (0 ≤ s) && o) = false by simp [hs]]
      clear e1
      go_enter Try.func26, Try.ntmps26
      go_wp2_with (first
        | (go_at_call 46; refine (HD.out _ hcw.out.1 _ (by rfl) (by omega)).mono ?_; rintro e w1 ⟨rfl, h1⟩; have H1 := Lib.hid (ST.out _ _ hcw.out h1); obtain ⟨p0, p1, p2, p3⟩ := obj_four H1.out.2; clear h1)
        | (go_at_call 47; refine (HS.out _ H1.out.1).mono ?_; rintro e w2 ⟨rfl, h2⟩; have H2 := Lib.hid (ST.out _ _ H1.out h2); obtain ⟨p0, p1, p2, p3⟩ := obj_four H2.out.2; clear h2))
      go_ret
      exact ⟨rfl, H2.out.1⟩
  · have hd' : ¬ (d : Int) ≤ 128 := by omega
    rw [show (decide (d ≤ 128) && decide (0 ≤ s) && o) = false by simp [hd]]
    clear e1
    go_enter Try.func26, Try.ntmps26
    go_wp2_with (go_at_call 46; refine (HD.out _ hcw.out.1 _ (by rfl) (by omega)).mono ?_; rintro e w1 ⟨rfl, h1⟩; have H1 := Lib.hid (ST.out _ _ hcw.out h1); obtain ⟨p0, p1, p2, p3⟩ := obj_four H1.out.2; clear h1)
    go_ret
    exact ⟨rfl, H1.out.1⟩
end Go.Proofs.Ytlejcnbpodmleaa
