/-
  formula.fine and the reference's fine.
-/
import Derived.Test.YtlejcnbpodmleaaFrmE
import Derived.Test.YtlejcnbpodmleaaCnfB
import Derived.Test.YtlejcnbpodmleaaFrmB
namespace Go.Proofs.Ytlejcnbpodmleaa
open Go Go.RowKit

/-- What a sound formula is at its head. -/
def okS (kd : Int) (nb lb : Bool) (kl : Nat) : Bool :=
  (decide (kd = 0) || decide (kd = 1)) && nb && decide (kl = 0) || (decide (kd = 2) || decide (kd = 3)) && lb && decide (kl = 0) || decide (kd = 4) && nb && decide (kl = 1) || (decide (kd = 5) || decide (kd = 6)) && nb
def okSN {n : Nat} (f : Node (FT n)) : Bool := okS f.kind (noneB f.lin.1 f.lin.2.length) (linB f.lin.1 f.lin.2) f.kids.length
/-- Sound, but for depth and size. -/
def fineF : (n : Nat) → FT n → Bool
  | 0, _ => false
  | n + 1, f => okSN f && (Node.kids f).all (fineF n)
def FineOk (n : Nat) : Prop := ∀ (f : FT n) (R : Nat → Prop) (w : World) (cs : List Value), (formV n) R w cs f →
    Calls Try.prog 53 #[.agg cs.toArray] w fun e w' => e = .returned (.bool (fineF n f)) ∧ Chg No w w'
def RefFineOk (n : Nat) : Prop := ∀ (f : FT n) (R : Nat → Prop) (w : World) (cs : List Value), (formV n) R w cs f →
    Calls Try.prog 56 #[.agg cs.toArray] w fun e w' => e = .returned (.bool (fineF n f)) ∧ Chg No w w'

set_option maxRecDepth 100000 in
set_option maxHeartbeats 4000000 in
theorem fine_step (n : Nat) (IH : Hid (FineOk n)) : FineOk (n + 1) := by
    rintro f R w cs h
    obtain ⟨A, cap, B, capk, rfl, i1, i2, hm, hk⟩ := node_cells h
    have HC1 := Lib.hid (fun W (h : Chg No w W) => linCheck_any (Node.lin f).1 (hm.no monoE_good h))
    have HCF := Lib.hid (fun W0 (hW0 : Chg No w W0) => containsFunc_forms0 (hk.no (formE_good n) hW0) 69 entered_fine1 (fun k => !fineF n k) (fun W hW i hi cs hcs => by
        have HI := Lib.hid (fun W' (hW' : Chg No W W') => IH.out _ _ W' cs ((formV_good n).no hcs hW'))
        obtain ⟨kd', c', A', tl', cap', B', kl', capk', rfl⟩ := shape4 hcs
        generalize fineF n (Node.kids f)[i] = dd at *
        clear hcs hk hm h
        go_enter Try.func69, Try.ntmps69
        go_wp2_with (go_at_call 53; refine (HI.out _ (by first | exact (Chg.refl _ _).alloc _ | exact Chg.refl _ _)).mono ?_; rintro e w1 ⟨rfl, h1⟩)
        go_ret
        first | exact ⟨rfl, ((Chg.refl _ _).alloc _).thenNo h1⟩ | exact ⟨rfl, h1⟩))
    have hb1 := hm.big
    have hb2 := hk.big
    unfold big at hb1 hb2
    have hany : (Node.kids f).any (fun k => !fineF n k) = !(Node.kids f).all (fineF n) := by
      induction Node.kids f with
      | nil => rfl
      | cons k ks ih => simp only [List.any_cons, List.all_cons, ih, Bool.not_and]
    obtain ⟨ans, hans2⟩ : ∃ ans, ans = fineF (n + 1) f := ⟨_, rfl⟩
    rw [← hans2]
    have hans : fineF (n + 1) f = (okS (Node.kind f) (noneB (Node.lin f).1 (Node.lin f).2.length) (linB (Node.lin f).1 (Node.lin f).2) (Node.kids f).length && (Node.kids f).all (fineF n)) := rfl
    have hnil : (Node.kids f).length = 0 → (Node.kids f).all (fineF n) = true := fun h0 => by
      rw [List.eq_nil_of_length_eq_zero h0]; rfl
    rw [hans] at hans2
    rw [hany] at HCF
    have HANS := Lib.hid hans2
    have HNIL := Lib.hid hnil
    clear h hm hk hans hans2 hany IH hnil
    generalize (Node.kids f).all (fineF n) = al at *
    generalize linB (Node.lin f).1 (Node.lin f).2 = lb at *
    generalize Node.kind f = kd at *
    generalize (Node.lin f).1 = c at *
    generalize (Node.lin f).2.length = tl at *
    generalize (Node.kids f).length = kl at *
    obtain ⟨w3, hw3⟩ : ∃ w3, w3 = w.alloc (.cells #[.int .i64 kd, .int .i64 c, .slice A tl cap, .slice B kl capk] 27) := ⟨_, rfl⟩
    have h3 : Hid (Chg No w w3 ∧ w3.heap[w.heap.size]? = some (.cells #[.int .i64 kd, .int .i64 c, .slice A tl cap, .slice B kl capk] 27 (0, 0))) := by
      rw [hw3]; exact ⟨(Chg.refl _ _).alloc _, heap_alloc_new _ _⟩
    obtain ⟨nb, hnb⟩ : ∃ nb, nb = noneB c tl := ⟨_, rfl⟩
    have HNB := Lib.hid hnb
    rw [← hnb] at HANS
    clear hnb
    go_enter Try.func53, Try.ntmps53
    go_upto_region 1 with fail
    go_cut [3] (fun s3 wx => s3 = .bool nb ∧ wx = w3)
    case first =>
      clear HANS HC1 HCF
      by_cases hc : c = 0
      · subst hc
        by_cases ht : tl = 0
        · subst ht
          go_wp2_with fail
          go_meet
          exact ⟨by rw [HNB.out]; rfl, hw3.symm⟩
        · have e1 : ((tl : Int) == 0) = false := by simp; omega
          go_wp2_with fail
          go_meet
          exact ⟨by rw [HNB.out]; simp [noneB, ht], hw3.symm⟩
      · have e1 : (c == 0) = false := by simp [hc]
        go_wp2_with fail
        go_meet
        exact ⟨by rw [HNB.out]; simp [noneB, hc], hw3.symm⟩
    case rest =>
    obtain ⟨rfl, rfl⟩ := hcut
    clear hw3 HNB
    obtain ⟨p0, p1, p2, p3⟩ := obj_four h3.out.2
    have RET : Hid (∀ (q : Bool) (W : World), q = ans → Chg No w W → Ending.returned (.bool q) = Ending.returned (.bool ans) ∧ Chg No w W) := fun q W h g => ⟨by rw [h], g⟩
    by_cases h0 : kd = 0 ∨ kd = 1
    · have HO : Hid (ans = (nb && decide (kl = 0))) := by
        unfold Hid; rw [HANS.out]
        by_cases hz : kl = 0
        · rw [HNIL.out hz]; rcases h0 with rfl | rfl <;> simp [okS]
        · rcases h0 with rfl | rfl <;> simp [okS, hz]
      clear HANS HC1 HCF HNIL
      rcases h0 with rfl | rfl
      all_goals
        cases nb
        all_goals
          go_wp2_with fail
          go_ret
          exact RET.out _ _ (by rw [HO.out]; simp [beq0]) h3.out.1
    have n0 : (kd == 0) = false := by simp; omega
    have n1 : (kd == 1) = false := by simp; omega
    by_cases h2 : kd = 2 ∨ kd = 3
    · have HO : Hid (ans = (lb && decide (kl = 0))) := by
        unfold Hid; rw [HANS.out]
        by_cases hz : kl = 0
        · rw [HNIL.out hz]; rcases h2 with rfl | rfl <;> simp [okS]
        · rcases h2 with rfl | rfl <;> simp [okS, hz]
      clear HANS HCF HNIL n0 n1
      cases lb
      · rw [show (if false = true then (0 : Int) else 5) = 5 from rfl, show errV 43 5 = .iface 43 (.int .i64 5) by simp [errV]] at HC1
        have e : ans = false := HO.out
        subst e
        rcases h2 with rfl | rfl
        all_goals
          go_wp2_with (go_at_call 68; refine (HC1.out _ h3.out.1).mono ?_; rintro e w1 ⟨rfl, h1⟩; have r1 := h1.cell p1 id; have r2 := h1.cell p2 id; have r3 := h1.cell p3 id; have H1 := Lib.hid (h3.out.1.thenNo h1); clear h1)
          go_ret
          exact ⟨rfl, H1.out⟩
      · rw [show (if true = true then (0 : Int) else 5) = 0 from rfl, show errV 43 0 = .nilIface by simp [errV]] at HC1
        have HO1 : Hid (ans = decide (kl = 0)) := HO.out
        clear HO
        rcases h2 with rfl | rfl
        all_goals
          go_wp2_with (go_at_call 68; refine (HC1.out _ h3.out.1).mono ?_; rintro e w1 ⟨rfl, h1⟩; have r1 := h1.cell p1 id; have r2 := h1.cell p2 id; have r3 := h1.cell p3 id; have H1 := Lib.hid (h3.out.1.thenNo h1); clear h1)
          go_ret
          exact RET.out _ _ (by rw [HO1.out, beq0]) H1.out
    have n2 : (kd == 2) = false := by simp; omega
    have n3 : (kd == 3) = false := by simp; omega
    clear HC1 HNIL
    by_cases h4 : kd = 4
    · subst h4
      clear n0 n1 n2 n3
      have HO : Hid (ans = (nb && decide (kl = 1) && al)) := by unfold Hid; rw [HANS.out]; simp [okS]
      clear HANS
      by_cases hl : kl = 1
      · have e1 : ((kl : Int) != 1) = false := by simp [hl]
        have HO1 : Hid (ans = (nb && al)) := by unfold Hid; rw [HO.out]; simp [hl]
        clear HO hl
        cases nb
        · have e : ans = false := HO1.out
          subst e
          clear HCF
          go_wp2_with fail
          go_ret
          exact ⟨rfl, h3.out.1⟩
        · go_wp2_with (go_at_call 66; refine (HCF.out _ h3.out.1).mono ?_; rintro e w1 ⟨rfl, h1⟩)
          go_ret
          exact RET.out _ _ (by rw [HO1.out]; simp) (h3.out.1.thenNo h1)
      · have e1 : ((kl : Int) != 1) = true := by simp; omega
        have e : ans = false := by rw [HO.out]; simp [hl]
        subst e
        clear HO hl HCF
        go_wp2_with fail
        go_ret
        exact ⟨rfl, h3.out.1⟩
    have n4 : (kd == 4) = false := by simp; omega
    by_cases h5 : kd = 5 ∨ kd = 6
    · have HO1 : Hid (ans = (nb && al)) := by unfold Hid; rw [HANS.out]; rcases h5 with rfl | rfl <;> simp [okS]
      clear HANS n0 n1 n2 n3 n4
      cases nb
      · have e : ans = false := HO1.out
        subst e
        clear HCF
        rcases h5 with rfl | rfl
        all_goals
          go_wp2_with fail
          go_ret
          exact ⟨rfl, h3.out.1⟩
      · rcases h5 with rfl | rfl
        all_goals
          go_wp2_with (go_at_call 66; refine (HCF.out _ h3.out.1).mono ?_; rintro e w1 ⟨rfl, h1⟩)
          go_ret
          exact RET.out _ _ (by rw [HO1.out]; simp) (h3.out.1.thenNo h1)
    · have e : ans = false := by
        rw [HANS.out]
        have h' : kd ≠ 5 ∧ kd ≠ 6 := by omega
        have h'' : kd ≠ 0 ∧ kd ≠ 1 := by omega
        have h3' : kd ≠ 2 ∧ kd ≠ 3 := by omega
        simp [okS, h4, h'.1, h'.2, h''.1, h''.2, h3'.1, h3'.2]
      have n5 : (kd == 5) = false := by simp; omega
      have n6 : (kd == 6) = false := by simp; omega
      subst e
      clear HANS HCF
      go_wp2_with fail
      go_ret
      exact ⟨rfl, h3.out.1⟩
theorem fine_any : ∀ n, FineOk n
  | 0 => fun _ _ _ _ h => h.elim
  | n + 1 => fine_step n (Lib.hid (fine_any n))

set_option maxRecDepth 100000 in
set_option maxHeartbeats 4000000 in
theorem refFine_step (n : Nat) (IH : Hid (RefFineOk n)) : RefFineOk (n + 1) := by
    rintro f R w cs h
    obtain ⟨A, cap, B, capk, rfl, i1, i2, hm, hk⟩ := node_cells h
    have HK := Lib.hid (fun W (h : Chg No w W) => hk.no (formE_good n) h)
    have HC1 := Lib.hid (fun W (h : Chg No w W) => ref01Check_any (Node.lin f).1 (hm.no monoE_good h))
    have hb1 := hm.big
    have hb2 := hk.big
    unfold big at hb1 hb2
    obtain ⟨ans, hans2⟩ : ∃ ans, ans = fineF (n + 1) f := ⟨_, rfl⟩
    rw [← hans2]
    have hans : fineF (n + 1) f = (okS (Node.kind f) (noneB (Node.lin f).1 (Node.lin f).2.length) (linB (Node.lin f).1 (Node.lin f).2) (Node.kids f).length && (Node.kids f).all (fineF n)) := rfl
    rw [hans] at hans2
    have HANS := Lib.hid hans2
    clear h hm hk hans hans2
    generalize linB (Node.lin f).1 (Node.lin f).2 = lb at *
    generalize Node.kind f = kd at *
    generalize (Node.lin f).1 = c at *
    generalize (Node.lin f).2.length = tl at *
    generalize Node.kids f = ks at *
    obtain ⟨w3, hw3⟩ : ∃ w3, w3 = w.alloc (.cells #[.int .i64 kd, .int .i64 c, .slice A tl cap, .slice B ks.length capk] 27) := ⟨_, rfl⟩
    have h3 : Hid (Chg No w w3 ∧ w3.heap[w.heap.size]? = some (.cells #[.int .i64 kd, .int .i64 c, .slice A tl cap, .slice B ks.length capk] 27 (0, 0))) := by
      rw [hw3]; exact ⟨(Chg.refl _ _).alloc _, heap_alloc_new _ _⟩
    obtain ⟨nb, hnb⟩ : ∃ nb, nb = noneB c tl := ⟨_, rfl⟩
    have HNB := Lib.hid hnb
    rw [← hnb] at HANS
    clear hnb
    obtain ⟨ok, hokE⟩ : ∃ ok, ok = okS kd nb lb ks.length := ⟨_, rfl⟩
    have HOK := Lib.hid hokE
    rw [← hokE] at HANS
    clear hokE
    go_enter Try.func56, Try.ntmps56
    go_upto_region 1 with fail
    go_cut [3] (fun s3 wx => s3 = .bool nb ∧ wx = w3)
    case first =>
      clear HANS HC1 HK IH HOK
      by_cases hc : c = 0
      · subst hc
        by_cases ht : tl = 0
        · subst ht
          go_wp2_with fail
          go_meet
          exact ⟨by rw [HNB.out]; rfl, hw3.symm⟩
        · have e1 : ((tl : Int) == 0) = false := by simp; omega
          go_wp2_with fail
          go_meet
          exact ⟨by rw [HNB.out]; simp [noneB, ht], hw3.symm⟩
      · have e1 : (c == 0) = false := by simp [hc]
        go_wp2_with fail
        go_meet
        exact ⟨by rw [HNB.out]; simp [noneB, hc], hw3.symm⟩
    case rest =>
    obtain ⟨rfl, rfl⟩ := hcut
    clear hw3 HNB
    obtain ⟨p0, p1, p2, p3⟩ := obj_four h3.out.2
    go_upto_block 0 with fail
    go_cut [5] (fun s5 wx => s5 = .bool ok ∧ Hid (Chg No w wx ∧ wx.heap[w.heap.size]? = some (.cells #[.int .i64 kd, .int .i64 c, .slice A tl cap, .slice B ks.length capk] 27 (0, 0))))
    case first =>
      clear HANS HK IH
      rename_i K hK J K' hJ hM
      clear hK
      have HJ := Lib.hid hJ
      clear hJ
      have MEET : Hid (∀ (q : Bool) (W : World), ok = q → (Chg No w W ∧ W.heap[w.heap.size]? = some (.cells #[.int .i64 kd, .int .i64 c, .slice A tl cap, .slice B ks.length capk] 27 (0, 0))) → Value.bool q = Value.bool ok ∧ Hid (Chg No w W ∧ W.heap[w.heap.size]? = some (.cells #[.int .i64 kd, .int .i64 c, .slice A tl cap, .slice B ks.length capk] 27 (0, 0)))) := fun q W h g => ⟨by rw [h], g⟩
      generalize ks.length = kl at *
      by_cases h0 : kd = 0 ∨ kd = 1
      · have HO : Hid (ok = (nb && decide (kl = 0))) := by
          unfold Hid; rw [HOK.out]; rcases h0 with rfl | rfl <;> simp [okS]
        clear HOK HC1
        rcases h0 with rfl | rfl
        all_goals
          cases nb
          all_goals
            go_wp2_with fail
            have hJ := HJ.out
            go_meet
            exact MEET.out _ _ (by rw [HO.out]; simp [beq0]) h3.out
      have n0 : (kd == 0) = false := by simp; omega
      have n1 : (kd == 1) = false := by simp; omega
      by_cases h2 : kd = 2 ∨ kd = 3
      · have HO : Hid (ok = (lb && decide (kl = 0))) := by
          unfold Hid; rw [HOK.out]; rcases h2 with rfl | rfl <;> simp [okS]
        clear HOK n0 n1
        by_cases hz : kl = 0
        · have e1 : ((kl : Int) == 0) = true := by rw [beq0]; simp [hz]
          have HO1 : Hid (ok = lb) := by unfold Hid; rw [HO.out]; simp [hz]
          clear HO hz
          rcases h2 with rfl | rfl
          all_goals
            go_wp2_with (go_at_call 58; refine (HC1.out _ h3.out.1).mono ?_; rintro e w1 ⟨rfl, h1⟩; have H1 := Lib.hid (And.intro (h3.out.1.thenNo h1) (h1.obj h3.out.2 id)); clear h1)
            have hJ := HJ.out
            go_meet
            exact MEET.out _ _ HO1.out H1.out
        · have e1 : ((kl : Int) == 0) = false := by rw [beq0]; simp [hz]
          have HO1 : Hid (ok = false) := by unfold Hid; rw [HO.out]; simp [hz]
          clear HO hz HC1
          rcases h2 with rfl | rfl
          all_goals
            go_wp2_with fail
            have hJ := HJ.out
            go_meet
            exact MEET.out _ _ HO1.out h3.out
      have n2 : (kd == 2) = false := by simp; omega
      have n3 : (kd == 3) = false := by simp; omega
      clear HC1
      by_cases h4 : kd = 4
      · subst h4
        clear n0 n1 n2 n3
        have HO : Hid (ok = (nb && decide (kl = 1))) := by unfold Hid; rw [HOK.out]; simp [okS]
        clear HOK
        cases nb
        all_goals
          go_wp2_with fail
          have hJ := HJ.out
          go_meet
          exact MEET.out _ _ (by rw [HO.out]; simp [beq1]) h3.out
      have n4 : (kd == 4) = false := by simp; omega
      by_cases h5 : kd = 5 ∨ kd = 6
      · have HO : Hid (ok = nb) := by unfold Hid; rw [HOK.out]; rcases h5 with rfl | rfl <;> simp [okS]
        clear HOK n0 n1 n2 n3 n4
        rcases h5 with rfl | rfl
        all_goals
          go_wp2_with fail
          have hJ := HJ.out
          go_meet
          exact MEET.out _ _ HO.out h3.out
      · have HO : Hid (ok = false) := by
          unfold Hid
          rw [HOK.out]
          have h' : kd ≠ 5 ∧ kd ≠ 6 := by omega
          have h'' : kd ≠ 0 ∧ kd ≠ 1 := by omega
          have h3' : kd ≠ 2 ∧ kd ≠ 3 := by omega
          simp [okS, h4, h'.1, h'.2, h''.1, h''.2, h3'.1, h3'.2]
        have n5 : (kd == 5) = false := by simp; omega
        have n6 : (kd == 6) = false := by simp; omega
        clear HOK
        go_wp2_with fail
        have hJ := HJ.out
        go_meet
        exact MEET.out _ _ HO.out h3.out
    case rest =>
      obtain ⟨rfl, h4⟩ := hcut
      clear p0 p1 p2 p3 HC1 HOK h3
      have hstart : Hid (ans = (ok && (ks.drop 0).all (fineF n))) := HANS.out
      clear HANS
      have RET : Hid (∀ (q : Bool) (W : World), ans = q → Chg No w W → Ending.returned (.bool q) = Ending.returned (.bool ans) ∧ Chg No w W) := fun q W h g => ⟨by rw [h], g⟩
      go_wp2_with fail
      go_loopw [5, 6] (fun s5 s6 wr => ∃ (q : Bool) (i : Nat), s5 = .bool q ∧ s6 = .int .i64 i ∧ i ≤ ks.length ∧ Hid (ans = (q && (ks.drop i).all (fineF n))) ∧ Hid (Chg No wc wr)) (fun _ s6 _ => ks.length - (intOf s6).toNat)
      case atStart => exact ⟨ok, 0, rfl, rfl, Nat.zero_le _, hstart, Chg.refl _ _⟩
      case round =>
        obtain ⟨q, i, rfl, rfl, gi, hg, hch⟩ := hrel
        obtain ⟨p0, p1, p2, p3⟩ := obj_four (hch.out.obj h4.out.2 id)
        clear hstart
        by_cases hlt : i < ks.length
        · cases q
          · have HE : Hid (ans = false) := hg.out
            go_wp2
            go_ret
            exact RET.out _ _ HE.out (h4.out.1.thenNo hch.out)
          · obtain ⟨b, o, v0, v1, v2, v3, rfl, hv, x0, x1, x2, x3⟩ := forms_at (HK.out wr (h4.out.1.thenNo hch.out)) i hlt
            have HI := Lib.hid (IH.out _ _ wr _ hv)
            have HG : Hid (ans = (fineF n ks[i] && (ks.drop (i + 1)).all (fineF n))) := by
              unfold Hid
              rw [hg.out, List.drop_eq_getElem_cons hlt, List.all_cons]
              rfl
            generalize fineF n ks[i] = on at *
            have i0 : (0 : Int) ≤ (i : Int) := by omega
            have i1 : (i : Int) < (ks.length : Int) := by omega
            clear hv IH
            go_wp2_with (go_at_call 56; refine HI.out.mono ?_; rintro e w5 ⟨rfl, h5⟩; have H5 := Lib.hid (hch.out.thenNo h5); clear h5)
            go_roundw
            case rel => exact ⟨on, i + 1, rfl, by go_num, hlt, HG.out, H5.out⟩
            case measure => simp [intOf]; omega
        · have HE : Hid (ans = q) := by
            unfold Hid
            rw [hg.out, List.drop_eq_nil_of_le (by omega)]
            simp
          go_wp2
          go_ret
          exact RET.out _ _ HE.out (h4.out.1.thenNo hch.out)
theorem refFine_any : ∀ n, RefFineOk n
  | 0 => fun _ _ _ _ h => h.elim
  | n + 1 => refFine_step n (Lib.hid (refFine_any n))
end Go.Proofs.Ytlejcnbpodmleaa
