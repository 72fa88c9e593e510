/-
  norm.canonical, norm.walk, norm.Is; the reference's only and Is.
-/
import Derived.Test.YtlejcnbpodmleaaFrmA
import Derived.Test.YtlejcnbpodmleaaLin4
import Derived.Deep.DeepCutAuto
import Derived.Deep.CutBlock
namespace Go.Proofs.Ytlejcnbpodmleaa
open Go Go.RowKit

/-- Whether a form is canonical. -/
def canonB (c : Int) (t : List Mono) : Bool := linB c t && decide (0 < (t.getD 0 (0, 0)).2) && decide (gcdN t = 1)

set_option maxHeartbeats 1000000 in
theorem canonical_any {R : Nat → Prop} {w : World} (c : Int) {A : Option Addr} {t : List Mono} {cap : Nat} (ht : Monos R w A t cap) :
    Calls Try.prog 61 #[.agg #[.int .i64 c, .slice A t.length cap]] w fun e w' => e = .returned (.bool (canonB c t)) ∧ Chg No w w' := by
  have HT := Lib.hid (fun W (h : Chg No w W) => ht.no monoE_good h)
  have HC := Lib.hid (fun W (h : Chg No w W) => linCheck_any c (ht.no monoE_good h))
  have HD := Lib.hid (fun W (h : Chg No w W) => linGcd_any (c := c) (ht.no monoE_good h))
  have hb := ht.big
  unfold big at hb
  clear ht
  have hcw : Hid (Chg No w (w.alloc (.cells #[.int .i64 c, .slice A t.length cap] 24))) := (Chg.refl _ _).alloc _
  have hby : Hid ((w.alloc (.cells #[.int .i64 c, .slice A t.length cap] 24)).cell? ⟨w.heap.size, 0, none⟩ = some (.int .i64 c)) := by unfold Hid; simp
  have hbx : Hid ((w.alloc (.cells #[.int .i64 c, .slice A t.length cap] 24)).cell? ⟨w.heap.size, 1, none⟩ = some (.slice A t.length cap)) := by unfold Hid; simp
  cases hB : linB c t
  · rw [hB] at HC
    rw [show (if false = true then (0 : Int) else 5) = 5 from rfl, show errV 43 5 = .iface 43 (.int .i64 5) by simp [errV]] at HC
    rw [show canonB c t = false by unfold canonB; rw [hB]; rfl]
    clear hB HD
    go_enter Try.func61, Try.ntmps61
    go_wp2_with (go_at_call 68; refine (HC.out _ hcw.out).mono ?_; rintro e w1 ⟨rfl, h1⟩)
    go_ret
    exact ⟨rfl, hcw.out.thenNo h1⟩
  · rw [hB] at HC HD
    rw [show (if true = true then (0 : Int) else 5) = 0 from rfl, show errV 43 0 = .nilIface by simp [errV]] at HC
    rw [show (if true = true then (gcdN t : Int) else 0) = (gcdN t : Int) from rfl] at HD
    have ha : canonB c t = (decide (0 < (t.getD 0 (0, 0)).2) && decide (gcdN t = 1)) := by unfold canonB; rw [hB]; rfl
    rw [ha]
    clear hB ha
    by_cases hl : t.length = 0
    · have h0 : t = [] := List.eq_nil_of_length_eq_zero hl
      subst h0
      clear hl
      go_enter Try.func61, Try.ntmps61
      go_wp2_with (go_at_call 68; refine (HC.out _ hcw.out).mono ?_; rintro e w1 ⟨rfl, h1⟩; have q1 := h1.cell hbx.out id)
      go_ret
      exact ⟨rfl, hcw.out.thenNo h1⟩
    · have hlt : 0 < t.length := by omega
      have hgd : t.getD 0 (0, 0) = t[0] := by simp [List.getD_eq_getElem?_getD, hlt]
      rw [hgd]
      obtain ⟨b, o, rfl, _, _⟩ := (HT.out w (Chg.refl _ _)).mono_at 0 hlt
      have HX := Lib.hid (fun W (h : Chg No w W) => by obtain ⟨b', o', e1, e2, e3⟩ := (HT.out W h).mono_at 0 hlt; cases e1; simpa using e3)
      have i1 : (0 : Int) < (t.length : Int) := by omega
      rename_i hx0 hx1
      clear hx0 hx1 hgd hl HT
      generalize t[0].2 = k at *
      generalize gcdN t = g at *
      by_cases hk : 0 < k
      · by_cases hg : g = 1
        · subst hg
          rw [show (decide (0 < k) && decide (1 = 1)) = true by simp; omega]
          go_enter Try.func61, Try.ntmps61
          go_wp2_with (first
            | (go_at_call 68; refine (HC.out _ hcw.out).mono ?_; rintro e w1 ⟨rfl, h1⟩; have q0 := h1.cell hby.out id; have q1 := h1.cell hbx.out id; have q2 := HX.out w1 (hcw.out.thenNo h1); have H1 := Lib.hid (hcw.out.thenNo h1); clear h1)
            | (go_at_call 73; refine (HD.out _ H1.out).mono ?_; rintro e w2 ⟨rfl, h2⟩))
          go_ret
          exact ⟨rfl, H1.out.thenNo h2⟩
        · rw [show (decide (0 < k) && decide (g = 1)) = false by simp [hg]]
          have hg' : ((g : Int) == 1) = false := by simp; omega
          go_enter Try.func61, Try.ntmps61
          go_wp2_with (first
            | (go_at_call 68; refine (HC.out _ hcw.out).mono ?_; rintro e w1 ⟨rfl, h1⟩; have q0 := h1.cell hby.out id; have q1 := h1.cell hbx.out id; have q2 := HX.out w1 (hcw.out.thenNo h1); have H1 := Lib.hid (hcw.out.thenNo h1); clear h1)
            | (go_at_call 73; refine (HD.out _ H1.out).mono ?_; rintro e w2 ⟨rfl, h2⟩))
          go_ret
          exact ⟨rfl, H1.out.thenNo h2⟩
      · rw [show (decide (0 < k) && decide (g = 1)) = false by simp [hk]]
        go_enter Try.func61, Try.ntmps61
        go_wp2_with (go_at_call 68; refine (HC.out _ hcw.out).mono ?_; rintro e w1 ⟨rfl, h1⟩; have q0 := h1.cell hby.out id; have q1 := h1.cell hbx.out id; have q2 := HX.out w1 (hcw.out.thenNo h1); have H1 := Lib.hid (hcw.out.thenNo h1); clear h1)
        go_ret
        exact ⟨rfl, H1.out⟩

/-- A formula's kind. -/
def kindF : (n : Nat) → FT n → Int
  | 0, _ => -1
  | _ + 1, f => Node.kind f
theorem form_kind : ∀ {n : Nat} {R : Nat → Prop} {w : World} {v : Value} {r : List Value} {x : FT n}, (formV n) R w (v :: r) x → v = .int .i64 (kindF n x)
  | 0, _, _, _, _, _, h => h.elim
  | n + 1, _, _, _, _, _, h => by
    obtain ⟨A, cap, B, capk, e, _⟩ := node_cells h
    injection e
def kind0 (n : Nat) (ks : List (FT n)) : Int := ((ks.head?).map (kindF n)).getD (-1)
theorem kind0_eq {n : Nat} {ks : List (FT n)} (h : 0 < ks.length) : kindF n ks[0] = kind0 n ks := by
  match ks, h with
  | k :: _, _ => rfl
/-- What a normalized formula is at its head. -/
def okB (kd : Int) (nb cn : Bool) (kl : Nat) (k0 : Int) : Bool :=
  (decide (kd = 0) || decide (kd = 1)) && nb && decide (kl = 0) || decide (kd = 2) && cn && decide (kl = 0) || decide (kd = 4) && nb && decide (kl = 1) && decide (k0 = 2) || (decide (kd = 5) || decide (kd = 6)) && nb
def noneB (c : Int) (tl : Nat) : Bool := decide (c = 0) && decide (tl = 0)
/-- The same of a node. -/
def okN {n : Nat} (f : Node (FT n)) : Bool := okB f.kind (noneB f.lin.1 f.lin.2.length) (canonB f.lin.1 f.lin.2) f.kids.length (kind0 n f.kids)
/-- norm.walk. -/
def walkF : (n : Nat) → Nat → FT n → Int → Int
  | 0, _, _, _ => -1
  | n + 1, d, f, l => if okN f = true ∧ 1 ≤ d then goF (walkF n (d - 1)) (Node.kids f) (l - 1) else -1
theorem walkF_range : ∀ (n d : Nat) (f : FT n) (l : Int), 0 ≤ l → -1 ≤ walkF n d f l ∧ walkF n d f l ≤ l
  | 0, _, _, l, h => ⟨by unfold walkF; omega, by unfold walkF; omega⟩
  | n + 1, d, f, l, h => by
    have := goF_range (s := walkF n (d - 1)) (walkF_range n (d - 1)) (Node.kids f) (l - 1) (by omega)
    unfold walkF
    split <;> omega
/-- Made of literals, FAnd and FOr. -/
def onlyF : (n : Nat) → FT n → Bool
  | 0, _ => false
  | n + 1, f => okN f && (Node.kids f).all (onlyF n)

def WalkOk (n : Nat) : Prop := ∀ (f : FT n) (R : Nat → Prop) (w : World) (cs : List Value), (formV n) R w cs f → ∀ (d : Nat) (z l : Int), z = d → d ≤ 1000 → 0 ≤ l → l ≤ 100000 →
    Calls Try.prog 42 #[.agg cs.toArray, .int .i64 z, .int .i64 l] w fun e w' => e = .returned (.int .i64 (walkF n d f l)) ∧ Chg No w w'
set_option maxRecDepth 100000 in
set_option maxHeartbeats 4000000 in
theorem walkOk_step (n : Nat) (IH : Hid (WalkOk n)) : WalkOk (n + 1) := by
    rintro f R w cs h d _ l rfl hd h0 h1
    obtain ⟨A, cap, B, capk, rfl, i1, i2, hm, hk⟩ := node_cells h
    have HK := Lib.hid (fun W (h : Chg No w W) => hk.no (formE_good n) h)
    have HCn := Lib.hid (fun W (h : Chg No w W) => canonical_any (Node.lin f).1 (hm.no monoE_good h))
    have hb1 := hm.big
    have hb2 := hk.big
    unfold big at hb1 hb2
    have HR := Lib.hid (walkF_range n (d - 1))
    have hans : walkF (n + 1) d f l = if okB (Node.kind f) (noneB (Node.lin f).1 (Node.lin f).2.length) (canonB (Node.lin f).1 (Node.lin f).2) (Node.kids f).length (kind0 n (Node.kids f)) = true ∧ 1 ≤ d then goF (walkF n (d - 1)) (Node.kids f) (l - 1) else -1 := rfl
    obtain ⟨ans, hans2⟩ : ∃ ans, ans = walkF (n + 1) d f l := ⟨_, rfl⟩
    rw [← hans2]
    rw [hans] at hans2
    have HANS := Lib.hid hans2
    clear h hm hk hans hans2
    generalize canonB (Node.lin f).1 (Node.lin f).2 = cn at *
    generalize Node.kind f = kd at *
    generalize (Node.lin f).1 = c at *
    generalize (Node.lin f).2 = t at *
    generalize Node.kids f = ks at *
    obtain ⟨w3, hw3⟩ : ∃ w3, w3 = w.alloc (.cells #[.int .i64 kd, .int .i64 c, .slice A t.length cap, .slice B ks.length capk] 27) := ⟨_, rfl⟩
    have h3 : Hid (Chg No w w3 ∧ w3.heap[w.heap.size]? = some (.cells #[.int .i64 kd, .int .i64 c, .slice A t.length cap, .slice B ks.length capk] 27 (0, 0))) := by
      rw [hw3]; exact ⟨(Chg.refl _ _).alloc _, heap_alloc_new _ _⟩
    generalize t.length = tl at *
    have hcw : Hid (Chg No w (w.alloc (.cells #[.int .i64 kd, .int .i64 c, .slice A tl cap, .slice B ks.length capk] 27)) ∧ (w.alloc (.cells #[.int .i64 kd, .int .i64 c, .slice A tl cap, .slice B ks.length capk] 27)).heap[w.heap.size]? = some (.cells #[.int .i64 kd, .int .i64 c, .slice A tl cap, .slice B ks.length capk] 27 (0, 0))) := by rw [← hw3]; exact h3
    obtain ⟨nb, hnb⟩ : ∃ nb, nb = noneB c tl := ⟨_, rfl⟩
    have HNB := Lib.hid hnb
    rw [← hnb] at HANS
    obtain ⟨ok, hokE⟩ : ∃ ok, ok = okB kd nb cn ks.length (kind0 n ks) := ⟨_, rfl⟩
    have HOK := Lib.hid hokE
    rw [← hokE] at HANS
    clear hokE hnb
    go_enter Try.func42, Try.ntmps42
    go_upto_region 1 with fail
    go_cut [7] (fun s7 wx => s7 = .bool nb ∧ wx = w3)
    case first =>
      by_cases hc : c = 0
      · subst hc
        by_cases ht : tl = 0
        · subst ht
          go_wp2_with fail
          go_meet
          exact ⟨by rw [HNB.out]; rfl, hw3.symm⟩
        · have e1 : ((tl : Int) == 0) = false := by simp; omega
          go_wp2_with fail
          go_meet
          exact ⟨by rw [HNB.out]; simp [noneB, ht], hw3.symm⟩
      · have e1 : (c == 0) = false := by simp [hc]
        go_wp2_with fail
        go_meet
        exact ⟨by rw [HNB.out]; simp [noneB, hc], hw3.symm⟩
    case rest =>
    obtain ⟨rfl, rfl⟩ := hcut
    clear hw3
    obtain ⟨p0, p1, p2, p3⟩ := obj_four h3.out.2
    go_upto_block 0 with fail
    go_cut [8] (fun s8 wx => s8 = .bool ok ∧ Hid (Chg No w wx ∧ wx.heap[w.heap.size]? = some (.cells #[.int .i64 kd, .int .i64 c, .slice A tl cap, .slice B ks.length capk] 27 (0, 0))))
    case first =>
      clear HR IH HANS HNB
      rename_i K hK J K' hJ hM
      clear hK
      have HJ := Lib.hid hJ
      clear hJ
      by_cases h0 : kd = 0 ∨ kd = 1
      · have HO : Hid (ok = (nb && decide (ks.length = 0))) := by unfold Hid; rw [HOK.out]; rcases h0 with rfl | rfl <;> simp [okB]
        clear HOK HCn
        rcases h0 with rfl | rfl
        all_goals
          cases nb
          · have e : ok = false := HO.out
            subst e
            go_wp2_with fail
            have hJ := HJ.out
            go_meet
            exact ⟨rfl, h3⟩
          · by_cases hl : ks.length = 0
            · have e : ok = true := by rw [HO.out]; simp [hl]
              have e1 : ((ks.length : Int) == 0) = true := by simp [hl]
              clear hl
              subst e
              go_wp2_with fail
              have hJ := HJ.out
              go_meet
              exact ⟨rfl, h3⟩
            · have e : ok = false := by rw [HO.out]; simp [hl]
              have e1 : ((ks.length : Int) == 0) = false := by simpa using hl
              subst e
              go_wp2_with fail
              have hJ := HJ.out
              go_meet
              exact ⟨rfl, h3⟩
      have n0 : (kd == 0) = false := by simp; omega
      have n1 : (kd == 1) = false := by simp; omega
      by_cases h2 : kd = 2
      · subst h2
        have HO : Hid (ok = (cn && decide (ks.length = 0))) := by unfold Hid; rw [HOK.out]; simp [okB]
        clear HOK n0 n1
        cases cn
        · have e : ok = false := HO.out
          subst e
          go_wp2_with (go_at_call 61; refine (HCn.out _ h3.out.1).mono ?_; rintro e w1 ⟨rfl, h1⟩; have h3n := Lib.hid (And.intro (h3.out.1.thenNo h1) (h1.obj h3.out.2 id)); have r0 := h1.cell p0 id; have r1 := h1.cell p1 id; have r2 := h1.cell p2 id; have r3 := h1.cell p3 id; clear h1)
          have hJ := HJ.out
          go_meet
          exact ⟨rfl, h3n⟩
        · by_cases hl : ks.length = 0
          · have e : ok = true := by rw [HO.out]; simp [hl]
            have e1 : ((ks.length : Int) == 0) = true := by simp [hl]
            clear hl
            subst e
            go_wp2_with (go_at_call 61; refine (HCn.out _ h3.out.1).mono ?_; rintro e w1 ⟨rfl, h1⟩; have h3n := Lib.hid (And.intro (h3.out.1.thenNo h1) (h1.obj h3.out.2 id)); have r0 := h1.cell p0 id; have r1 := h1.cell p1 id; have r2 := h1.cell p2 id; have r3 := h1.cell p3 id; clear h1)
            have hJ := HJ.out
            go_meet
            exact ⟨rfl, h3n⟩
          · have e : ok = false := by rw [HO.out]; simp [hl]
            have e1 : ((ks.length : Int) == 0) = false := by simpa using hl
            subst e
            go_wp2_with (go_at_call 61; refine (HCn.out _ h3.out.1).mono ?_; rintro e w1 ⟨rfl, h1⟩; have h3n := Lib.hid (And.intro (h3.out.1.thenNo h1) (h1.obj h3.out.2 id)); have r0 := h1.cell p0 id; have r1 := h1.cell p1 id; have r2 := h1.cell p2 id; have r3 := h1.cell p3 id; clear h1)
            have hJ := HJ.out
            go_meet
            exact ⟨rfl, h3n⟩
      have n2 : (kd == 2) = false := by simp; omega
      clear HCn
      by_cases h4 : kd = 4
      · subst h4
        have HO : Hid (ok = (nb && decide (ks.length = 1) && decide (kind0 n ks = 2))) := by unfold Hid; rw [HOK.out]; simp [okB]
        clear HOK n0 n1 n2
        cases nb
        · have e : ok = false := HO.out
          subst e
          go_wp2_with fail
          have hJ := HJ.out
          go_meet
          exact ⟨rfl, h3⟩
        · by_cases hl : ks.length = 1
          · have hlt : 0 < ks.length := by omega
            obtain ⟨b, o, v0, v1, v2, v3, rfl, hv, x0, _, _, _⟩ := forms_at (HK.out _ h3.out.1) 0 hlt
            obtain rfl := form_kind hv
            rw [kind0_eq hlt] at x0
            have x1 : wc.cell? ⟨b, o, none⟩ = some (.int .i64 (kind0 n ks)) := by simpa using x0
            have e1 : ((ks.length : Int) == 1) = true := by simp [hl]
            have j1 : (0 : Int) < (ks.length : Int) := by omega
            clear x0 hv
            by_cases hk2 : kind0 n ks = 2
            · have e : ok = true := by rw [HO.out]; simp [hl, hk2]
              clear HO
              rw [hk2] at x1
              subst e
              go_wp2_with fail
              have hJ := HJ.out
              go_meet
              exact ⟨rfl, h3⟩
            · have e : ok = false := by rw [HO.out]; simp [hk2]
              have e2 : (kind0 n ks == 2) = false := by simpa using hk2
              clear HO
              generalize kind0 n ks = k0 at *
              subst e
              go_wp2_with fail
              have hJ := HJ.out
              go_meet
              exact ⟨rfl, h3⟩
          · have e : ok = false := by rw [HO.out]; simp [hl]
            have e1 : ((ks.length : Int) == 1) = false := by simp; omega
            subst e
            go_wp2_with fail
            have hJ := HJ.out
            go_meet
            exact ⟨rfl, h3⟩
      have n4 : (kd == 4) = false := by simp; omega
      by_cases h5 : kd = 5 ∨ kd = 6
      · have HO : Hid (ok = nb) := by unfold Hid; rw [HOK.out]; rcases h5 with rfl | rfl <;> simp [okB]
        clear HOK n0 n1 n2 n4
        rcases h5 with rfl | rfl
        all_goals
          have e := HO.out
          subst e
          go_wp2_with fail
          have hJ := HJ.out
          go_meet
          exact ⟨rfl, h3⟩
      · have e : ok = false := by rw [HOK.out]; simp [okB]; omega
        have n5 : (kd == 5) = false := by simp; omega
        have n6 : (kd == 6) = false := by simp; omega
        clear HOK
        subst e
        go_wp2_with fail
        have hJ := HJ.out
        go_meet
        exact ⟨rfl, h3⟩
    case rest =>
      obtain ⟨rfl, h4⟩ := hcut
      clear p0 p1 p2 p3 HCn hcw HNB HOK h3
      cases ok
      · have e : ans = -1 := by rw [HANS.out]; simp
        clear HANS
        subst e
        go_wp2_with fail
        go_ret
        exact ⟨rfl, h4.out.1⟩
      by_cases hd1 : 1 ≤ d
      · have hdd : ¬ (d : Int) < 1 := by omega
        have hstart : Hid (goF (walkF n (d - 1)) (ks.drop 0) (l - 1) = ans) := by unfold Hid; rw [HANS.out, if_pos ⟨rfl, hd1⟩]; rfl
        clear HANS hd1
        go_wp2_with fail
        go_loopw [2, 9] (fun s2 s9 wr => ∃ (l' : Int) (i : Nat), s2 = .int .i64 l' ∧ s9 = .int .i64 i ∧ -1 ≤ l' ∧ l' ≤ 100000 ∧ i ≤ ks.length ∧ Hid (goF (walkF n (d - 1)) (ks.drop i) l' = ans) ∧ Hid (Chg No wc wr)) (fun _ s9 _ => ks.length - (intOf s9).toNat)
        case atStart => exact ⟨_, 0, rfl, rfl, by omega, by omega, Nat.zero_le _, hstart, Chg.refl _ _⟩
        case round =>
          obtain ⟨l', i, rfl, rfl, g0, g1, gi, hg, hch⟩ := hrel
          obtain ⟨p0, p1, p2, p3⟩ := obj_four (hch.out.obj h4.out.2 id)
          clear hstart
          by_cases hlt : i < ks.length
          · by_cases hl : 0 ≤ l'
            · obtain ⟨b, o, v0, v1, v2, v3, rfl, hv, x0, x1, x2, x3⟩ := forms_at (HK.out wr (h4.out.1.thenNo hch.out)) i hlt
              have HI := Lib.hid (fun z hz => IH.out _ _ wr _ hv (d - 1) z l' hz (by omega) hl g1)
              have HG : Hid (goF (walkF n (d - 1)) (ks.drop (i + 1)) (walkF n (d - 1) ks[i] l') = ans) := (goF_step _ hl ks i hlt).symm.trans hg.out
              obtain ⟨m1, m2⟩ := HR.out ks[i] l' hl
              generalize walkF n (d - 1) ks[i] l' = m at *
              have i0 : (0 : Int) ≤ (i : Int) := by omega
              have i1 : (i : Int) < (ks.length : Int) := by omega
              clear hv IH
              go_wp2_with (go_at_call 42; refine (HI.out _ (by omega)).mono ?_; rintro e w5 ⟨rfl, h5⟩; have H5 := Lib.hid (hch.out.thenNo h5); clear h5)
              go_roundw
              case rel => exact ⟨m, i + 1, rfl, by go_num, by omega, by omega, hlt, HG, H5.out⟩
              case measure => simp [intOf]; omega
            · obtain rfl : l' = ans := (goF_neg _ (by omega) _).symm.trans hg.out
              go_wp2
              go_ret
              exact ⟨rfl, h4.out.1.thenNo hch.out⟩
          · obtain rfl : l' = ans := by
              have := hg.out
              rw [List.drop_eq_nil_of_le (by omega)] at this
              exact this
            go_wp2
            go_ret
            exact ⟨rfl, h4.out.1.thenNo hch.out⟩
      · have e : ans = -1 := by rw [HANS.out, if_neg (fun h => hd1 h.2)]
        have hdd : (d : Int) < 1 := by omega
        clear HANS
        subst e
        go_wp2_with fail
        go_ret
        exact ⟨rfl, h4.out.1⟩
theorem normWalk_any : ∀ n, WalkOk n
  | 0 => fun _ _ _ _ h => h.elim
  | n + 1 => walkOk_step n (Lib.hid (normWalk_any n))

/-- Whether a formula is normalized. -/
def isB (n : Nat) (f : FT n) : Bool := decide (0 ≤ walkF n 128 f 20480)
set_option maxHeartbeats 1000000 in
theorem normIs_any {n : Nat} {f : FT n} {R : Nat → Prop} {w : World} {cs : List Value} (h : (formV n) R w cs f) :
    Calls Try.prog 21 #[.agg cs.toArray] w fun e w' => e = .returned (.bool (isB n f)) ∧ Chg No w w' := by
  have hg := formV_good n
  obtain ⟨v0, v1, v2, v3, rfl⟩ : ∃ v0 v1 v2 v3, cs = [v0, v1, v2, v3] := by
    have hl := hg.len h
    rw [formV_sz] at hl
    match cs, hl with
    | [v0, v1, v2, v3], _ => exact ⟨v0, v1, v2, v3, rfl⟩
  have HW := Lib.hid (fun W (hc : Chg No w W) z => normWalk_any n f R W _ (hg.no h hc) 128 z 20480)
  clear h
  obtain ⟨ans, hans⟩ : ∃ ans, ans = walkF n 128 f 20480 := ⟨_, rfl⟩
  unfold isB
  rw [← hans] at HW ⊢
  clear hans
  go_enter Try.func21, Try.ntmps21
  go_wp2_with (go_at_call 42; refine (HW.out _ ((Chg.refl _ _).alloc _) _ (by rfl) (by omega) (by omega) (by omega)).mono ?_; rintro e w1 ⟨rfl, h1⟩)
  go_ret
  exact ⟨rfl, ((Chg.refl _ _).alloc _).thenNo h1⟩
end Go.Proofs.Ytlejcnbpodmleaa
