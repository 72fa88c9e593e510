/-
  Lin1, LinOpen, Lin2, Lin3, Lin4, in one file.
-/
import Derived.Test.YtpmndblakmobdaaGreatDoorMA
import Derived.Deep.QuietTactic
import Derived.BigQuiet
import Derived.Laws.StructEq
/- Lin1 -/
namespace Go.Proofs.YtpmndblakmobdaaGreatDoor
open Go Go.RowKit

/-- A variable and its coefficient. -/
abbrev Mono := Int × Int
def monoV : ElV Mono := pairV intV intV 16 (by decide)
theorem monoV_good : monoV.Good := pairV_good intV_good intV_good _ _
abbrev MonoE : Elem Mono := monoV.mem
theorem monoE_good : MonoE.Good := monoV_good.mem
/-- []api.Mono. -/
abbrev Monos := Sl MonoE 2
theorem mono_cells {R : Nat → Prop} {w : World} {cs : List Value} {m : Mono} (h : monoV R w cs m) : cs = [.int .i64 m.1, .int .i64 m.2] ∧ I64 m.1 ∧ I64 m.2 := by
  obtain ⟨c1, c2, rfl, _, ⟨rfl, h1⟩, rfl, h2⟩ := h
  exact ⟨rfl, h1, h2⟩
theorem mono_of {R : Nat → Prop} {w : World} {m : Mono} (h1 : I64 m.1) (h2 : I64 m.2) : monoV R w [.int .i64 m.1, .int .i64 m.2] m := ⟨[.int .i64 m.1], [.int .i64 m.2], rfl, rfl, ⟨rfl, h1⟩, rfl, h2⟩
theorem monoE_cells {R : Nat → Prop} {w : World} {b o : Nat} {m : Mono} (h : MonoE R w b o m) : w.cell? ⟨b, o, none⟩ = some (.int .i64 m.1) ∧ w.cell? ⟨b, o + 1, none⟩ = some (.int .i64 m.2) ∧ I64 m.1 ∧ I64 m.2 := by
  obtain ⟨_, cs, _, hc, hv⟩ := h
  obtain ⟨rfl, h1, h2⟩ := mono_cells hv
  exact ⟨hc 0 _ rfl, hc 1 _ rfl, h1, h2⟩
theorem monoE_of {R : Nat → Prop} {w : World} {b o : Nat} {m : Mono} (hR : R b) (h0 : w.cell? ⟨b, o, none⟩ = some (.int .i64 m.1)) (h1 : w.cell? ⟨b, o + 1, none⟩ = some (.int .i64 m.2)) (g1 : I64 m.1) (g2 : I64 m.2) : MonoE R w b o m :=
  ⟨hR, [.int .i64 m.1, .int .i64 m.2], rfl, fun j u hj => by
    match j with
    | 0 => simp at hj; subst hj; exact h0
    | 1 => simp at hj; subst hj; exact h1
    | j + 2 => simp at hj, mono_of g1 g2⟩
theorem Sl.mono_at {R : Nat → Prop} {w : World} {A : Option Addr} {l : List Mono} {cap : Nat} (h : Monos R w A l cap) (i : Nat) (hi : i < l.length) :
    ∃ b o, A = some ⟨b, o, none⟩ ∧ w.cell? ⟨b, o + i * 2, none⟩ = some (.int .i64 l[i].1) ∧ w.cell? ⟨b, o + i * 2 + 1, none⟩ = some (.int .i64 l[i].2) := by
  obtain ⟨b, o, e, x⟩ := h.at_ i hi
  obtain ⟨h0, h1, _⟩ := monoE_cells x
  exact ⟨b, o, e, h0, h1⟩
theorem Sl.mono_ok {R : Nat → Prop} {w : World} {A : Option Addr} {l : List Mono} {cap : Nat} (h : Monos R w A l cap) (i : Nat) (hi : i < l.length) : I64 l[i].1 ∧ I64 l[i].2 := by
  obtain ⟨b, o, e, x⟩ := h.at_ i hi
  exact (monoE_cells x).2.2

/-- A form: its constant and its terms. -/
abbrev Lin := Int × List Mono
def linV : ElV Lin := pairV intV (slV MonoE 2) 32 (by decide)
theorem linV_good : linV.Good := pairV_good intV_good (slV_good monoE_good 2) _ _
theorem lin_cells {R : Nat → Prop} {w : World} {cs : List Value} {l : Lin} (h : linV R w cs l) : ∃ A cap, cs = [.int .i64 l.1, .slice A l.2.length cap] ∧ I64 l.1 ∧ Monos R w A l.2 cap := by
  obtain ⟨c1, c2, rfl, _, ⟨rfl, h1⟩, A, cap, rfl, h2⟩ := h
  exact ⟨A, cap, rfl, h1, h2⟩
theorem lin_of {R : Nat → Prop} {w : World} {l : Lin} {A : Option Addr} {cap : Nat} (h1 : I64 l.1) (h2 : Monos R w A l.2 cap) : linV R w [.int .i64 l.1, .slice A l.2.length cap] l := ⟨[.int .i64 l.1], [.slice A l.2.length cap], rfl, rfl, ⟨rfl, h1⟩, A, cap, rfl, h2⟩

/-- May a number be a coefficient? A variable? -/
def coefB (k : Int) : Bool := decide (-1073741824 ≤ k) && decide (k ≤ 1073741824)
def varB (v : Int) : Bool := decide (0 ≤ v) && decide (v < 1048576)
/-- Is the term at i sound? -/
def goodAt (t : List Mono) (i : Nat) : Bool := varB (t.getD i (0, 0)).1 && coefB (t.getD i (0, 0)).2 && decide ((t.getD i (0, 0)).2 ≠ 0) && (decide (i = 0) || decide ((t.getD (i - 1) (0, 0)).1 < (t.getD i (0, 0)).1))
/-- Is a form sound? -/
def linB (c : Int) (t : List Mono) : Bool := coefB c && decide (t.length ≤ 64) && (List.range t.length).all (goodAt t)

theorem linB_bad {c : Int} {t : List Mono} (i : Nat) (hi : i < t.length) (h : goodAt t i = false) : linB c t = false := by
  unfold linB
  have : (List.range t.length).all (goodAt t) = false := by
    rw [List.all_eq_false]
    exact ⟨i, List.mem_range.2 hi, by simp [h]⟩
  rw [this, Bool.and_false]
theorem linB_good {c : Int} {t : List Mono} (hc : coefB c = true) (hl : t.length ≤ 64) (h : ∀ i, i < t.length → goodAt t i = true) : linB c t = true := by
  unfold linB
  rw [hc, decide_eq_true hl, Bool.true_and, Bool.true_and, List.all_eq_true]
  exact fun i hi => h i (List.mem_range.1 hi)

theorem coef_any (k : Int) (w : World) : Calls Tryz.prog 62 #[.int .i64 k] w fun e w' => e = .returned (.bool (coefB k)) ∧ w' = w := by
  unfold coefB
  by_cases h1 : -1073741824 ≤ k <;> by_cases h2 : k ≤ 1073741824
  all_goals
    first | rw [decide_eq_true h1] | rw [decide_eq_false h1]
    first | rw [decide_eq_true h2] | rw [decide_eq_false h2]
    go_enter Tryz.func62, Tryz.ntmps62
    go_wp2
    go_ret
    exact ⟨rfl, rfl⟩
theorem variable_any (k : Int) (w : World) : Calls Tryz.prog 63 #[.int .i64 k] w fun e w' => e = .returned (.bool (varB k)) ∧ w' = w := by
  unfold varB
  by_cases h1 : 0 ≤ k <;> by_cases h2 : k < 1048576
  all_goals
    first | rw [decide_eq_true h1] | rw [decide_eq_false h1]
    first | rw [decide_eq_true h2] | rw [decide_eq_false h2]
    go_enter Tryz.func63, Tryz.ntmps63
    go_wp2
    go_ret
    exact ⟨rfl, rfl⟩

theorem goodAt_of {t : List Mono} {k : Nat} {m : Mono} (hm : t.getD k (0, 0) = m) : goodAt t k = (varB m.1 && coefB m.2 && decide (m.2 ≠ 0) && (decide (k = 0) || decide ((t.getD (k - 1) (0, 0)).1 < m.1))) := by
  unfold goodAt; rw [hm]

set_option maxRecDepth 100000 in
set_option maxHeartbeats 2000000 in
theorem linCheck_any {R : Nat → Prop} {w : World} (c : Int) {A : Option Addr} {t : List Mono} {cap : Nat} (ht : Monos R w A t cap) :
    Calls Tryz.prog 40 #[.agg #[.int .i64 c, .slice A t.length cap]] w fun e w' => e = .returned (errV 83 (if linB c t = true then 0 else 5)) ∧ Chg No w w' := by
  have HT := Lib.hid (fun W (h : Chg No w W) => ht.no monoE_good h)
  have HC := Lib.hid (fun W => coef_any c W)
  have hb := ht.big
  unfold big at hb
  clear ht
  cases hc : coefB c
  · rw [hc] at HC
    have e : linB c t = false := by unfold linB; rw [hc]; rfl
    rw [e]
    clear e
    go_enter Tryz.func40, Tryz.ntmps40
    go_wp2_with (go_at_call 62; refine (HC.out _).mono ?_; rintro e w1 ⟨rfl, rfl⟩)
    go_ret
    exact ⟨rfl, (Chg.refl _ _).alloc _⟩
  rw [hc] at HC
  by_cases hl : (64 : Int) < (t.length : Int)
  · have e : linB c t = false := by unfold linB; rw [decide_eq_false (show ¬ t.length ≤ 64 by omega)]; simp
    rw [e]
    clear e
    go_enter Tryz.func40, Tryz.ntmps40
    go_wp2_with (go_at_call 62; refine (HC.out _).mono ?_; rintro e w1 ⟨rfl, rfl⟩)
    go_ret
    exact ⟨rfl, (Chg.refl _ _).alloc _⟩
  have hd : decide ((64 : Int) < (t.length : Int)) = false := decide_eq_false hl
  have hl2 : t.length ≤ 64 := by omega
  have Hgood := Lib.hid (fun h => linB_good (t := t) hc hl2 h)
  have Hbad := Lib.hid (fun i hi h => linB_bad (c := c) (t := t) i hi h)
  generalize linB c t = ans at *
  clear hc hl
  go_enter Tryz.func40, Tryz.ntmps40
  go_wp2_with (go_at_call 62; refine (HC.out _).mono ?_; rintro e w1 ⟨rfl, rfl⟩)
  have hcw : Hid (Chg No w (w.alloc (.cells #[.int .i64 c, .slice A t.length cap] 32))) := (Chg.refl _ _).alloc _
  have hbx : Hid ((w.alloc (.cells #[.int .i64 c, .slice A t.length cap] 32)).cell? ⟨w.heap.size, 1, none⟩ = some (.slice A t.length cap)) := by unfold Hid; simp
  obtain ⟨w0, hw0⟩ : ∃ w0, w0 = w.alloc (.cells #[.int .i64 c, .slice A t.length cap] 32) := ⟨_, rfl⟩
  rw [← hw0] at hcw hbx ⊢
  clear hw0
  go_loopw [19] (fun i wr => ∃ k : Nat, k ≤ t.length ∧ i = .int .i64 k ∧ Hid (Chg No w0 wr) ∧ Hid (∀ i, i < k → goodAt t i = true)) (fun i _ => t.length - (intOf i).toNat)
  case atStart => exact ⟨0, Nat.zero_le _, rfl, Chg.refl _ _, fun i hi => absurd hi (Nat.not_lt_zero i)⟩
  case round =>
    obtain ⟨k, hk, rfl, hch, hgd⟩ := hrel
    by_cases hlt : k < t.length
    · have hT := HT.out wr (hcw.out.thenNo hch.out)
      obtain ⟨b, o, rfl, hx0, hx1⟩ := hT.mono_at k hlt
      have hbx1 := hch.out.cell hbx.out id
      obtain ⟨hok1, hok2⟩ := hT.mono_ok k hlt
      have hm : Hid (t.getD k (0, 0) = t[k]) := by unfold Hid; simp [List.getD, hlt]
      have Hgo := Lib.hid (goodAt_of hm.out)
      have hprev : Hid (∀ j, k = j + 1 → ∃ p, (t.getD (k - 1) (0, 0)).1 = p ∧ wr.cell? ⟨b, o + j * 2, none⟩ = some (.int .i64 p)) := by
        rintro j rfl
        obtain ⟨b', o', e, g0, _⟩ := hT.mono_at j (by omega)
        simp only [Option.some.injEq, Addr.mk.injEq] at e
        obtain ⟨rfl, rfl, _⟩ := e
        have : j < t.length := by omega
        exact ⟨_, rfl, by simpa [List.getD, this] using g0⟩
      generalize hv : t[k].1 = v at *
      generalize hkk : t[k].2 = kk at *
      clear hm hv hkk hT
      have HV := Lib.hid (fun W => variable_any v W)
      have HK := Lib.hid (fun W => coef_any kk W)
      cases h1 : varB v
      · rw [h1] at HV
        obtain rfl : ans = false := Hbad.out k hlt (by rw [Hgo.out, h1]; rfl)
        clear h1 Hgo
        go_wp2
        go_quiet ((first | (go_at_call 63; exact Calls.quiet_of_same (HV.out _)) | (go_at_call 62; exact Calls.quiet_of_same (HK.out _))))
        go_wp2
        go_ret
        exact ⟨rfl, (hcw.out.thenNo hch.out).thenNo (((Chg.refl _ _).alloc _).drewN _)⟩
      rw [h1] at HV
      cases h2 : coefB kk
      · rw [h2] at HK
        obtain rfl : ans = false := Hbad.out k hlt (by rw [Hgo.out, h1, h2]; rfl)
        clear h1 h2 Hgo
        go_wp2
        go_quiet ((first | (go_at_call 63; exact Calls.quiet_of_same (HV.out _)) | (go_at_call 62; exact Calls.quiet_of_same (HK.out _))))
        go_wp2
        go_ret
        exact ⟨rfl, (hcw.out.thenNo hch.out).thenNo (((Chg.refl _ _).alloc _).drewN _)⟩
      rw [h2] at HK
      by_cases h3 : kk = 0
      · obtain rfl : ans = false := Hbad.out k hlt (by rw [Hgo.out, h1, h2, h3]; rfl)
        subst h3
        clear h1 h2 Hgo
        go_wp2
        go_quiet ((first | (go_at_call 63; exact Calls.quiet_of_same (HV.out _)) | (go_at_call 62; exact Calls.quiet_of_same (HK.out _))))
        go_wp2
        go_ret
        exact ⟨rfl, (hcw.out.thenNo hch.out).thenNo (((Chg.refl _ _).alloc _).drewN _)⟩
      have hd3 : (kk == 0) = false := by simpa using h3
      cases k with
      | zero =>
        rw [Nat.zero_mul, Nat.add_zero] at hx0 hx1
        have hg1 : Hid (goodAt t 0 = true) := by unfold Hid; rw [Hgo.out, h1, h2]; simp [h3]
        clear h1 h2 h3 Hgo
        go_wp2
        go_quiet ((first | (go_at_call 63; exact Calls.quiet_of_same (HV.out _)) | (go_at_call 62; exact Calls.quiet_of_same (HK.out _))))
        go_wp2
        go_roundw
        case rel => exact ⟨1, by omega, by go_num, hch.out.thenNo (((Chg.refl _ _).alloc _).drewN _), fun i hi => by
          rcases Nat.lt_succ_iff_lt_or_eq.1 hi with h | rfl
          · exact hgd.out i h
          · exact hg1.out⟩
        case measure => first | (simp [intOf]; done) | (simp [intOf]; omega)
      | succ j =>
        obtain ⟨p, hp, hcp⟩ := hprev.out j rfl
        have hbx2 := ((Chg.refl No wr).alloc (.cells #[.int .i64 v, .int .i64 kk] 71)).cell hbx1 id
        have hcp2 := ((Chg.refl No wr).alloc (.cells #[.int .i64 v, .int .i64 kk] 71)).cell hcp id
        have hd5 : decide ((0 : Int) < ((j + 1 : Nat) : Int)) = true := decide_eq_true (by omega)
        have hwj : IntKind.i64.wrap (((j + 1 : Nat) : Int) - 1) = (j : Int) := by
          rw [show ((j + 1 : Nat) : Int) - 1 = (j : Int) by omega]
          rw [IntKind.wrap_i64]
          omega
        have hj1 : (j : Int) < (t.length : Int) := by omega
        have hj0 : (0 : Int) ≤ (j : Int) := by omega
        by_cases h4 : p < v
        · have hg1 : Hid (goodAt t (j + 1) = true) := by unfold Hid; rw [Hgo.out, hp, h1, h2]; simp [h3, h4]
          have hd4 : decide (v ≤ p) = false := decide_eq_false (by omega)
          clear h1 h2 h3 h4 Hgo hp
          go_wp2
          go_quiet ((first | (go_at_call 63; exact Calls.quiet_of_same (HV.out _)) | (go_at_call 62; exact Calls.quiet_of_same (HK.out _))))
          go_wp2
          go_roundw
          case rel => exact ⟨j + 2, by omega, by go_num, hch.out.thenNo (((Chg.refl _ _).alloc _).drewN _), fun i hi => by
            rcases Nat.lt_succ_iff_lt_or_eq.1 hi with h | rfl
            · exact hgd.out i h
            · exact hg1.out⟩
          case measure => first | (simp [intOf]; done) | (simp [intOf]; omega)
        · obtain rfl : ans = false := Hbad.out (j + 1) hlt (by rw [Hgo.out, hp, h1, h2]; simp [h4])
          have hd4 : decide (v ≤ p) = true := decide_eq_true (by omega)
          clear h1 h2 h3 h4 Hgo hp
          go_wp2
          go_quiet ((first | (go_at_call 63; exact Calls.quiet_of_same (HV.out _)) | (go_at_call 62; exact Calls.quiet_of_same (HK.out _))))
          go_wp2
          go_ret
          exact ⟨rfl, (hcw.out.thenNo hch.out).thenNo (((Chg.refl _ _).alloc _).drewN _)⟩
    · obtain rfl : ans = true := Hgood.out (fun i hi => hgd.out i (by omega))
      go_wp2
      go_ret
      exact ⟨rfl, hcw.out.thenNo hch.out⟩
theorem refCoef_any (k : Int) (w : World) : Calls Tryz.prog 39 #[.int .i64 k] w fun e w' => e = .returned (.bool (coefB k)) ∧ w' = w := by
  unfold coefB
  by_cases h1 : -1073741824 ≤ k <;> by_cases h2 : k ≤ 1073741824
  all_goals
    first | rw [decide_eq_true h1] | rw [decide_eq_false h1]
    first | rw [decide_eq_true h2] | rw [decide_eq_false h2]
    go_enter Tryz.func39, Tryz.ntmps39
    go_wp2
    go_ret
    exact ⟨rfl, rfl⟩
set_option maxRecDepth 100000 in
set_option maxHeartbeats 2000000 in
theorem ref01Check_any {R : Nat → Prop} {w : World} (c : Int) {A : Option Addr} {t : List Mono} {cap : Nat} (ht : Monos R w A t cap) :
    Calls Tryz.prog 19 #[.agg #[.int .i64 c, .slice A t.length cap]] w fun e w' => e = .returned (.bool (linB c t)) ∧ Chg No w w' := by
  have HT := Lib.hid (fun W (h : Chg No w W) => ht.no monoE_good h)
  have HC := Lib.hid (fun W => refCoef_any c W)
  have hb := ht.big
  unfold big at hb
  clear ht
  cases hc : coefB c
  · rw [hc] at HC
    have e : linB c t = false := by unfold linB; rw [hc]; rfl
    rw [e]
    clear e
    go_enter Tryz.func19, Tryz.ntmps19
    go_wp2_with (go_at_call 39; refine (HC.out _).mono ?_; rintro e w1 ⟨rfl, rfl⟩)
    go_ret
    exact ⟨rfl, (Chg.refl _ _).alloc _⟩
  rw [hc] at HC
  by_cases hl : (64 : Int) < (t.length : Int)
  · have e : linB c t = false := by unfold linB; rw [decide_eq_false (show ¬ t.length ≤ 64 by omega)]; simp
    rw [e]
    clear e
    go_enter Tryz.func19, Tryz.ntmps19
    go_wp2_with (go_at_call 39; refine (HC.out _).mono ?_; rintro e w1 ⟨rfl, rfl⟩)
    go_ret
    exact ⟨rfl, (Chg.refl _ _).alloc _⟩
  have hd : decide ((64 : Int) < (t.length : Int)) = false := decide_eq_false hl
  have hl2 : t.length ≤ 64 := by omega
  have Hgood := Lib.hid (fun h => linB_good (t := t) hc hl2 h)
  have Hbad := Lib.hid (fun i hi h => linB_bad (c := c) (t := t) i hi h)
  generalize linB c t = ans at *
  clear hc hl
  go_enter Tryz.func19, Tryz.ntmps19
  go_wp2_with (go_at_call 39; refine (HC.out _).mono ?_; rintro e w1 ⟨rfl, rfl⟩)
  have hcw : Hid (Chg No w (w.alloc (.cells #[.int .i64 c, .slice A t.length cap] 32))) := (Chg.refl _ _).alloc _
  have hbx : Hid ((w.alloc (.cells #[.int .i64 c, .slice A t.length cap] 32)).cell? ⟨w.heap.size, 1, none⟩ = some (.slice A t.length cap)) := by unfold Hid; simp
  obtain ⟨w0, hw0⟩ : ∃ w0, w0 = w.alloc (.cells #[.int .i64 c, .slice A t.length cap] 32) := ⟨_, rfl⟩
  rw [← hw0] at hcw hbx ⊢
  clear hw0
  go_loopw [3] (fun i wr => ∃ k : Nat, k ≤ t.length ∧ i = .int .i64 k ∧ Hid (Chg No w0 wr) ∧ Hid (∀ i, i < k → goodAt t i = true)) (fun i _ => t.length - (intOf i).toNat)
  case atStart => exact ⟨0, Nat.zero_le _, rfl, Chg.refl _ _, fun i hi => absurd hi (Nat.not_lt_zero i)⟩
  case round =>
    obtain ⟨k, hk, rfl, hch, hgd⟩ := hrel
    by_cases hlt : k < t.length
    · have hT := HT.out wr (hcw.out.thenNo hch.out)
      obtain ⟨b, o, rfl, hx0, hx1⟩ := hT.mono_at k hlt
      have hbx1 := hch.out.cell hbx.out id
      obtain ⟨hok1, hok2⟩ := hT.mono_ok k hlt
      have hm : Hid (t.getD k (0, 0) = t[k]) := by unfold Hid; simp [List.getD, hlt]
      have Hgo := Lib.hid (goodAt_of hm.out)
      have hprev : Hid (∀ j, k = j + 1 → ∃ p, (t.getD (k - 1) (0, 0)).1 = p ∧ wr.cell? ⟨b, o + j * 2, none⟩ = some (.int .i64 p)) := by
        rintro j rfl
        obtain ⟨b', o', e, g0, _⟩ := hT.mono_at j (by omega)
        simp only [Option.some.injEq, Addr.mk.injEq] at e
        obtain ⟨rfl, rfl, _⟩ := e
        have : j < t.length := by omega
        exact ⟨_, rfl, by simpa [List.getD, this] using g0⟩
      generalize hv : t[k].1 = v at *
      generalize hkk : t[k].2 = kk at *
      clear hm hv hkk hT
      have HK := Lib.hid (fun W => refCoef_any kk W)
      by_cases g1 : v < 0
      · have h1 : varB v = false := by unfold varB; rw [decide_eq_false (by omega)]; rfl
        obtain rfl : ans = false := Hbad.out k hlt (by rw [Hgo.out, h1]; rfl)
        have e1 : decide (v < 0) = true := decide_eq_true g1
        clear h1 Hgo g1
        go_wp2
        go_quiet ((go_at_call 39; exact Calls.quiet_of_same (HK.out _)))
        go_wp2
        go_ret
        exact ⟨rfl, (hcw.out.thenNo hch.out).thenNo (((Chg.refl _ _).alloc _).drewN _)⟩
      have e1 : decide (v < 0) = false := decide_eq_false g1
      by_cases g2 : 1048576 ≤ v
      · have h1 : varB v = false := by unfold varB; rw [decide_eq_false (show ¬ v < 1048576 by omega), Bool.and_false]
        obtain rfl : ans = false := Hbad.out k hlt (by rw [Hgo.out, h1]; rfl)
        have e2 : decide (1048576 ≤ v) = true := decide_eq_true g2
        clear h1 Hgo g1 g2
        go_wp2
        go_quiet ((go_at_call 39; exact Calls.quiet_of_same (HK.out _)))
        go_wp2
        go_ret
        exact ⟨rfl, (hcw.out.thenNo hch.out).thenNo (((Chg.refl _ _).alloc _).drewN _)⟩
      have e2 : decide (1048576 ≤ v) = false := decide_eq_false g2
      have h1 : varB v = true := by unfold varB; rw [decide_eq_true (by omega), decide_eq_true (by omega)]; rfl
      clear g1 g2
      by_cases h3 : kk = 0
      · obtain rfl : ans = false := Hbad.out k hlt (by rw [Hgo.out, h1, h3]; simp)
        subst h3
        clear h1 Hgo
        go_wp2
        go_quiet ((go_at_call 39; exact Calls.quiet_of_same (HK.out _)))
        go_wp2
        go_ret
        exact ⟨rfl, (hcw.out.thenNo hch.out).thenNo (((Chg.refl _ _).alloc _).drewN _)⟩
      have hd3 : (kk == 0) = false := by simpa using h3
      cases h2 : coefB kk
      · rw [h2] at HK
        obtain rfl : ans = false := Hbad.out k hlt (by rw [Hgo.out, h1, h2]; rfl)
        clear h1 h2 h3 Hgo
        go_wp2
        go_quiet ((go_at_call 39; exact Calls.quiet_of_same (HK.out _)))
        go_wp2
        go_ret
        exact ⟨rfl, (hcw.out.thenNo hch.out).thenNo (((Chg.refl _ _).alloc _).drewN _)⟩
      rw [h2] at HK
      cases k with
      | zero =>
        rw [Nat.zero_mul, Nat.add_zero] at hx0 hx1
        have hg1 : Hid (goodAt t 0 = true) := by unfold Hid; rw [Hgo.out, h1, h2]; simp [h3]
        clear h1 h2 h3 Hgo
        go_wp2
        go_quiet ((go_at_call 39; exact Calls.quiet_of_same (HK.out _)))
        go_wp2
        go_roundw
        case rel => exact ⟨1, by omega, by go_num, hch.out.thenNo (((Chg.refl _ _).alloc _).drewN _), fun i hi => by
          rcases Nat.lt_succ_iff_lt_or_eq.1 hi with h | rfl
          · exact hgd.out i h
          · exact hg1.out⟩
        case measure => first | (simp [intOf]; done) | (simp [intOf]; omega)
      | succ j =>
        obtain ⟨p, hp, hcp⟩ := hprev.out j rfl
        have hbx2 := ((Chg.refl No wr).alloc (.cells #[.int .i64 v, .int .i64 kk] 71)).cell hbx1 id
        have hcp2 := ((Chg.refl No wr).alloc (.cells #[.int .i64 v, .int .i64 kk] 71)).cell hcp id
        have hd5 : decide ((0 : Int) < ((j + 1 : Nat) : Int)) = true := decide_eq_true (by omega)
        have hwj : IntKind.i64.wrap (((j + 1 : Nat) : Int) - 1) = (j : Int) := by
          rw [show ((j + 1 : Nat) : Int) - 1 = (j : Int) by omega]
          rw [IntKind.wrap_i64]
          omega
        have hj1 : (j : Int) < (t.length : Int) := by omega
        have hj0 : (0 : Int) ≤ (j : Int) := by omega
        by_cases h4 : p < v
        · have hg1 : Hid (goodAt t (j + 1) = true) := by unfold Hid; rw [Hgo.out, hp, h1, h2]; simp [h3, h4]
          have hd4 : decide (v ≤ p) = false := decide_eq_false (by omega)
          clear h1 h2 h3 h4 Hgo hp
          go_wp2
          go_quiet ((go_at_call 39; exact Calls.quiet_of_same (HK.out _)))
          go_wp2
          go_roundw
          case rel => exact ⟨j + 2, by omega, by go_num, hch.out.thenNo (((Chg.refl _ _).alloc _).drewN _), fun i hi => by
            rcases Nat.lt_succ_iff_lt_or_eq.1 hi with h | rfl
            · exact hgd.out i h
            · exact hg1.out⟩
          case measure => first | (simp [intOf]; done) | (simp [intOf]; omega)
        · obtain rfl : ans = false := Hbad.out (j + 1) hlt (by rw [Hgo.out, hp, h1, h2]; simp [h4])
          have hd4 : decide (v ≤ p) = true := decide_eq_true (by omega)
          clear h1 h2 h3 h4 Hgo hp
          go_wp2
          go_quiet ((go_at_call 39; exact Calls.quiet_of_same (HK.out _)))
          go_wp2
          go_ret
          exact ⟨rfl, (hcw.out.thenNo hch.out).thenNo (((Chg.refl _ _).alloc _).drewN _)⟩
    · obtain rfl : ans = true := Hgood.out (fun i hi => hgd.out i (by omega))
      have hbx1 := hch.out.cell hbx.out id
      go_wp2
      go_ret
      exact ⟨rfl, hcw.out.thenNo hch.out⟩
end Go.Proofs.YtpmndblakmobdaaGreatDoor
/- LinOpen -/
namespace Go.Proofs.YtpmndblakmobdaaGreatDoor
open Go Go.RowKit
section
variable {H : Type} {enc : TypeId × Value → H}
theorem opensV_mono : OpensV enc Tryz.prog 71 monoV :=
  opensV_struct2 (by decide) Tryz.underlying71 rfl rfl (by kernel_rfl) (by kernel_rfl) (opensV_int Tryz.underlying3 (by kernel_rfl) (by kernel_rfl)) (opensV_int Tryz.underlying3 (by kernel_rfl) (by kernel_rfl))
theorem opensE_mono : OpensE enc Tryz.prog 71 2 MonoE := opensE_of opensV_mono
theorem opensV_lin : OpensV enc Tryz.prog 32 linV :=
  opensV_struct2 (by decide) Tryz.underlying32 rfl rfl (by kernel_rfl) (by kernel_rfl) (opensV_int Tryz.underlying3 (by kernel_rfl) (by kernel_rfl)) (opensV_sl Tryz.underlying30 (by decide) (by kernel_rfl) (by kernel_rfl) opensE_mono)
end
end Go.Proofs.YtpmndblakmobdaaGreatDoor
/- Lin2 -/
namespace Go.Proofs.YtpmndblakmobdaaGreatDoor
open Go Go.RowKit

theorem neqMono (a b c d : Int) (w : World) : (binOp .neq 71 (.agg #[.int .i64 a, .int .i64 b]) (.agg #[.int .i64 c, .int .i64 d])).run Tryz.prog w = .ok (.bool (!(a == c && b == d))) w := by
  have u3 := Tryz.underlying3
  have a3 := Tryz.isAgg3
  have z3 := Tryz.sizeOf3
  have hS : Tryz.prog.underlying 71 = some (.struct (Tryz.prog.fieldsOf 71)) := by kernel_rfl
  have hp : Tryz.prog.stoodInHeld 71 = false := by kernel_rfl
  rw [run_neq_struct, show (10000 : Nat) = 9999 + 1 from rfl, run_equalIn_agg w 9999 71 _ _ hS hp]
  simp only [Program.fieldsOf, Tryz.underlying71]
  go_simp
  by_cases h1 : a = c <;> by_cases h2 : b = d <;> simp [h1, h2]

/-- Two lists of terms that are of one length: the same, if each is. -/
theorem monos_same {xs ys : List Mono} (hl : xs.length = ys.length) (h : ∀ i (h1 : i < xs.length) (h2 : i < ys.length), xs[i] = ys[i]) : xs = ys := List.ext_getElem hl h

end Go.Proofs.YtpmndblakmobdaaGreatDoor
/- Lin3 -/
namespace Go.Proofs.YtpmndblakmobdaaGreatDoor
open Go Go.RowKit

/-- The greatest number that divides all coefficients. -/
def gcdN (t : List Mono) : Nat := t.foldl (fun g m => Nat.gcd g m.2.natAbs) 0
theorem gcdN_take {t : List Mono} {k : Nat} (h : k < t.length) : gcdN (t.take (k + 1)) = Nat.gcd (gcdN (t.take k)) t[k].2.natAbs := by
  unfold gcdN
  rw [List.take_succ_eq_append_getElem h, List.foldl_append]
  rfl
theorem gcdN_le {t : List Mono} {K : Nat} (h : ∀ m ∈ t, m.2.natAbs ≤ K) : gcdN t ≤ K := by
  have : ∀ (t : List Mono) (g : Nat), g ≤ K → (∀ m ∈ t, m.2.natAbs ≤ K) → t.foldl (fun g m => Nat.gcd g m.2.natAbs) g ≤ K := by
    intro t
    induction t with
    | nil => intro g hg _; exact hg
    | cons m t ih =>
      intro g hg h
      rw [List.foldl_cons]
      refine ih _ ?_ (fun x hx => h x (List.mem_cons_of_mem _ hx))
      rcases Nat.eq_zero_or_pos g with rfl | hp
      · rw [Nat.gcd_zero_left]; exact h m List.mem_cons_self
      · exact Nat.le_trans (Nat.gcd_le_left _ hp) hg
  exact this t 0 (Nat.zero_le _) h

/-- The terms of a sound form. -/
theorem linB_sound {c : Int} {t : List Mono} (h : linB c t = true) : coefB c = true ∧ t.length ≤ 64 ∧ ∀ i (hi : i < t.length), varB t[i].1 = true ∧ coefB t[i].2 = true ∧ t[i].2 ≠ 0 ∧ (i = 0 ∨ (t.getD (i - 1) (0, 0)).1 < t[i].1) := by
  unfold linB at h
  rw [Bool.and_eq_true, Bool.and_eq_true, decide_eq_true_iff, List.all_eq_true] at h
  obtain ⟨⟨h1, h2⟩, h3⟩ := h
  refine ⟨h1, h2, fun i hi => ?_⟩
  have := h3 i (List.mem_range.2 hi)
  unfold goodAt at this
  have e : t.getD i (0, 0) = t[i] := by simp [List.getD, hi]
  rw [e] at this
  simpa [and_assoc] using this
theorem coefB_le {k : Int} (h : coefB k = true) : -1073741824 ≤ k ∧ k ≤ 1073741824 := by unfold coefB at h; simpa using h
theorem varB_le {k : Int} (h : varB k = true) : 0 ≤ k ∧ k < 1048576 := by unfold varB at h; simpa using h
theorem linB_coef {c : Int} {t : List Mono} (h : linB c t = true) : ∀ m ∈ t, m.2.natAbs ≤ 1073741824 := fun m hm => by
  obtain ⟨i, hi, rfl⟩ := List.getElem_of_mem hm
  have := coefB_le ((linB_sound h).2.2 i hi).2.1
  omega

theorem mod_gcd (x y : Nat) : Nat.gcd y (x % y) = Nat.gcd x y := by rw [Nat.gcd_comm y, ← Nat.gcd_rec, Nat.gcd_comm]

end Go.Proofs.YtpmndblakmobdaaGreatDoor
/- Lin4 -/
namespace Go.Proofs.YtpmndblakmobdaaGreatDoor
open Go Go.RowKit

end Go.Proofs.YtpmndblakmobdaaGreatDoor
