/-
  The reference's Same; lin.Gcd and the reference's; lin.Value and the reference's.
-/
import Derived.Test.YtpmndblakmobdaaDoorLin2
namespace Go.Proofs.YtpmndblakmobdaaDoor
open Go Go.RowKit

set_option maxRecDepth 100000 in
set_option maxHeartbeats 2000000 in
theorem ref01Same_any {R R' : Nat → Prop} {w : World} {A A' : Option Addr} {c c' : Int} {xs ys : List Mono} {cap cap' : Nat} (hx : Monos R w A xs cap) (hy : Monos R' w A' ys cap') :
    Calls Tryd.prog 21 #[.agg #[.int .i64 c, .slice A xs.length cap], .agg #[.int .i64 c', .slice A' ys.length cap']] w fun e w' => e = .returned (.bool (decide (c = c' ∧ xs = ys))) ∧ Chg No w w' := by
  have HX := Lib.hid (fun W (h : Chg No w W) => hx.no monoE_good h)
  have HY := Lib.hid (fun W (h : Chg No w W) => hy.no monoE_good h)
  have hb := hx.big
  have hb' := hy.big
  unfold big at hb hb'
  have hne := neqMono
  have hgm : Tryd.prog.eqGuardType Tryd.prog.depth 55 = false := by kernel_rfl
  clear hx hy
  by_cases hc : c = c'
  · subst hc
    have hcc : (c != c) = false := by simp
    rw [show decide (c = c ∧ xs = ys) = decide (xs = ys) by simp]
    by_cases hl : xs.length = ys.length
    · have hd : ((xs.length : Int) != (ys.length : Int)) = false := by rw [hl]; simp
      have HG : Hid ((∀ i (h1 : i < xs.length) (h2 : i < ys.length), xs[i] = ys[i]) → decide (xs = ys) = true) := fun h => decide_eq_true (monos_same hl h)
      have HB : Hid (∀ i (h1 : i < xs.length) (h2 : i < ys.length), xs[i] ≠ ys[i] → decide (xs = ys) = false) := fun i h1 h2 h => decide_eq_false (fun e => h (by subst e; rfl))
      generalize decide (xs = ys) = ans at *
      have hle : xs.length ≤ ys.length := by omega
      clear hl
      have hcw : Hid (Chg No w ((w.alloc (.cells #[.int .i64 c, .slice A xs.length cap] 36)).alloc (.cells #[.int .i64 c, .slice A' ys.length cap'] 36))) := ((Chg.refl _ _).alloc _).alloc _
      have hbx : Hid (((w.alloc (.cells #[.int .i64 c, .slice A xs.length cap] 36)).alloc (.cells #[.int .i64 c, .slice A' ys.length cap'] 36)).cell? ⟨w.heap.size, 1, none⟩ = some (.slice A xs.length cap)) := by unfold Hid; simp
      have hby : Hid (((w.alloc (.cells #[.int .i64 c, .slice A xs.length cap] 36)).alloc (.cells #[.int .i64 c, .slice A' ys.length cap'] 36)).cell? ⟨w.heap.size + 1, 1, none⟩ = some (.slice A' ys.length cap')) := by unfold Hid; simp
      go_enter Tryd.func21, Tryd.ntmps21
      go_wp2
      obtain ⟨w0, hw0⟩ : ∃ w0, w0 = (w.alloc (.cells #[.int .i64 c, .slice A xs.length cap] 36)).alloc (.cells #[.int .i64 c, .slice A' ys.length cap'] 36) := ⟨_, rfl⟩
      rw [← hw0] at hcw hbx hby ⊢
      clear hw0
      go_loopw [5] (fun s wr => ∃ k : Nat, k ≤ xs.length ∧ s = .int .i64 k ∧ Hid (Chg No w0 wr) ∧ Hid (∀ i (h1 : i < xs.length) (h2 : i < ys.length), i < k → xs[i] = ys[i])) (fun s _ => xs.length - (intOf s).toNat)
      case atStart => exact ⟨0, Nat.zero_le _, rfl, Chg.refl _ _, fun i _ _ h => absurd h (Nat.not_lt_zero i)⟩
      case round =>
        obtain ⟨k, hk, rfl, hch, hgd⟩ := hrel
        have hbx1 := hch.out.cell hbx.out id
        have hby1 := hch.out.cell hby.out id
        by_cases hlt : k < xs.length
        · have hlt' : k < ys.length := by omega
          obtain ⟨b, o, rfl, hx0, hx1⟩ := (HX.out wr (hcw.out.thenNo hch.out)).mono_at k hlt
          obtain ⟨b', o', rfl, hy0, hy1⟩ := (HY.out wr (hcw.out.thenNo hch.out)).mono_at k hlt'
          have i0 : (0 : Int) ≤ (k : Int) := by omega
          have i1 : (k : Int) < (xs.length : Int) := by omega
          have i2 : (k : Int) < (ys.length : Int) := by omega
          have Hbad := Lib.hid (HB.out k hlt hlt')
          have Hnew : Hid (xs[k] = ys[k] → ∀ i (h1 : i < xs.length) (h2 : i < ys.length), i < k + 1 → xs[i] = ys[i]) := fun e i h1 h2 h3 => by
            rcases Nat.lt_succ_iff_lt_or_eq.1 h3 with h | rfl
            · exact hgd.out i h1 h2 h
            · exact e
          generalize hm : xs[k] = m at *
          generalize hm' : ys[k] = m' at *
          clear hm hm' HB
          obtain ⟨v, c⟩ := m
          obtain ⟨v', c'⟩ := m'
          simp only at hx0 hx1 hy0 hy1
          by_cases he : v = v' ∧ c = c'
          · obtain ⟨rfl, rfl⟩ := he
            have Hn := Lib.hid (Hnew.out rfl)
            have hdd : (!((v == v) && (c == c))) = false := by simp
            go_wp2
            go_quiet (fail)
            go_wp2
            go_roundw
            case rel => exact ⟨k + 1, hlt, by go_num, hch.out.drewN _, Hn.out⟩
            case measure => simp [intOf]; omega
          · obtain rfl : ans = false := Hbad.out (fun e => he (by simpa using e))
            have hdd : ((v == v') && (c == c')) = false := by
              rw [Bool.and_eq_false_iff, beq_eq_false_iff_ne, beq_eq_false_iff_ne]
              by_cases h : v = v'
              · exact .inr (fun e => he ⟨h, e⟩)
              · exact .inl h
            clear he
            go_wp2
            go_quiet (fail)
            go_wp2
            go_ret
            exact ⟨rfl, (hcw.out.thenNo hch.out).drewN _⟩
        · obtain rfl : ans = true := HG.out (fun i h1 h2 => hgd.out i h1 h2 (by omega))
          go_wp2
          go_ret
          exact ⟨rfl, hcw.out.thenNo hch.out⟩
    · have hd : ((xs.length : Int) != (ys.length : Int)) = true := by simp; omega
      rw [show decide (xs = ys) = false from decide_eq_false (fun e => hl (by rw [e]))]
      clear hl
      go_enter Tryd.func21, Tryd.ntmps21
      go_wp2
      go_ret
      exact ⟨rfl, ((Chg.refl _ _).alloc _).alloc _⟩
  · have hd : (c != c') = true := by simpa using hc
    rw [show decide (c = c' ∧ xs = ys) = false by simp [hc]]
    clear hc
    go_enter Tryd.func21, Tryd.ntmps21
    go_wp2
    go_ret
    exact ⟨rfl, ((Chg.refl _ _).alloc _).alloc _⟩

/-- The greatest number that divides all coefficients. -/
def gcdN (t : List Mono) : Nat := t.foldl (fun g m => Nat.gcd g m.2.natAbs) 0
theorem gcdN_take {t : List Mono} {k : Nat} (h : k < t.length) : gcdN (t.take (k + 1)) = Nat.gcd (gcdN (t.take k)) t[k].2.natAbs := by
  unfold gcdN
  rw [List.take_succ_eq_append_getElem h, List.foldl_append]
  rfl
theorem gcdN_le {t : List Mono} {K : Nat} (h : ∀ m ∈ t, m.2.natAbs ≤ K) : gcdN t ≤ K := by
  have : ∀ (t : List Mono) (g : Nat), g ≤ K → (∀ m ∈ t, m.2.natAbs ≤ K) → t.foldl (fun g m => Nat.gcd g m.2.natAbs) g ≤ K := by
    intro t
    induction t with
    | nil => intro g hg _; exact hg
    | cons m t ih =>
      intro g hg h
      rw [List.foldl_cons]
      refine ih _ ?_ (fun x hx => h x (List.mem_cons_of_mem _ hx))
      rcases Nat.eq_zero_or_pos g with rfl | hp
      · rw [Nat.gcd_zero_left]; exact h m List.mem_cons_self
      · exact Nat.le_trans (Nat.gcd_le_left _ hp) hg
  exact this t 0 (Nat.zero_le _) h

/-- The terms of a sound form. -/
theorem linB_sound {c : Int} {t : List Mono} (h : linB c t = true) : coefB c = true ∧ t.length ≤ 64 ∧ ∀ i (hi : i < t.length), varB t[i].1 = true ∧ coefB t[i].2 = true ∧ t[i].2 ≠ 0 ∧ (i = 0 ∨ (t.getD (i - 1) (0, 0)).1 < t[i].1) := by
  unfold linB at h
  rw [Bool.and_eq_true, Bool.and_eq_true, decide_eq_true_iff, List.all_eq_true] at h
  obtain ⟨⟨h1, h2⟩, h3⟩ := h
  refine ⟨h1, h2, fun i hi => ?_⟩
  have := h3 i (List.mem_range.2 hi)
  unfold goodAt at this
  have e : t.getD i (0, 0) = t[i] := by simp [List.getD, hi]
  rw [e] at this
  simpa [and_assoc] using this
theorem coefB_le {k : Int} (h : coefB k = true) : -1073741824 ≤ k ∧ k ≤ 1073741824 := by unfold coefB at h; simpa using h
theorem varB_le {k : Int} (h : varB k = true) : 0 ≤ k ∧ k < 1048576 := by unfold varB at h; simpa using h
theorem linB_coef {c : Int} {t : List Mono} (h : linB c t = true) : ∀ m ∈ t, m.2.natAbs ≤ 1073741824 := fun m hm => by
  obtain ⟨i, hi, rfl⟩ := List.getElem_of_mem hm
  have := coefB_le ((linB_sound h).2.2 i hi).2.1
  omega

theorem mod_gcd (x y : Nat) : Nat.gcd y (x % y) = Nat.gcd x y := by rw [Nat.gcd_comm y, ← Nat.gcd_rec, Nat.gcd_comm]

end Go.Proofs.YtpmndblakmobdaaDoor
