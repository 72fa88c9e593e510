/-
  The walks of Go's stable sort at elements of so many cells: stableCmpFunc, SortStableFunc.
-/
import Derived.Test.YtgofncopoieigaaGreatDoorStsM4
namespace Go.Proofs.YtgofncopoieigaaGreatDoor
open Go Go.RowKit Go.Lib Go.Sort Go.Proofs
variable {P : Program} {k : Nat} {α : Type} [Inhabited α]

set_option maxHeartbeats 4000000 in
set_option maxRecDepth 1000000 in
theorem stableM (L : StbM P k) {enc : α → List Value} {cf : α → α → Int} (hO : SWO (ltOf cf)) {g : Nat} {cb : Array Value} {blk off cap n : Nat} {d : Array α} {w : World}
    (eg : ∀ args w, (callFunc g args).run P w = .ok (.enter g args) w) (hcm : CmpAny P g cb enc cf) (R : RowK enc k w blk off d) (hn : d.size = n) (hsz : n < 1152921504606846976) :
    Calls P 92 #[.slice (some ⟨blk, off, none⟩) n cap, .int .i64 n, .func (.func g) #[] cb] w fun e w' =>
      e = .returned (.tuple #[]) ∧ ∃ d', PermIn 0 n d d' ∧ SortedIn (ltOf cf) 0 n d' ∧ SWK enc k w blk off d' w' := by
  have HI : Aside (∀ (a b : Nat) (dk : Array α) (W : World), dk.size = n → SWK enc k w blk off dk W → a ≤ b → b ≤ n →
      Calls P 118 #[.slice (some ⟨blk, off, none⟩) n cap, .int .i64 a, .int .i64 b, .func (.func g) #[] cb] W fun e w' =>
        e = .returned (.tuple #[]) ∧ ∃ d', PermIn a b dk d' ∧ SortedIn (ltOf cf) a b d' ∧ SWK enc k w blk off d' w') := fun a b dk W h1 h2 h3 h4 => by
    have := insertM L hO (cap := cap) eg hcm R (h1.trans hn.symm) h2 h3 (by omega) (by omega)
    rw [h1] at this
    exact this
  have HM : Aside (∀ (a m b : Nat) (dk : Array α) (W : World), dk.size = n → SWK enc k w blk off dk W → a < m → m < b → b ≤ n → SortedIn (ltOf cf) a m dk → SortedIn (ltOf cf) m b dk →
      Calls P 119 #[.slice (some ⟨blk, off, none⟩) n cap, .int .i64 a, .int .i64 m, .int .i64 b, .func (.func g) #[] cb] W fun e w' =>
        e = .returned (.tuple #[]) ∧ ∃ d', PermIn a b dk d' ∧ SortedIn (ltOf cf) a b d' ∧ SWK enc k w blk off d' w') := fun a m b dk W h1 h2 h3 h4 h5 h6 h7 => by
    have := symMergeM L hO (cap := cap) eg hcm R (by omega) (b - a) a m b dk W (Nat.le_refl _) (h1.trans hn.symm) h2 h3 h4 (by omega) h6 h7
    rw [hn] at this
    exact this
  have S0 : Aside (SWK enc k w blk off d w) := SWK.start R.hH
  have HN := Lib.hid hn
  have mixed := L.mixed; have t0 := L.t0; have a0 := L.a0; have z0 := L.z0; have v0 := L.v0; have t3 := L.t3; have a3 := L.a3; have z3 := L.z3; have v3 := L.v3; have t4 := L.t4; have a4 := L.a4; have z4 := L.z4; have v4 := L.v4; have t5 := L.t5; have a5 := L.a5; have z5 := L.z5; have v5 := L.v5; have t22 := L.t22; have a22 := L.a22; have z22 := L.z22; have v22 := L.v22; have t25 := L.t25; have a25 := L.a25; have z25 := L.z25; have v25 := L.v25; have ae := L.ae; have ze := L.ze
  have e41 : ∀ args w, (callFunc 118 args).run P w = .ok (.enter 118 args) w := enters_of L.fi (by kernel_rfl) rfl
  have e42 : ∀ args w, (callFunc 119 args).run P w = .ok (.enter 119 args) w := enters_of L.fm (by kernel_rfl) rfl
  have FG := L.fs
  clear L R hcm hO hn
  go_enter FG, Tryz.ntmps92
  go_wp2_with fail
  go_loopw [7, 8] (fun s7 s8 wr => ∃ (t a c : Nat) (dk : Array α), s7 = .int .i64 a ∧ s8 = .int .i64 c ∧ Hid (a = t * 20) ∧ Hid (c = a + 20) ∧ a ≤ n ∧ Hid (RunsTo (ltOf cf) 20 n t dk) ∧ Hid (PermIn 0 n d dk) ∧ Aside (SWK enc k w blk off dk wr)) (fun s7 _ _ => n - (intOf s7).toNat)
  case atStart => exact ⟨0, 0, 20, d, rfl, rfl, rfl, rfl, Nat.zero_le _, fun q hq => absurd hq (Nat.not_lt_zero q), permIn_refl _ _ _, S0⟩
  case round =>
    clear S0
    obtain ⟨t, a, c, dk, rfl, rfl, ha, hc, han, HR, HP, S1⟩ := hrel
    have hac : a < c := by have := hc.out; omega
    have hzk : Hid (dk.size = n) := HP.out.1.trans HN.out
    by_cases hlt : c ≤ n
    · have hI := HI.out a c dk wr hzk.out S1.out (by omega) hlt
      have hd : decide (c ≤ n) = true := decide_eq_true hlt
      have HX : Hid (∀ d', PermIn a c dk d' → SortedIn (ltOf cf) a c d' → RunsTo (ltOf cf) 20 n (t + 1) d' ∧ PermIn 0 n d d') := fun d' h1 h2 => by
        have e1 := ha.out; have e2 := hc.out; subst e2; subst e1
        exact ⟨HR.out.push hlt h1 h2, permIn_trans _ _ _ _ _ HP.out (permIn_mono _ _ _ _ 0 n (Nat.zero_le _) hlt (by rw [hzk.out]; exact Nat.le_refl _) h1)⟩
      go_wp2_with (go_at_call 118; refine hI.mono ?_; rintro e w' ⟨rfl, d', h1, h2, h3⟩)
      go_roundw
      case rel => exact ⟨t + 1, c, c + 20, d', by go_num, by go_num, by have h1 := hc.out; have h2 := ha.out; unfold Hid; omega, rfl, hlt, (HX.out d' h1 h2).1, (HX.out d' h1 h2).2, h3⟩
      case measure => simp [intOf]; omega
    · have hI := HI.out a n dk wr hzk.out S1.out han (Nat.le_refl _)
      have hd : decide (c ≤ n) = false := decide_eq_false hlt
      have HX : Hid (∀ d', PermIn a n dk d' → SortedIn (ltOf cf) a n d' → Runs (ltOf cf) 20 n 0 d' ∧ PermIn 0 n d d') := fun d' h1 h2 => by
        have e1 := ha.out; have e2 := hc.out; subst e2; subst e1
        exact ⟨HR.out.close (by omega) han h1 h2, permIn_trans _ _ _ _ _ HP.out (permIn_mono _ _ _ _ 0 n (Nat.zero_le _) (Nat.le_refl _) (by rw [hzk.out]; exact Nat.le_refl _) h1)⟩
      go_wp2_with (go_at_call 118; refine hI.mono ?_; rintro e w' ⟨rfl, d', h1, h2, h3⟩)
      have HX2 := Lib.hid (HX.out d' h1 h2)
      have S2 : Aside (SWK enc k w blk off d' w') := h3
      clear h1 h2 h3 HX hI S1 HR HP hzk hd hlt hac ha hc han
      go_loopw [6] (fun s6 wr => ∃ (s : Nat) (dk : Array α), s6 = .int .i64 s ∧ 1 ≤ s ∧ s < 2305843009213693952 ∧ Hid (Runs (ltOf cf) s n 0 dk) ∧ Hid (PermIn 0 n d dk) ∧ Aside (SWK enc k w blk off dk wr)) (fun s6 _ => n - (intOf s6).toNat)
      case atStart => exact ⟨20, d', rfl, by omega, by omega, HX2.out.1, HX2.out.2, S2⟩
      case round =>
        clear S2
        obtain ⟨s, dk, rfl, hs1, hs2, HR, HP, S1⟩ := hrel
        by_cases hlt : s < n
        · have hd : decide (s < n) = true := decide_eq_true hlt
          obtain ⟨s2, hs3⟩ : ∃ s2, s2 = 2 * s := ⟨_, rfl⟩
          have m1 : (2 : Int) * (s : Int) = ((s2 : Nat) : Int) := by omega
          have m2 : (s : Int) * 2 = ((s2 : Nat) : Int) := by omega
          have HS2 := Lib.hid hs3
          have hs4 : s2 < 2305843009213693952 := by omega
          clear hs3
          go_wp2_with fail
          obtain ⟨wo, rfl⟩ : ∃ wo : World, wo = wr := ⟨_, rfl⟩
          go_loopw [7, 8] (fun s7 s8 wr => ∃ (t a c : Nat) (dk : Array α), s7 = .int .i64 a ∧ s8 = .int .i64 c ∧ Hid (a = t * s2) ∧ Hid (c = a + s2) ∧ a ≤ n ∧ Hid (RunsTo (ltOf cf) s2 n t dk) ∧ Hid (Runs (ltOf cf) s n (2 * t) dk) ∧ Hid (PermIn 0 n d dk) ∧ Aside (SWK enc k w blk off dk wr)) (fun s7 _ _ => n - (intOf s7).toNat)
          case atStart => exact ⟨0, 0, s2, dk, rfl, rfl, by unfold Hid; omega, by unfold Hid; omega, Nat.zero_le _, fun q hq => absurd hq (Nat.not_lt_zero q), HR, HP, S1⟩
          case round =>
            clear HR HP S1
            obtain ⟨t, a, c, dk, rfl, rfl, ha, hc, han, HT, HR, HP, S1⟩ := hrel
            have hac : a < c := by have := hc.out; have := HS2.out; omega
            have hzk : Hid (dk.size = n) := HP.out.1.trans HN.out
            obtain ⟨m, hm⟩ : ∃ m, m = a + s := ⟨_, rfl⟩
            have hm2 : (a : Int) + (s : Int) = ((m : Nat) : Int) := by omega
            have hmc : m < c ∧ a < m := by have := hc.out; have := HS2.out; omega
            have HMM := Lib.hid hm
            clear hm
            by_cases hcn : c ≤ n
            · have hd2 : decide (c ≤ n) = true := decide_eq_true hcn
              have h12 : Hid (SortedIn (ltOf cf) a m dk ∧ SortedIn (ltOf cf) m c dk) := by
                have e1 := ha.out; have e2 := hc.out; have e3 := HS2.out; have e4 := HMM.out; subst e4; subst e2; subst e3; subst e1
                exact HR.out.two hcn
              have hM := HM.out a m c dk wr hzk.out S1.out hmc.2 hmc.1 hcn h12.out.1 h12.out.2
              have HX : Hid (∀ d', PermIn a c dk d' → SortedIn (ltOf cf) a c d' → RunsTo (ltOf cf) s2 n (t + 1) d' ∧ Runs (ltOf cf) s n (2 * (t + 1)) d' ∧ PermIn 0 n d d') := fun d' h1 h2 => by
                have e1 := ha.out; have e2 := hc.out; subst e2; subst e1
                refine ⟨HT.out.push hcn h1 h2, HR.out.later (by omega) h1 ?_, permIn_trans _ _ _ _ _ HP.out (permIn_mono _ _ _ _ 0 n (Nat.zero_le _) hcn (by rw [hzk.out]; exact Nat.le_refl _) h1)⟩
                have e3 := HS2.out
                subst e3
                rw [Nat.mul_comm 2 (t + 1), Nat.mul_assoc, Nat.add_mul, Nat.one_mul]
                exact Nat.le_refl _
              go_wp2_with (go_at_call 119; refine hM.mono ?_; rintro e w' ⟨rfl, d', h1, h2, h3⟩)
              go_roundw
              case rel => exact ⟨t + 1, c, c + s2, d', rfl, by go_num, by unfold Hid; rw [hc.out, ha.out, Nat.add_mul, Nat.one_mul], rfl, hcn, (HX.out d' h1 h2).1, (HX.out d' h1 h2).2.1, (HX.out d' h1 h2).2.2, h3⟩
              case measure => simp [intOf]; omega
            · have hd2 : decide (c ≤ n) = false := decide_eq_false hcn
              by_cases hmn : m < n
              · have hd3 : decide (m < n) = true := decide_eq_true hmn
                have h12 : Hid (SortedIn (ltOf cf) a m dk ∧ SortedIn (ltOf cf) m n dk) := by
                  have e1 := ha.out; have e2 := hc.out; have e3 := HS2.out; have e4 := HMM.out; subst e4; subst e2; subst e3; subst e1
                  exact HR.out.rest hmn (by omega)
                have hM := HM.out a m n dk wr hzk.out S1.out hmc.2 hmn (Nat.le_refl _) h12.out.1 h12.out.2
                have HX : Hid (∀ d', PermIn a n dk d' → SortedIn (ltOf cf) a n d' → Runs (ltOf cf) s2 n 0 d' ∧ PermIn 0 n d d') := fun d' h1 h2 => by
                  have e1 := ha.out; have e2 := hc.out; subst e2; subst e1
                  exact ⟨HT.out.close (by omega) han h1 h2, permIn_trans _ _ _ _ _ HP.out (permIn_mono _ _ _ _ 0 n (Nat.zero_le _) (Nat.le_refl _) (by rw [hzk.out]; exact Nat.le_refl _) h1)⟩
                go_wp2_with (go_at_call 119; refine hM.mono ?_; rintro e w' ⟨rfl, d', h1, h2, h3⟩)
                go_roundw
                case rel => exact ⟨s2, d', rfl, by have := HS2.out; omega, hs4, (HX.out d' h1 h2).1, (HX.out d' h1 h2).2, h3⟩
                case measure => have := HS2.out; simp [intOf]; omega
              · have hd3 : decide (m < n) = false := decide_eq_false hmn
                have HX : Hid (Runs (ltOf cf) s2 n 0 dk) := by
                  have e1 := ha.out; have e2 := hc.out; have e3 := HS2.out; have e4 := HMM.out; subst e4; subst e2; subst e3; subst e1
                  exact HT.out.close (by omega) han (permIn_refl _ _ _) (HR.out.one (by omega))
                go_wp2_with fail
                go_roundw
                case rel => exact ⟨s2, dk, rfl, by have := HS2.out; omega, hs4, HX, HP, S1⟩
                case measure => have := HS2.out; simp [intOf]; omega
        · have hd : decide (s < n) = false := decide_eq_false hlt
          go_wp2_with fail
          go_end0
          exact ⟨rfl, dk, HP.out, HR.out.all (by omega), S1.out⟩

set_option maxHeartbeats 1000000 in
theorem sortStableM (L : StbM P k) {enc : α → List Value} {cf : α → α → Int} (hO : SWO (ltOf cf)) {g : Nat} {cb : Array Value} {blk off cap n : Nat} {d : Array α} {w : World}
    (eg : ∀ args w, (callFunc g args).run P w = .ok (.enter g args) w) (hcm : CmpAny P g cb enc cf) (R : RowK enc k w blk off d) (hn : d.size = n) (hsz : n < 1152921504606846976) :
    Calls P 57 #[.slice (some ⟨blk, off, none⟩) n cap, .func (.func g) #[] cb] w fun e w' =>
      e = .returned (.tuple #[]) ∧ ∃ d', PermIn 0 n d d' ∧ SortedIn (ltOf cf) 0 n d' ∧ SWK enc k w blk off d' w' := by
  have HC := Lib.hid (stableM L hO (cap := cap) eg hcm R hn hsz)
  have mixed := L.mixed; have t0 := L.t0; have a0 := L.a0; have z0 := L.z0; have v0 := L.v0; have t3 := L.t3; have a3 := L.a3; have z3 := L.z3; have v3 := L.v3; have t4 := L.t4; have a4 := L.a4; have z4 := L.z4; have v4 := L.v4; have t5 := L.t5; have a5 := L.a5; have z5 := L.z5; have v5 := L.v5; have t22 := L.t22; have a22 := L.a22; have z22 := L.z22; have v22 := L.v22; have t25 := L.t25; have a25 := L.a25; have z25 := L.z25; have v25 := L.v25; have ae := L.ae; have ze := L.ze
  have e40 : ∀ args w, (callFunc 92 args).run P w = .ok (.enter 92 args) w := enters_of L.fs (by kernel_rfl) rfl
  have FG := L.ft
  clear L R hcm hO hn
  go_enter FG, Tryz.ntmps57
  go_wp2_with (go_at_call 92; refine HC.out.mono ?_; rintro e w' ⟨rfl, d', h1, h2, h3⟩)
  go_end0
  exact ⟨rfl, d', h1, h2, h3⟩
end Go.Proofs.YtgofncopoieigaaGreatDoor
