/-
  The walks of Go's stable sort at elements of so many cells: symMergeCmpFunc, where one of the runs is one element.
-/
import Derived.Test.YtgofncopoieigaaGreatDoorStsM2
namespace Go.Proofs.YtgofncopoieigaaGreatDoor
open Go Go.RowKit Go.Lib Go.Sort Go.Proofs
variable {P : Program} {k : Nat} {α : Type} [Inhabited α]

set_option maxHeartbeats 4000000 in
set_option maxRecDepth 1000000 in
theorem symMergeM1 (L : StbM P k) {enc : α → List Value} {cf : α → α → Int} (hO : SWO (ltOf cf)) {g : Nat} {cb : Array Value} {blk off cap a m b : Nat} {d0 d : Array α} {w0 w : World}
    (eg : ∀ args w, (callFunc g args).run P w = .ok (.enter g args) w) (hcm : CmpAny P g cb enc cf) (R : RowK enc k w0 blk off d0) (hs : d.size = d0.size) (S : SWK enc k w0 blk off d w)
    (hm : m = a + 1) (hmb : m < b) (h2 : SortedIn (ltOf cf) m b d) (hb : b ≤ d.size) (hsz : d.size < 4611686018427387904) :
    Calls P 119 #[.slice (some ⟨blk, off, none⟩) d.size cap, .int .i64 a, .int .i64 m, .int .i64 b, .func (.func g) #[] cb] w fun e w' =>
      e = .returned (.tuple #[]) ∧ ∃ d', PermIn a b d d' ∧ SortedIn (ltOf cf) a b d' ∧ SWK enc k w0 blk off d' w' := by
  have S0 : Aside (SWK enc k w0 blk off d w) := S
  have HR : Aside (RowK enc k w0 blk off d0) := R
  have HS : Hid (d.size = d0.size) := hs
  have HC := Lib.hid hcm
  have HO := Lib.hid hO
  have HM := Lib.hid hm
  have H2 := Lib.hid h2
  have mixed := L.mixed; have t0 := L.t0; have a0 := L.a0; have z0 := L.z0; have v0 := L.v0; have t3 := L.t3; have a3 := L.a3; have z3 := L.z3; have v3 := L.v3; have t4 := L.t4; have a4 := L.a4; have z4 := L.z4; have v4 := L.v4; have t5 := L.t5; have a5 := L.a5; have z5 := L.z5; have v5 := L.v5; have t22 := L.t22; have a22 := L.a22; have z22 := L.z22; have v22 := L.v22; have t25 := L.t25; have a25 := L.a25; have z25 := L.z25; have v25 := L.v25; have ae := L.ae; have ze := L.ze
  have FG := L.fm
  clear L S R hs hcm hO
  have ham : a < m := by omega
  have g0 : ((m : Int) - (a : Int) == 1) = true := by rw [beq_iff_eq]; omega
  clear hm h2
  go_enter FG, Tryz.ntmps119
  go_wp2_with fail
  go_loopw [10, 11] (fun s t wr => ∃ (i j : Nat), s = .int .i64 i ∧ t = .int .i64 j ∧ m ≤ i ∧ i ≤ j ∧ j ≤ b ∧ Hid (i = m ∨ ltOf cf d[i - 1]! d[a]! = true) ∧ Hid (j = b ∨ ltOf cf d[j]! d[a]! = false) ∧ Aside (SWK enc k w0 blk off d wr)) (fun s t _ => (intOf t).toNat - (intOf s).toNat)
  case atStart => exact ⟨m, b, rfl, rfl, Nat.le_refl _, by omega, Nat.le_refl _, .inl rfl, .inl rfl, S0⟩
  case round =>
    clear S0
    obtain ⟨i, j, rfl, rfl, hmi, hij, hjb, Hi, Hj, S1⟩ := hrel
    by_cases hlt : i < j
    · obtain ⟨h, hh⟩ : ∃ h, h = (i + j) / 2 := ⟨_, rfl⟩
      have hh2 : ((i : Int) + (j : Int)) / 2 = ((h : Nat) : Int) := by omega
      have hih : i ≤ h := by omega
      have hhj : h < j := by omega
      clear hh
      cases hlv : ltOf cf d[h]! d[a]! with
      | true =>
        have eax : ((h : Nat) : Int).toNat = h := by omega
        have pax : (0 : Int) ≤ ((h : Nat) : Int) := by omega
        have bax : ((h : Nat) : Int) < (d.size : Int) := by omega
        have rax : IntKind.i64.wrap ((h : Nat) : Int) = ((h : Nat) : Int) := by rw [IntKind.wrap_i64]; omega
        have eay : ((a : Nat) : Int).toNat = a := by omega
        have pay : (0 : Int) ≤ ((a : Nat) : Int) := by omega
        have bay : ((a : Nat) : Int) < (d.size : Int) := by omega
        have ray : IntKind.i64.wrap ((a : Nat) : Int) = ((a : Nat) : Int) := by rw [IntKind.wrap_i64]; omega
        obtain ⟨xv, hxv⟩ : ∃ v, v = d[h]! := ⟨_, rfl⟩
        obtain ⟨yv, hyv⟩ : ∃ v, v = d[a]! := ⟨_, rfl⟩
        have lx := S1.out.ld HR.out HS.out P h (by omega)
        have ly := S1.out.ld HR.out HS.out P a (by omega)
        rw [← hxv] at lx
        rw [← hyv] at ly
        have hcc : ∀ n os, Calls P g (#[.agg (enc xv).toArray, .agg (enc yv).toArray] ++ cb) (grow (wr.drewN n) os) fun e w' => e = .returned (.int .i64 (cf xv yv)) ∧ ∃ q os', w' = grow ((grow (wr.drewN n) os).drewN q) os' := HC.out.grown xv yv wr
        have hvv : cf xv yv < 0 := by rw [hxv, hyv]; exact of_decide_eq_true hlv
        have hdd : decide (cf xv yv < 0) = true := decide_eq_true hvv
        have HLV := Lib.hid hlv
        clear hlv hxv hyv hvv
        go_wp2_with fail
        go_quiet_grown (first | (go_at_fn g; refine Calls.grown_of (hcc _ _)))
        have S2 : Aside (SWK enc k w0 blk off d (grow (wr.drewN nq) osq)) := S1.out.grown nq osq
        clear lx ly hcc S1 eax pax bax rax eay pay bay ray
        generalize grow (wr.drewN nq) osq = w2 at S2 ⊢
        clear nq osq
        go_wp2
        go_roundw
        case rel => exact ⟨h + 1, j, by go_num, rfl, by omega, by omega, hjb, .inr HLV.out, Hj, S2⟩
        case measure => simp [intOf]; omega
      | false =>
        have eax : ((h : Nat) : Int).toNat = h := by omega
        have pax : (0 : Int) ≤ ((h : Nat) : Int) := by omega
        have bax : ((h : Nat) : Int) < (d.size : Int) := by omega
        have rax : IntKind.i64.wrap ((h : Nat) : Int) = ((h : Nat) : Int) := by rw [IntKind.wrap_i64]; omega
        have eay : ((a : Nat) : Int).toNat = a := by omega
        have pay : (0 : Int) ≤ ((a : Nat) : Int) := by omega
        have bay : ((a : Nat) : Int) < (d.size : Int) := by omega
        have ray : IntKind.i64.wrap ((a : Nat) : Int) = ((a : Nat) : Int) := by rw [IntKind.wrap_i64]; omega
        obtain ⟨xv, hxv⟩ : ∃ v, v = d[h]! := ⟨_, rfl⟩
        obtain ⟨yv, hyv⟩ : ∃ v, v = d[a]! := ⟨_, rfl⟩
        have lx := S1.out.ld HR.out HS.out P h (by omega)
        have ly := S1.out.ld HR.out HS.out P a (by omega)
        rw [← hxv] at lx
        rw [← hyv] at ly
        have hcc : ∀ n os, Calls P g (#[.agg (enc xv).toArray, .agg (enc yv).toArray] ++ cb) (grow (wr.drewN n) os) fun e w' => e = .returned (.int .i64 (cf xv yv)) ∧ ∃ q os', w' = grow ((grow (wr.drewN n) os).drewN q) os' := HC.out.grown xv yv wr
        have hvv : ¬ cf xv yv < 0 := by rw [hxv, hyv]; exact of_decide_eq_false hlv
        have hdd : decide (cf xv yv < 0) = false := decide_eq_false hvv
        have HLV := Lib.hid hlv
        clear hlv hxv hyv hvv
        go_wp2_with fail
        go_quiet_grown (first | (go_at_fn g; refine Calls.grown_of (hcc _ _)))
        have S2 : Aside (SWK enc k w0 blk off d (grow (wr.drewN nq) osq)) := S1.out.grown nq osq
        clear lx ly hcc S1 eax pax bax rax eay pay bay ray
        generalize grow (wr.drewN nq) osq = w2 at S2 ⊢
        clear nq osq
        go_wp2
        go_roundw
        case rel => exact ⟨i, h, rfl, rfl, hmi, by omega, by omega, Hi, .inr HLV.out, S2⟩
        case measure => simp [intOf]; omega
    · obtain rfl : i = j := by omega
      clear hlt hij
      go_wp2_with fail
      obtain ⟨wo, rfl⟩ : ∃ wo : World, wo = wr := ⟨_, rfl⟩
      go_loopw [13] (fun s wr => ∃ (q : Nat) (dk : Array α), s = .int .i64 q ∧ a ≤ q ∧ q + 1 ≤ i ∧ Hid (UpI a q b d dk) ∧ Aside (SWK enc k w0 blk off dk wr)) (fun s _ => i - (intOf s).toNat)
      case atStart => exact ⟨a, d, rfl, Nat.le_refl _, by omega, UpI.start _ _ _, S1⟩
      case round =>
        clear S1
        obtain ⟨q, dk, rfl, haq, hqi, HU, S1⟩ := hrel
        by_cases hlt : q + 1 < i
        · have HZ : Hid (dk.size = d.size) := HU.out.size
          obtain ⟨q1, hq1⟩ : ∃ q1, q1 = q + 1 := ⟨_, rfl⟩
          have hq2 : ((q : Int) + 1) = ((q1 : Nat) : Int) := by omega
          have ht : decide ((q : Int) < (i : Int) - 1) = true := decide_eq_true (by omega)
          have HN : Hid (UpI a q1 b d (swp dk q q1)) := by subst hq1; exact HU.out.step haq (by omega) hb
          have hqq : q < q1 := by omega
          have hqi1 : q1 < i := by omega
          have HQ := Lib.hid hq1
          clear hq1 HU
          have S2 : Aside (SWK enc k w0 blk off (swp dk q q1) ((wr.drew.setCells blk (off + q * k) (enc dk[q1]!)).setCells blk (off + q1 * k) (enc dk[q]!))) := S1.out.swapped HR.out q q1 (by rw [HZ.out]; omega) (by rw [HZ.out]; omega)
          have lx := S1.out.ld1 HR.out (HZ.out.trans HS.out) P q (by rw [HZ.out]; omega)
          have ly := S1.out.ld1 HR.out (HZ.out.trans HS.out) P q1 (by rw [HZ.out]; omega)
          have sx := S1.out.st1 HR.out (HZ.out.trans HS.out) P q (by rw [HZ.out]; omega) dk[q1]!
          have sy := S1.out.st2 HR.out (HZ.out.trans HS.out) P q q1 (by rw [HZ.out]; omega) (by rw [HZ.out]; omega) dk[q1]! dk[q]!
          have nx : (enc dk[q]!).length = k := HR.out.hk _
          have ny : (enc dk[q1]!).length = k := HR.out.hk _
          generalize enc dk[q]! = cI at S2 lx sy nx
          generalize enc dk[q1]! = cJ at S2 ly sx sy ny
          have eax : ((q : Nat) : Int).toNat = q := by omega
          have pax : (0 : Int) ≤ ((q : Nat) : Int) := by omega
          have bax : ((q : Nat) : Int) < (d.size : Int) := by omega
          have rax : IntKind.i64.wrap ((q : Nat) : Int) = ((q : Nat) : Int) := by rw [IntKind.wrap_i64]; omega
          have eay : ((q1 : Nat) : Int).toNat = q1 := by omega
          have pay : (0 : Int) ≤ ((q1 : Nat) : Int) := by omega
          have bay : ((q1 : Nat) : Int) < (d.size : Int) := by omega
          have ray : IntKind.i64.wrap ((q1 : Nat) : Int) = ((q1 : Nat) : Int) := by rw [IntKind.wrap_i64]; omega
          clear S1
          go_wp2_with fail
          go_big_region_o
          all_goals clear lx ly sx sy nx ny eax pax bax rax eay pay bay ray
          all_goals go_wp2
          all_goals go_roundw
          case rel => exact ⟨q1, _, by go_num, by omega, by omega, HN, S2⟩
          case measure => have := HQ.out; simp [intOf]; omega
        · have ht : decide ((q : Int) < (i : Int) - 1) = false := decide_eq_false (by omega)
          go_wp2
          (try simp only [Exit.inBlock, Exit.then]); refine bodyPost_ret (results_none rfl _ _ _) rfl ?_
          obtain rfl : q = i - 1 := by omega
          have hm := HM.out
          subst hm
          exact ⟨rfl, dk, HU.out.perm, HU.out.sorted HO.out H2.out hmi hjb Hi.out Hj.out, S1.out⟩

set_option maxHeartbeats 4000000 in
set_option maxRecDepth 1000000 in
theorem symMergeM2 (L : StbM P k) {enc : α → List Value} {cf : α → α → Int} (hO : SWO (ltOf cf)) {g : Nat} {cb : Array Value} {blk off cap a m b : Nat} {d0 d : Array α} {w0 w : World}
    (eg : ∀ args w, (callFunc g args).run P w = .ok (.enter g args) w) (hcm : CmpAny P g cb enc cf) (R : RowK enc k w0 blk off d0) (hs : d.size = d0.size) (S : SWK enc k w0 blk off d w)
    (ham : a + 1 < m) (hm : b = m + 1) (h1 : SortedIn (ltOf cf) a m d) (hb : b ≤ d.size) (hsz : d.size < 4611686018427387904) :
    Calls P 119 #[.slice (some ⟨blk, off, none⟩) d.size cap, .int .i64 a, .int .i64 m, .int .i64 b, .func (.func g) #[] cb] w fun e w' =>
      e = .returned (.tuple #[]) ∧ ∃ d', PermIn a b d d' ∧ SortedIn (ltOf cf) a b d' ∧ SWK enc k w0 blk off d' w' := by
  have S0 : Aside (SWK enc k w0 blk off d w) := S
  have HR : Aside (RowK enc k w0 blk off d0) := R
  have HS : Hid (d.size = d0.size) := hs
  have HC := Lib.hid hcm
  have HO := Lib.hid hO
  have HM := Lib.hid hm
  have H2 := Lib.hid h1
  have mixed := L.mixed; have t0 := L.t0; have a0 := L.a0; have z0 := L.z0; have v0 := L.v0; have t3 := L.t3; have a3 := L.a3; have z3 := L.z3; have v3 := L.v3; have t4 := L.t4; have a4 := L.a4; have z4 := L.z4; have v4 := L.v4; have t5 := L.t5; have a5 := L.a5; have z5 := L.z5; have v5 := L.v5; have t22 := L.t22; have a22 := L.a22; have z22 := L.z22; have v22 := L.v22; have t25 := L.t25; have a25 := L.a25; have z25 := L.z25; have v25 := L.v25; have ae := L.ae; have ze := L.ze
  have FG := L.fm
  clear L S R hs hcm hO
  have hmb : m < b := by omega
  have g0 : ((m : Int) - (a : Int) == 1) = false := by rw [beq_eq_false_iff_ne]; omega
  have g1 : ((b : Int) - (m : Int) == 1) = true := by rw [beq_iff_eq]; omega
  clear hm h1
  go_enter FG, Tryz.ntmps119
  go_wp2_with fail
  go_loopw [14, 15] (fun s t wr => ∃ (i j : Nat), s = .int .i64 i ∧ t = .int .i64 j ∧ a ≤ i ∧ i ≤ j ∧ j ≤ m ∧ Hid (i = a ∨ ltOf cf d[m]! d[i - 1]! = false) ∧ Hid (j = m ∨ ltOf cf d[m]! d[j]! = true) ∧ Aside (SWK enc k w0 blk off d wr)) (fun s t _ => (intOf t).toNat - (intOf s).toNat)
  case atStart => exact ⟨a, m, rfl, rfl, Nat.le_refl _, by omega, Nat.le_refl _, .inl rfl, .inl rfl, S0⟩
  case round =>
    clear S0
    obtain ⟨i, j, rfl, rfl, hmi, hij, hjb, Hi, Hj, S1⟩ := hrel
    by_cases hlt : i < j
    · obtain ⟨h, hh⟩ : ∃ h, h = (i + j) / 2 := ⟨_, rfl⟩
      have hh2 : ((i : Int) + (j : Int)) / 2 = ((h : Nat) : Int) := by omega
      have hih : i ≤ h := by omega
      have hhj : h < j := by omega
      clear hh
      cases hlv : ltOf cf d[m]! d[h]! with
      | false =>
        have eax : ((m : Nat) : Int).toNat = m := by omega
        have pax : (0 : Int) ≤ ((m : Nat) : Int) := by omega
        have bax : ((m : Nat) : Int) < (d.size : Int) := by omega
        have rax : IntKind.i64.wrap ((m : Nat) : Int) = ((m : Nat) : Int) := by rw [IntKind.wrap_i64]; omega
        have eay : ((h : Nat) : Int).toNat = h := by omega
        have pay : (0 : Int) ≤ ((h : Nat) : Int) := by omega
        have bay : ((h : Nat) : Int) < (d.size : Int) := by omega
        have ray : IntKind.i64.wrap ((h : Nat) : Int) = ((h : Nat) : Int) := by rw [IntKind.wrap_i64]; omega
        obtain ⟨xv, hxv⟩ : ∃ v, v = d[m]! := ⟨_, rfl⟩
        obtain ⟨yv, hyv⟩ : ∃ v, v = d[h]! := ⟨_, rfl⟩
        have lx := S1.out.ld HR.out HS.out P m (by omega)
        have ly := S1.out.ld HR.out HS.out P h (by omega)
        rw [← hxv] at lx
        rw [← hyv] at ly
        have hcc : ∀ n os, Calls P g (#[.agg (enc xv).toArray, .agg (enc yv).toArray] ++ cb) (grow (wr.drewN n) os) fun e w' => e = .returned (.int .i64 (cf xv yv)) ∧ ∃ q os', w' = grow ((grow (wr.drewN n) os).drewN q) os' := HC.out.grown xv yv wr
        have hvv : ¬ cf xv yv < 0 := by rw [hxv, hyv]; exact of_decide_eq_false hlv
        have hdd : decide (cf xv yv < 0) = false := decide_eq_false hvv
        have HLV := Lib.hid hlv
        clear hlv hxv hyv hvv
        go_wp2_with fail
        go_quiet_grown (first | (go_at_fn g; refine Calls.grown_of (hcc _ _)))
        have S2 : Aside (SWK enc k w0 blk off d (grow (wr.drewN nq) osq)) := S1.out.grown nq osq
        clear lx ly hcc S1 eax pax bax rax eay pay bay ray
        generalize grow (wr.drewN nq) osq = w2 at S2 ⊢
        clear nq osq
        go_wp2
        go_roundw
        case rel => exact ⟨h + 1, j, by go_num, rfl, by omega, by omega, hjb, .inr HLV.out, Hj, S2⟩
        case measure => simp [intOf]; omega
      | true =>
        have eax : ((m : Nat) : Int).toNat = m := by omega
        have pax : (0 : Int) ≤ ((m : Nat) : Int) := by omega
        have bax : ((m : Nat) : Int) < (d.size : Int) := by omega
        have rax : IntKind.i64.wrap ((m : Nat) : Int) = ((m : Nat) : Int) := by rw [IntKind.wrap_i64]; omega
        have eay : ((h : Nat) : Int).toNat = h := by omega
        have pay : (0 : Int) ≤ ((h : Nat) : Int) := by omega
        have bay : ((h : Nat) : Int) < (d.size : Int) := by omega
        have ray : IntKind.i64.wrap ((h : Nat) : Int) = ((h : Nat) : Int) := by rw [IntKind.wrap_i64]; omega
        obtain ⟨xv, hxv⟩ : ∃ v, v = d[m]! := ⟨_, rfl⟩
        obtain ⟨yv, hyv⟩ : ∃ v, v = d[h]! := ⟨_, rfl⟩
        have lx := S1.out.ld HR.out HS.out P m (by omega)
        have ly := S1.out.ld HR.out HS.out P h (by omega)
        rw [← hxv] at lx
        rw [← hyv] at ly
        have hcc : ∀ n os, Calls P g (#[.agg (enc xv).toArray, .agg (enc yv).toArray] ++ cb) (grow (wr.drewN n) os) fun e w' => e = .returned (.int .i64 (cf xv yv)) ∧ ∃ q os', w' = grow ((grow (wr.drewN n) os).drewN q) os' := HC.out.grown xv yv wr
        have hvv : cf xv yv < 0 := by rw [hxv, hyv]; exact of_decide_eq_true hlv
        have hdd : decide (cf xv yv < 0) = true := decide_eq_true hvv
        have HLV := Lib.hid hlv
        clear hlv hxv hyv hvv
        go_wp2_with fail
        go_quiet_grown (first | (go_at_fn g; refine Calls.grown_of (hcc _ _)))
        have S2 : Aside (SWK enc k w0 blk off d (grow (wr.drewN nq) osq)) := S1.out.grown nq osq
        clear lx ly hcc S1 eax pax bax rax eay pay bay ray
        generalize grow (wr.drewN nq) osq = w2 at S2 ⊢
        clear nq osq
        go_wp2
        go_roundw
        case rel => exact ⟨i, h, rfl, rfl, hmi, by omega, by omega, Hi, .inr HLV.out, S2⟩
        case measure => simp [intOf]; omega
    · obtain rfl : i = j := by omega
      clear hlt hij
      go_wp2_with fail
      obtain ⟨wo, rfl⟩ : ∃ wo : World, wo = wr := ⟨_, rfl⟩
      go_loopw [17] (fun s wr => ∃ (q : Nat) (dk : Array α), s = .int .i64 q ∧ i ≤ q ∧ q ≤ m ∧ Hid (DnI a q m d dk) ∧ Aside (SWK enc k w0 blk off dk wr)) (fun s _ => (intOf s).toNat)
      case atStart => exact ⟨m, d, rfl, hjb, Nat.le_refl _, DnI.start _ _ _, S1⟩
      case round =>
        clear S1
        obtain ⟨q, dk, rfl, haq, hqi, HU, S1⟩ := hrel
        by_cases hlt : i < q
        · have HZ : Hid (dk.size = d.size) := HU.out.size
          obtain ⟨q1, hq1⟩ : ∃ q1, q = q1 + 1 := ⟨q - 1, by omega⟩
          have hq2 : ((q : Int) - 1) = ((q1 : Nat) : Int) := by omega
          have HN : Hid (DnI a q1 m d (swp dk q q1)) := by subst hq1; exact HU.out.step (by omega) (by omega) (by omega)
          have hqq : q1 < q := by omega
          have hqi1 : i ≤ q1 := by omega
          clear hq1 HU
          have S2 : Aside (SWK enc k w0 blk off (swp dk q q1) ((wr.drew.setCells blk (off + q * k) (enc dk[q1]!)).setCells blk (off + q1 * k) (enc dk[q]!))) := S1.out.swapped HR.out q q1 (by rw [HZ.out]; omega) (by rw [HZ.out]; omega)
          have lx := S1.out.ld1 HR.out (HZ.out.trans HS.out) P q (by rw [HZ.out]; omega)
          have ly := S1.out.ld1 HR.out (HZ.out.trans HS.out) P q1 (by rw [HZ.out]; omega)
          have sx := S1.out.st1 HR.out (HZ.out.trans HS.out) P q (by rw [HZ.out]; omega) dk[q1]!
          have sy := S1.out.st2 HR.out (HZ.out.trans HS.out) P q q1 (by rw [HZ.out]; omega) (by rw [HZ.out]; omega) dk[q1]! dk[q]!
          have nx : (enc dk[q]!).length = k := HR.out.hk _
          have ny : (enc dk[q1]!).length = k := HR.out.hk _
          generalize enc dk[q]! = cI at S2 lx sy nx
          generalize enc dk[q1]! = cJ at S2 ly sx sy ny
          have eax : ((q : Nat) : Int).toNat = q := by omega
          have pax : (0 : Int) ≤ ((q : Nat) : Int) := by omega
          have bax : ((q : Nat) : Int) < (d.size : Int) := by omega
          have rax : IntKind.i64.wrap ((q : Nat) : Int) = ((q : Nat) : Int) := by rw [IntKind.wrap_i64]; omega
          have eay : ((q1 : Nat) : Int).toNat = q1 := by omega
          have pay : (0 : Int) ≤ ((q1 : Nat) : Int) := by omega
          have bay : ((q1 : Nat) : Int) < (d.size : Int) := by omega
          have ray : IntKind.i64.wrap ((q1 : Nat) : Int) = ((q1 : Nat) : Int) := by rw [IntKind.wrap_i64]; omega
          clear S1
          go_wp2_with fail
          go_big_region_o
          all_goals clear lx ly sx sy nx ny eax pax bax rax eay pay bay ray
          all_goals go_wp2
          all_goals go_roundw
          case rel => exact ⟨q1, _, by go_num, by omega, by omega, HN, S2⟩
          case measure => simp [intOf]; omega
        · obtain rfl : i = q := by omega
          go_wp2
          (try simp only [Exit.inBlock, Exit.then]); refine bodyPost_ret (results_none rfl _ _ _) rfl ?_
          have hm := HM.out
          subst hm
          exact ⟨rfl, dk, HU.out.perm, HU.out.sorted HO.out H2.out hmi hjb Hi.out Hj.out, S1.out⟩
end Go.Proofs.YtgofncopoieigaaGreatDoor
