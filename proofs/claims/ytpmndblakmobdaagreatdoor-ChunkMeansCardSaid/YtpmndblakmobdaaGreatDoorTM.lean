/-
  StbM4, StbM5, in one file.
-/
import Derived.Test.YtpmndblakmobdaaGreatDoorTS
import Derived.Deep.DeepCutAuto
/- StbM4 -/
namespace Go.Proofs.YtpmndblakmobdaaGreatDoor
open Go Go.RowKit Go.Lib Go.Sort Go.Proofs
variable {P : Program} {k : Nat} {α : Type} [Inhabited α]

/-- A test 'x < y && u < v' has been made. -/
def TestLt (x y u v : Nat) (s : Value) : Prop := ∃ t : Bool, s = .bool t ∧ (t = true → x < y ∧ u < v) ∧ (t = false → ¬ x < y ∨ ¬ u < v)
theorem TestLt.yes {x y u v : Nat} (h1 : x < y) (h2 : u < v) : TestLt x y u v (.bool true) := ⟨true, rfl, fun _ => ⟨h1, h2⟩, (fun h => by cases h)⟩
theorem TestLt.no {x y u v : Nat} (h : ¬ x < y ∨ ¬ u < v) : TestLt x y u v (.bool false) := ⟨false, rfl, (fun h => by cases h), fun _ => h⟩

set_option maxHeartbeats 4000000 in
set_option maxRecDepth 1000000 in
theorem symMergeM3 (L : StbM P k) {enc : α → List Value} {cf : α → α → Int} (hO : SWO (ltOf cf)) {g : Nat} {cb : Array Value} {blk off cap a m b : Nat} {d0 d : Array α} {w0 w : World}
    (eg : ∀ args w, (callFunc g args).run P w = .ok (.enter g args) w) (hcm : CmpAny P g cb enc cf) (R : RowK enc k w0 blk off d0) (hs : d.size = d0.size) (S : SWK enc k w0 blk off d w)
    (ham : a + 1 < m) (hmb : m + 1 < b) (hc : (a + b) / 2 < m) (h1 : SortedIn (ltOf cf) a m d) (h2 : SortedIn (ltOf cf) m b d)
    (ih : ∀ (x y z : Nat) (dk : Array α) (W : World), z - x < b - a → dk.size = d.size → SWK enc k w0 blk off dk W → x < y → y < z → z ≤ d.size → SortedIn (ltOf cf) x y dk → SortedIn (ltOf cf) y z dk →
      Calls P 116 #[.slice (some ⟨blk, off, none⟩) d.size cap, .int .i64 x, .int .i64 y, .int .i64 z, .func (.func g) #[] cb] W fun e w' => e = .returned (.tuple #[]) ∧ ∃ d', PermIn x z dk d' ∧ SortedIn (ltOf cf) x z d' ∧ SWK enc k w0 blk off d' w') (hb : b ≤ d.size) (hsz : d.size < 4611686018427387904) :
    Calls P 116 #[.slice (some ⟨blk, off, none⟩) d.size cap, .int .i64 a, .int .i64 m, .int .i64 b, .func (.func g) #[] cb] w fun e w' =>
      e = .returned (.tuple #[]) ∧ ∃ d', PermIn a b d d' ∧ SortedIn (ltOf cf) a b d' ∧ SWK enc k w0 blk off d' w' := by
  have S0 : Aside (SWK enc k w0 blk off d w) := S
  have HR : Aside (RowK enc k w0 blk off d0) := R
  have HS : Hid (d.size = d0.size) := hs
  have HC := Lib.hid hcm
  have HO := Lib.hid hO
  have H1 := Lib.hid h1
  have H2 := Lib.hid h2
  have IH : Aside _ := ih
  have HRO : Aside (∀ (x y z : Nat) (W : World), SWK enc k w0 blk off d W → x < y → y < z → z ≤ b →
      Calls P 123 #[.slice (some ⟨blk, off, none⟩) d.size cap, .int .i64 x, .int .i64 y, .int .i64 z, .func (.func g) #[] cb] W fun e w' => e = .returned (.tuple #[]) ∧ ∃ d', Rot x y z d d' ∧ SWK enc k w0 blk off d' w') :=
    fun x y z W h2 h3 h4 h5 => rotateM L R hs h2 h3 h4 (by omega) hsz
  have e43 : ∀ args w, (callFunc 123 args).run P w = .ok (.enter 123 args) w := enters_of L.fo (by kernel_rfl) rfl
  have e42 : ∀ args w, (callFunc 116 args).run P w = .ok (.enter 116 args) w := enters_of L.fm (by kernel_rfl) rfl
  have mixed := L.mixed; have t0 := L.t0; have a0 := L.a0; have z0 := L.z0; have v0 := L.v0; have t3 := L.t3; have a3 := L.a3; have z3 := L.z3; have v3 := L.v3; have t4 := L.t4; have a4 := L.a4; have z4 := L.z4; have v4 := L.v4; have t5 := L.t5; have a5 := L.a5; have z5 := L.z5; have v5 := L.v5; have t22 := L.t22; have a22 := L.a22; have z22 := L.z22; have v22 := L.v22; have t25 := L.t25; have a25 := L.a25; have z25 := L.z25; have v25 := L.v25; have ae := L.ae; have ze := L.ze
  have FG := L.fm
  clear L S R hs hcm hO
  have g0 : ((m : Int) - (a : Int) == 1) = false := by rw [beq_eq_false_iff_ne]; omega
  have g1 : ((b : Int) - (m : Int) == 1) = false := by rw [beq_eq_false_iff_ne]; omega
  obtain ⟨mid, hmid⟩ : ∃ mid, mid = (a + b) / 2 := ⟨_, rfl⟩
  have hmid2 : ((a : Int) + (b : Int)) / 2 = ((mid : Nat) : Int) := by omega
  obtain ⟨n0, hn0⟩ : ∃ n0, n0 = mid + m := ⟨_, rfl⟩
  have hn2 : ((mid : Nat) : Int) + (m : Int) = ((n0 : Nat) : Int) := by omega
  obtain ⟨p, hp⟩ : ∃ p, p = n0 - 1 := ⟨_, rfl⟩
  have hp2 : ((n0 : Nat) : Int) - 1 = ((p : Nat) : Int) := by omega
  have hgt : decide (mid < m) = true := decide_eq_true (by omega)
  obtain ⟨s0, hs0⟩ : ∃ s0, s0 = n0 - b := ⟨_, rfl⟩
  have hs2 : ((n0 : Nat) : Int) - (b : Int) = ((s0 : Nat) : Int) := by omega
  have Hs : Hid (m > mid ∧ s0 = mid + m - b ∧ mid = mid ∨ m ≤ mid ∧ s0 = a ∧ mid = m) := .inl (by omega)
  have hle : s0 ≤ mid := by omega
  have hcp : mid ≤ p + 1 := by omega
  have hlo : a ≤ s0 := by omega
  have hn0p : 1 ≤ n0 ∧ n0 < 9223372036854775807 := by omega
  have hbn : b ≤ n0 ∨ True := .inr trivial
  have Hmid := Lib.hid hmid
  have HN0 : Hid (n0 = mid + m) := hn0
  have HP : Hid (p = mid + m - 1) := by unfold Hid; omega
  clear hc hmid hn0 hp ih h1 h2 hbn hs0
  go_enter FG, Tryz.ntmps116
  go_wp2_with fail
  go_loopw [20, 21] (fun s t wr => ∃ (i j : Nat), s = .int .i64 i ∧ t = .int .i64 j ∧ s0 ≤ i ∧ i ≤ j ∧ j ≤ mid ∧ Hid (i = s0 ∨ ltOf cf d[mid + m - 1 - (i - 1)]! d[i - 1]! = false) ∧ Hid (j = mid ∨ ltOf cf d[mid + m - 1 - j]! d[j]! = true) ∧ Aside (SWK enc k w0 blk off d wr)) (fun s t _ => (intOf t).toNat - (intOf s).toNat)
  case atStart => exact ⟨s0, mid, rfl, rfl, Nat.le_refl _, by omega, Nat.le_refl _, .inl rfl, .inl rfl, S0⟩
  case round =>
    clear S0
    obtain ⟨i, j, rfl, rfl, hmi, hij, hjb, Hi, Hj, S1⟩ := hrel
    by_cases hlt : i < j
    · as_aux_lemma =>
        obtain ⟨h, hh⟩ : ∃ h, h = (i + j) / 2 := ⟨_, rfl⟩
        have hh2 : ((i : Int) + (j : Int)) / 2 = ((h : Nat) : Int) := by omega
        have hih : i ≤ h := by omega
        have hhj : h < j := by omega
        clear hh
        obtain ⟨pc, hpc⟩ : ∃ pc, pc = p - h := ⟨_, rfl⟩
        have hpc2 : ((p : Nat) : Int) - (h : Int) = ((pc : Nat) : Int) := by omega
        have hpc3 : pc < d.size := by have := HP.out; have := Hmid.out; have := Hs.out; omega
        have HPC : Hid (mid + m - 1 - h = pc) := by have := HP.out; unfold Hid; omega
        clear hpc
        cases hlv : ltOf cf d[pc]! d[h]! with
        | false =>
          have eax : ((pc : Nat) : Int).toNat = pc := by omega
          have pax : (0 : Int) ≤ ((pc : Nat) : Int) := by omega
          have bax : ((pc : Nat) : Int) < (d.size : Int) := by omega
          have rax : IntKind.i64.wrap ((pc : Nat) : Int) = ((pc : Nat) : Int) := by rw [IntKind.wrap_i64]; omega
          have eay : ((h : Nat) : Int).toNat = h := by omega
          have pay : (0 : Int) ≤ ((h : Nat) : Int) := by omega
          have bay : ((h : Nat) : Int) < (d.size : Int) := by omega
          have ray : IntKind.i64.wrap ((h : Nat) : Int) = ((h : Nat) : Int) := by rw [IntKind.wrap_i64]; omega
          obtain ⟨xv, hxv⟩ : ∃ v, v = d[pc]! := ⟨_, rfl⟩
          obtain ⟨yv, hyv⟩ : ∃ v, v = d[h]! := ⟨_, rfl⟩
          have lx := S1.out.ld HR.out HS.out P pc (by omega)
          have ly := S1.out.ld HR.out HS.out P h (by omega)
          rw [← hxv] at lx
          rw [← hyv] at ly
          have hcc : ∀ n os, Calls P g (#[.agg (enc xv).toArray, .agg (enc yv).toArray] ++ cb) (grow (wr.drewN n) os) fun e w' => e = .returned (.int .i64 (cf xv yv)) ∧ ∃ q os', w' = grow ((grow (wr.drewN n) os).drewN q) os' := HC.out.grown xv yv wr
          have hvv : ¬ cf xv yv < 0 := by rw [hxv, hyv]; exact of_decide_eq_false hlv
          have hdd : decide (cf xv yv < 0) = false := decide_eq_false hvv
          have HLV := Lib.hid hlv
          clear hlv hxv hyv hvv
          go_wp2_with fail
          go_quiet_grown (first | (go_at_fn g; refine Calls.grown_of (hcc _ _)))
          have S2 : Aside (SWK enc k w0 blk off d (grow (wr.drewN nq) osq)) := S1.out.grown nq osq
          clear lx ly hcc S1 eax pax bax rax eay pay bay ray
          generalize grow (wr.drewN nq) osq = w2 at S2 ⊢
          clear nq osq
          go_wp2
          go_roundw
          case rel => exact ⟨h + 1, j, by go_num, rfl, by omega, by omega, hjb, .inr (by rw [Nat.add_sub_cancel, HPC.out]; exact HLV.out), Hj, S2⟩
          case measure => simp [intOf]; omega
        | true =>
          have eax : ((pc : Nat) : Int).toNat = pc := by omega
          have pax : (0 : Int) ≤ ((pc : Nat) : Int) := by omega
          have bax : ((pc : Nat) : Int) < (d.size : Int) := by omega
          have rax : IntKind.i64.wrap ((pc : Nat) : Int) = ((pc : Nat) : Int) := by rw [IntKind.wrap_i64]; omega
          have eay : ((h : Nat) : Int).toNat = h := by omega
          have pay : (0 : Int) ≤ ((h : Nat) : Int) := by omega
          have bay : ((h : Nat) : Int) < (d.size : Int) := by omega
          have ray : IntKind.i64.wrap ((h : Nat) : Int) = ((h : Nat) : Int) := by rw [IntKind.wrap_i64]; omega
          obtain ⟨xv, hxv⟩ : ∃ v, v = d[pc]! := ⟨_, rfl⟩
          obtain ⟨yv, hyv⟩ : ∃ v, v = d[h]! := ⟨_, rfl⟩
          have lx := S1.out.ld HR.out HS.out P pc (by omega)
          have ly := S1.out.ld HR.out HS.out P h (by omega)
          rw [← hxv] at lx
          rw [← hyv] at ly
          have hcc : ∀ n os, Calls P g (#[.agg (enc xv).toArray, .agg (enc yv).toArray] ++ cb) (grow (wr.drewN n) os) fun e w' => e = .returned (.int .i64 (cf xv yv)) ∧ ∃ q os', w' = grow ((grow (wr.drewN n) os).drewN q) os' := HC.out.grown xv yv wr
          have hvv : cf xv yv < 0 := by rw [hxv, hyv]; exact of_decide_eq_true hlv
          have hdd : decide (cf xv yv < 0) = true := decide_eq_true hvv
          have HLV := Lib.hid hlv
          clear hlv hxv hyv hvv
          go_wp2_with fail
          go_quiet_grown (first | (go_at_fn g; refine Calls.grown_of (hcc _ _)))
          have S2 : Aside (SWK enc k w0 blk off d (grow (wr.drewN nq) osq)) := S1.out.grown nq osq
          clear lx ly hcc S1 eax pax bax rax eay pay bay ray
          generalize grow (wr.drewN nq) osq = w2 at S2 ⊢
          clear nq osq
          go_wp2
          go_roundw
          case rel => exact ⟨i, h, rfl, rfl, hmi, by omega, by omega, Hi, .inr (by rw [HPC.out]; exact HLV.out), S2⟩
          case measure => simp [intOf]; omega
    · obtain rfl : i = j := by omega
      clear hlt hij
      obtain ⟨en, hen⟩ : ∃ en, en = mid + m - i := ⟨_, rfl⟩
      have hen2 : ((n0 : Nat) : Int) - (i : Int) = ((en : Nat) : Int) := by have := HN0.out; omega
      have HH : Hid (∀ d1, Rot i m en d d1 → Halves (ltOf cf) a i mid en b d1) := fun d1 h => (halves_of HO.out H1.out H2.out (by omega) (by omega) Hmid.out (by have := Hs.out; omega) hmi hjb hen Hi.out Hj.out h).2.2.2.2
      have hall : a ≤ i ∧ i ≤ mid ∧ mid ≤ en ∧ en ≤ b ∧ i ≤ m ∧ m ≤ en ∧ a < mid ∧ mid < b := by have := Hmid.out; have := Hs.out; omega
      obtain ⟨o1, o2, o3, o4, o5, o6, o7, o8⟩ := hall
      have oen : Hid (en = mid + m - i) := hen
      clear hmi hjb hen Hi Hj
      go_upto_region 39 with fail
      go_cut [185] (fun s wx => TestLt i m m en s ∧ Aside (SWK enc k w0 blk off d wx))
      case first =>
        as_aux_lemma =>
          by_cases c1 : i < m
          · have q1 : decide (i < m) = true := decide_eq_true c1
            by_cases c2 : m < en
            · have q2 : decide (m < en) = true := decide_eq_true c2
              go_wp2_with fail
              go_meet
              exact ⟨TestLt.yes c1 c2, S1⟩
            · have q2 : decide (m < en) = false := decide_eq_false c2
              go_wp2_with fail
              go_meet
              exact ⟨TestLt.no (.inr c2), S1⟩
          · have q1 : decide (i < m) = false := decide_eq_false c1
            go_wp2_with fail
            go_meet
            exact ⟨TestLt.no (.inl c1), S1⟩
      case rest =>
        clear S1
        obtain ⟨ht, S1⟩ := hcut
        obtain ⟨t, rfl, ht1, ht2⟩ := ht
        obtain ⟨wt, rfl⟩ : ∃ wt : World, wt = wc := ⟨_, rfl⟩
        go_upto_if 185 with fail
        go_cut [] (fun wx => ∃ d1 : Array α, Hid (Rot i m en d d1) ∧ Aside (SWK enc k w0 blk off d1 wx))
        case first =>
          cases t with
          | true =>
            as_aux_lemma =>
              obtain ⟨c1, c2⟩ := ht1 rfl
              have hR := HRO.out i m en wt S1.out c1 c2 o4
              go_wp2_with (go_at_call 123; refine hR.mono ?_; rintro e w' ⟨rfl, d1, h1, h2⟩)
              go_meet
              exact ⟨d1, h1, h2⟩
          | false =>
            as_aux_lemma =>
              have c12 := ht2 rfl
              go_wp2_with fail
              go_meet
              exact ⟨d, Rot.none (by omega) o5 o6, S1⟩
        case rest =>
          obtain ⟨d1, HR1, S2⟩ := hcut
          have HH1 := Lib.hid (HH.out d1 HR1.out)
          have HZ1 : Hid (d1.size = d.size) := HR1.out.size
          have HP1 : Hid (PermIn i en d d1) := HR1.out.perm
          clear S1 HH HR1 HRO ht1 ht2
          go_upto_region 41 with fail
          go_cut [199] (fun s wx => TestLt a i i mid s ∧ Aside (SWK enc k w0 blk off d1 wx))
          case first =>
            as_aux_lemma =>
              by_cases c1 : a < i
              · have q1 : decide (a < i) = true := decide_eq_true c1
                by_cases c2 : i < mid
                · have q2 : decide (i < mid) = true := decide_eq_true c2
                  go_wp2_with fail
                  go_meet
                  exact ⟨TestLt.yes c1 c2, S2⟩
                · have q2 : decide (i < mid) = false := decide_eq_false c2
                  go_wp2_with fail
                  go_meet
                  exact ⟨TestLt.no (.inr c2), S2⟩
              · have q1 : decide (a < i) = false := decide_eq_false c1
                go_wp2_with fail
                go_meet
                exact ⟨TestLt.no (.inl c1), S2⟩
          case rest =>
            clear S2
            obtain ⟨ht, S2⟩ := hcut
            obtain ⟨t, rfl, ht1, ht2⟩ := ht
            obtain ⟨wt, rfl⟩ : ∃ wt : World, wt = wc := ⟨_, rfl⟩
            go_upto_if 199 with fail
            go_cut [] (fun wx => ∃ d2 : Array α, Hid (PermIn a mid d1 d2) ∧ Hid (SortedIn (ltOf cf) a mid d2) ∧ Aside (SWK enc k w0 blk off d2 wx))
            case first =>
              cases t with
              | true =>
                as_aux_lemma =>
                  obtain ⟨c1, c2⟩ := ht1 rfl
                  have hR := IH.out a i mid d1 wt (by have := Hmid.out; omega) HZ1.out S2.out c1 c2 (by omega) HH1.out.s1 HH1.out.s2
                  go_wp2_with (go_at_call 116; refine hR.mono ?_; rintro e w' ⟨rfl, d2, h1, h2, h3⟩)
                  go_meet
                  exact ⟨d2, h1, h2, h3⟩
              | false =>
                as_aux_lemma =>
                  have c12 := ht2 rfl
                  go_wp2_with fail
                  go_meet
                  exact ⟨d1, permIn_refl _ _ _, by
                    have h1 := HH1.out.s1
                    have h2 := HH1.out.s2
                    rcases (by omega : i = a ∨ i = mid) with e | e
                    · rwa [e] at h2
                    · rwa [e] at h1, S2⟩
            case rest =>
              obtain ⟨d2, HP2, HS2, S3⟩ := hcut
              have HZ2 : Hid (d2.size = d.size) := HP2.out.1.trans HZ1.out
              have t3 : Hid (SortedIn (ltOf cf) mid en d2) := sorted_congr HH1.out.s3 (fun x k1 _ => HP2.out.2.1 x (.inr k1))
              have t4 : Hid (SortedIn (ltOf cf) en b d2) := sorted_congr HH1.out.s4 (fun x k1 _ => HP2.out.2.1 x (.inr (by omega)))
              have HF : Hid (∀ d3, PermIn mid b d2 d3 → SortedIn (ltOf cf) mid b d3 → PermIn a b d d3 ∧ SortedIn (ltOf cf) a b d3) := fun d3 g1 g2 => by
                have h := sorted_halves (d := d1) (by omega) (by omega) (by rw [HZ1.out]; exact hb) HH1.out.cross HP2.out HS2.out g1 g2
                exact ⟨permIn_trans _ _ _ _ _ (permIn_mono _ _ i en a b o1 o4 hb HP1.out) h.1, h.2⟩
              clear S2 ht1 ht2
              go_upto_region 43 with fail
              go_cut [213] (fun s wx => TestLt mid en en b s ∧ Aside (SWK enc k w0 blk off d2 wx))
              case first =>
                as_aux_lemma =>
                  by_cases c1 : mid < en
                  · have q1 : decide (mid < en) = true := decide_eq_true c1
                    by_cases c2 : en < b
                    · have q2 : decide (en < b) = true := decide_eq_true c2
                      go_wp2_with fail
                      go_meet
                      exact ⟨TestLt.yes c1 c2, S3⟩
                    · have q2 : decide (en < b) = false := decide_eq_false c2
                      go_wp2_with fail
                      go_meet
                      exact ⟨TestLt.no (.inr c2), S3⟩
                  · have q1 : decide (mid < en) = false := decide_eq_false c1
                    go_wp2_with fail
                    go_meet
                    exact ⟨TestLt.no (.inl c1), S3⟩
              case rest =>
                clear S3
                obtain ⟨ht, S3⟩ := hcut
                obtain ⟨t, rfl, ht1, ht2⟩ := ht
                obtain ⟨wt, rfl⟩ : ∃ wt : World, wt = wc := ⟨_, rfl⟩
                go_upto_if 213 with fail
                cases t with
                | true =>
                  as_aux_lemma =>
                    obtain ⟨c1, c2⟩ := ht1 rfl
                    have hR := IH.out mid en b d2 wt (by have := Hmid.out; omega) HZ2.out S3.out c1 c2 hb t3.out t4.out
                    go_wp2_with (go_at_call 116; refine hR.mono ?_; rintro e w' ⟨rfl, d3, h1, h2, h3⟩)
                    go_end0
                    have h := HF.out d3 h1 h2
                    exact ⟨rfl, d3, h.1, h.2, h3⟩
                | false =>
                  as_aux_lemma =>
                    have c12 := ht2 rfl
                    have HS3 : Hid (SortedIn (ltOf cf) mid b d2) := by
                      have h1 := t3.out
                      have h2 := t4.out
                      rcases (by omega : en = mid ∨ en = b) with e | e
                      · rwa [e] at h2
                      · rwa [e] at h1
                    go_wp2_with fail
                    go_end0
                    have h := HF.out d2 (permIn_refl _ _ _) HS3.out
                    exact ⟨rfl, d2, h.1, h.2, S3.out⟩

set_option maxHeartbeats 4000000 in
set_option maxRecDepth 1000000 in
theorem symMergeM4 (L : StbM P k) {enc : α → List Value} {cf : α → α → Int} (hO : SWO (ltOf cf)) {g : Nat} {cb : Array Value} {blk off cap a m b : Nat} {d0 d : Array α} {w0 w : World}
    (eg : ∀ args w, (callFunc g args).run P w = .ok (.enter g args) w) (hcm : CmpAny P g cb enc cf) (R : RowK enc k w0 blk off d0) (hs : d.size = d0.size) (S : SWK enc k w0 blk off d w)
    (ham : a + 1 < m) (hmb : m + 1 < b) (hc : m ≤ (a + b) / 2) (h1 : SortedIn (ltOf cf) a m d) (h2 : SortedIn (ltOf cf) m b d)
    (ih : ∀ (x y z : Nat) (dk : Array α) (W : World), z - x < b - a → dk.size = d.size → SWK enc k w0 blk off dk W → x < y → y < z → z ≤ d.size → SortedIn (ltOf cf) x y dk → SortedIn (ltOf cf) y z dk →
      Calls P 116 #[.slice (some ⟨blk, off, none⟩) d.size cap, .int .i64 x, .int .i64 y, .int .i64 z, .func (.func g) #[] cb] W fun e w' => e = .returned (.tuple #[]) ∧ ∃ d', PermIn x z dk d' ∧ SortedIn (ltOf cf) x z d' ∧ SWK enc k w0 blk off d' w') (hb : b ≤ d.size) (hsz : d.size < 4611686018427387904) :
    Calls P 116 #[.slice (some ⟨blk, off, none⟩) d.size cap, .int .i64 a, .int .i64 m, .int .i64 b, .func (.func g) #[] cb] w fun e w' =>
      e = .returned (.tuple #[]) ∧ ∃ d', PermIn a b d d' ∧ SortedIn (ltOf cf) a b d' ∧ SWK enc k w0 blk off d' w' := by
  have S0 : Aside (SWK enc k w0 blk off d w) := S
  have HR : Aside (RowK enc k w0 blk off d0) := R
  have HS : Hid (d.size = d0.size) := hs
  have HC := Lib.hid hcm
  have HO := Lib.hid hO
  have H1 := Lib.hid h1
  have H2 := Lib.hid h2
  have IH : Aside _ := ih
  have HRO : Aside (∀ (x y z : Nat) (W : World), SWK enc k w0 blk off d W → x < y → y < z → z ≤ b →
      Calls P 123 #[.slice (some ⟨blk, off, none⟩) d.size cap, .int .i64 x, .int .i64 y, .int .i64 z, .func (.func g) #[] cb] W fun e w' => e = .returned (.tuple #[]) ∧ ∃ d', Rot x y z d d' ∧ SWK enc k w0 blk off d' w') :=
    fun x y z W h2 h3 h4 h5 => rotateM L R hs h2 h3 h4 (by omega) hsz
  have e43 : ∀ args w, (callFunc 123 args).run P w = .ok (.enter 123 args) w := enters_of L.fo (by kernel_rfl) rfl
  have e42 : ∀ args w, (callFunc 116 args).run P w = .ok (.enter 116 args) w := enters_of L.fm (by kernel_rfl) rfl
  have mixed := L.mixed; have t0 := L.t0; have a0 := L.a0; have z0 := L.z0; have v0 := L.v0; have t3 := L.t3; have a3 := L.a3; have z3 := L.z3; have v3 := L.v3; have t4 := L.t4; have a4 := L.a4; have z4 := L.z4; have v4 := L.v4; have t5 := L.t5; have a5 := L.a5; have z5 := L.z5; have v5 := L.v5; have t22 := L.t22; have a22 := L.a22; have z22 := L.z22; have v22 := L.v22; have t25 := L.t25; have a25 := L.a25; have z25 := L.z25; have v25 := L.v25; have ae := L.ae; have ze := L.ze
  have FG := L.fm
  clear L S R hs hcm hO
  have g0 : ((m : Int) - (a : Int) == 1) = false := by rw [beq_eq_false_iff_ne]; omega
  have g1 : ((b : Int) - (m : Int) == 1) = false := by rw [beq_eq_false_iff_ne]; omega
  obtain ⟨mid, hmid⟩ : ∃ mid, mid = (a + b) / 2 := ⟨_, rfl⟩
  have hmid2 : ((a : Int) + (b : Int)) / 2 = ((mid : Nat) : Int) := by omega
  obtain ⟨n0, hn0⟩ : ∃ n0, n0 = mid + m := ⟨_, rfl⟩
  have hn2 : ((mid : Nat) : Int) + (m : Int) = ((n0 : Nat) : Int) := by omega
  obtain ⟨p, hp⟩ : ∃ p, p = n0 - 1 := ⟨_, rfl⟩
  have hp2 : ((n0 : Nat) : Int) - 1 = ((p : Nat) : Int) := by omega
  have hgt : decide (mid < m) = false := decide_eq_false (by omega)
  have Hs : Hid (m > mid ∧ a = mid + m - b ∧ m = mid ∨ m ≤ mid ∧ a = a ∧ m = m) := .inr (by omega)
  have hle : a ≤ m := by omega
  have hcp : m ≤ p + 1 := by omega
  have hlo : a ≤ a := by omega
  have hn0p : 1 ≤ n0 ∧ n0 < 9223372036854775807 := by omega
  have hbn : b ≤ n0 ∨ True := .inr trivial
  have Hmid := Lib.hid hmid
  have HN0 : Hid (n0 = mid + m) := hn0
  have HP : Hid (p = mid + m - 1) := by unfold Hid; omega
  clear hc hmid hn0 hp ih h1 h2 hbn 
  go_enter FG, Tryz.ntmps116
  go_wp2_with fail
  go_loopw [20, 21] (fun s t wr => ∃ (i j : Nat), s = .int .i64 i ∧ t = .int .i64 j ∧ a ≤ i ∧ i ≤ j ∧ j ≤ m ∧ Hid (i = a ∨ ltOf cf d[mid + m - 1 - (i - 1)]! d[i - 1]! = false) ∧ Hid (j = m ∨ ltOf cf d[mid + m - 1 - j]! d[j]! = true) ∧ Aside (SWK enc k w0 blk off d wr)) (fun s t _ => (intOf t).toNat - (intOf s).toNat)
  case atStart => exact ⟨a, m, rfl, rfl, Nat.le_refl _, by omega, Nat.le_refl _, .inl rfl, .inl rfl, S0⟩
  case round =>
    clear S0
    obtain ⟨i, j, rfl, rfl, hmi, hij, hjb, Hi, Hj, S1⟩ := hrel
    by_cases hlt : i < j
    · as_aux_lemma =>
        obtain ⟨h, hh⟩ : ∃ h, h = (i + j) / 2 := ⟨_, rfl⟩
        have hh2 : ((i : Int) + (j : Int)) / 2 = ((h : Nat) : Int) := by omega
        have hih : i ≤ h := by omega
        have hhj : h < j := by omega
        clear hh
        obtain ⟨pc, hpc⟩ : ∃ pc, pc = p - h := ⟨_, rfl⟩
        have hpc2 : ((p : Nat) : Int) - (h : Int) = ((pc : Nat) : Int) := by omega
        have hpc3 : pc < d.size := by have := HP.out; have := Hmid.out; have := Hs.out; omega
        have HPC : Hid (mid + m - 1 - h = pc) := by have := HP.out; unfold Hid; omega
        clear hpc
        cases hlv : ltOf cf d[pc]! d[h]! with
        | false =>
          have eax : ((pc : Nat) : Int).toNat = pc := by omega
          have pax : (0 : Int) ≤ ((pc : Nat) : Int) := by omega
          have bax : ((pc : Nat) : Int) < (d.size : Int) := by omega
          have rax : IntKind.i64.wrap ((pc : Nat) : Int) = ((pc : Nat) : Int) := by rw [IntKind.wrap_i64]; omega
          have eay : ((h : Nat) : Int).toNat = h := by omega
          have pay : (0 : Int) ≤ ((h : Nat) : Int) := by omega
          have bay : ((h : Nat) : Int) < (d.size : Int) := by omega
          have ray : IntKind.i64.wrap ((h : Nat) : Int) = ((h : Nat) : Int) := by rw [IntKind.wrap_i64]; omega
          obtain ⟨xv, hxv⟩ : ∃ v, v = d[pc]! := ⟨_, rfl⟩
          obtain ⟨yv, hyv⟩ : ∃ v, v = d[h]! := ⟨_, rfl⟩
          have lx := S1.out.ld HR.out HS.out P pc (by omega)
          have ly := S1.out.ld HR.out HS.out P h (by omega)
          rw [← hxv] at lx
          rw [← hyv] at ly
          have hcc : ∀ n os, Calls P g (#[.agg (enc xv).toArray, .agg (enc yv).toArray] ++ cb) (grow (wr.drewN n) os) fun e w' => e = .returned (.int .i64 (cf xv yv)) ∧ ∃ q os', w' = grow ((grow (wr.drewN n) os).drewN q) os' := HC.out.grown xv yv wr
          have hvv : ¬ cf xv yv < 0 := by rw [hxv, hyv]; exact of_decide_eq_false hlv
          have hdd : decide (cf xv yv < 0) = false := decide_eq_false hvv
          have HLV := Lib.hid hlv
          clear hlv hxv hyv hvv
          go_wp2_with fail
          go_quiet_grown (first | (go_at_fn g; refine Calls.grown_of (hcc _ _)))
          have S2 : Aside (SWK enc k w0 blk off d (grow (wr.drewN nq) osq)) := S1.out.grown nq osq
          clear lx ly hcc S1 eax pax bax rax eay pay bay ray
          generalize grow (wr.drewN nq) osq = w2 at S2 ⊢
          clear nq osq
          go_wp2
          go_roundw
          case rel => exact ⟨h + 1, j, by go_num, rfl, by omega, by omega, hjb, .inr (by rw [Nat.add_sub_cancel, HPC.out]; exact HLV.out), Hj, S2⟩
          case measure => simp [intOf]; omega
        | true =>
          have eax : ((pc : Nat) : Int).toNat = pc := by omega
          have pax : (0 : Int) ≤ ((pc : Nat) : Int) := by omega
          have bax : ((pc : Nat) : Int) < (d.size : Int) := by omega
          have rax : IntKind.i64.wrap ((pc : Nat) : Int) = ((pc : Nat) : Int) := by rw [IntKind.wrap_i64]; omega
          have eay : ((h : Nat) : Int).toNat = h := by omega
          have pay : (0 : Int) ≤ ((h : Nat) : Int) := by omega
          have bay : ((h : Nat) : Int) < (d.size : Int) := by omega
          have ray : IntKind.i64.wrap ((h : Nat) : Int) = ((h : Nat) : Int) := by rw [IntKind.wrap_i64]; omega
          obtain ⟨xv, hxv⟩ : ∃ v, v = d[pc]! := ⟨_, rfl⟩
          obtain ⟨yv, hyv⟩ : ∃ v, v = d[h]! := ⟨_, rfl⟩
          have lx := S1.out.ld HR.out HS.out P pc (by omega)
          have ly := S1.out.ld HR.out HS.out P h (by omega)
          rw [← hxv] at lx
          rw [← hyv] at ly
          have hcc : ∀ n os, Calls P g (#[.agg (enc xv).toArray, .agg (enc yv).toArray] ++ cb) (grow (wr.drewN n) os) fun e w' => e = .returned (.int .i64 (cf xv yv)) ∧ ∃ q os', w' = grow ((grow (wr.drewN n) os).drewN q) os' := HC.out.grown xv yv wr
          have hvv : cf xv yv < 0 := by rw [hxv, hyv]; exact of_decide_eq_true hlv
          have hdd : decide (cf xv yv < 0) = true := decide_eq_true hvv
          have HLV := Lib.hid hlv
          clear hlv hxv hyv hvv
          go_wp2_with fail
          go_quiet_grown (first | (go_at_fn g; refine Calls.grown_of (hcc _ _)))
          have S2 : Aside (SWK enc k w0 blk off d (grow (wr.drewN nq) osq)) := S1.out.grown nq osq
          clear lx ly hcc S1 eax pax bax rax eay pay bay ray
          generalize grow (wr.drewN nq) osq = w2 at S2 ⊢
          clear nq osq
          go_wp2
          go_roundw
          case rel => exact ⟨i, h, rfl, rfl, hmi, by omega, by omega, Hi, .inr (by rw [HPC.out]; exact HLV.out), S2⟩
          case measure => simp [intOf]; omega
    · obtain rfl : i = j := by omega
      clear hlt hij
      obtain ⟨en, hen⟩ : ∃ en, en = mid + m - i := ⟨_, rfl⟩
      have hen2 : ((n0 : Nat) : Int) - (i : Int) = ((en : Nat) : Int) := by have := HN0.out; omega
      have HH : Hid (∀ d1, Rot i m en d d1 → Halves (ltOf cf) a i mid en b d1) := fun d1 h => (halves_of HO.out H1.out H2.out (by omega) (by omega) Hmid.out (by have := Hs.out; omega) hmi hjb hen Hi.out Hj.out h).2.2.2.2
      have hall : a ≤ i ∧ i ≤ mid ∧ mid ≤ en ∧ en ≤ b ∧ i ≤ m ∧ m ≤ en ∧ a < mid ∧ mid < b := by have := Hmid.out; have := Hs.out; omega
      obtain ⟨o1, o2, o3, o4, o5, o6, o7, o8⟩ := hall
      have oen : Hid (en = mid + m - i) := hen
      clear hmi hjb hen Hi Hj
      go_upto_region 39 with fail
      go_cut [185] (fun s wx => TestLt i m m en s ∧ Aside (SWK enc k w0 blk off d wx))
      case first =>
        as_aux_lemma =>
          by_cases c1 : i < m
          · have q1 : decide (i < m) = true := decide_eq_true c1
            by_cases c2 : m < en
            · have q2 : decide (m < en) = true := decide_eq_true c2
              go_wp2_with fail
              go_meet
              exact ⟨TestLt.yes c1 c2, S1⟩
            · have q2 : decide (m < en) = false := decide_eq_false c2
              go_wp2_with fail
              go_meet
              exact ⟨TestLt.no (.inr c2), S1⟩
          · have q1 : decide (i < m) = false := decide_eq_false c1
            go_wp2_with fail
            go_meet
            exact ⟨TestLt.no (.inl c1), S1⟩
      case rest =>
        clear S1
        obtain ⟨ht, S1⟩ := hcut
        obtain ⟨t, rfl, ht1, ht2⟩ := ht
        obtain ⟨wt, rfl⟩ : ∃ wt : World, wt = wc := ⟨_, rfl⟩
        go_upto_if 185 with fail
        go_cut [] (fun wx => ∃ d1 : Array α, Hid (Rot i m en d d1) ∧ Aside (SWK enc k w0 blk off d1 wx))
        case first =>
          cases t with
          | true =>
            as_aux_lemma =>
              obtain ⟨c1, c2⟩ := ht1 rfl
              have hR := HRO.out i m en wt S1.out c1 c2 o4
              go_wp2_with (go_at_call 123; refine hR.mono ?_; rintro e w' ⟨rfl, d1, h1, h2⟩)
              go_meet
              exact ⟨d1, h1, h2⟩
          | false =>
            as_aux_lemma =>
              have c12 := ht2 rfl
              go_wp2_with fail
              go_meet
              exact ⟨d, Rot.none (by omega) o5 o6, S1⟩
        case rest =>
          obtain ⟨d1, HR1, S2⟩ := hcut
          have HH1 := Lib.hid (HH.out d1 HR1.out)
          have HZ1 : Hid (d1.size = d.size) := HR1.out.size
          have HP1 : Hid (PermIn i en d d1) := HR1.out.perm
          clear S1 HH HR1 HRO ht1 ht2
          go_upto_region 41 with fail
          go_cut [199] (fun s wx => TestLt a i i mid s ∧ Aside (SWK enc k w0 blk off d1 wx))
          case first =>
            as_aux_lemma =>
              by_cases c1 : a < i
              · have q1 : decide (a < i) = true := decide_eq_true c1
                by_cases c2 : i < mid
                · have q2 : decide (i < mid) = true := decide_eq_true c2
                  go_wp2_with fail
                  go_meet
                  exact ⟨TestLt.yes c1 c2, S2⟩
                · have q2 : decide (i < mid) = false := decide_eq_false c2
                  go_wp2_with fail
                  go_meet
                  exact ⟨TestLt.no (.inr c2), S2⟩
              · have q1 : decide (a < i) = false := decide_eq_false c1
                go_wp2_with fail
                go_meet
                exact ⟨TestLt.no (.inl c1), S2⟩
          case rest =>
            clear S2
            obtain ⟨ht, S2⟩ := hcut
            obtain ⟨t, rfl, ht1, ht2⟩ := ht
            obtain ⟨wt, rfl⟩ : ∃ wt : World, wt = wc := ⟨_, rfl⟩
            go_upto_if 199 with fail
            go_cut [] (fun wx => ∃ d2 : Array α, Hid (PermIn a mid d1 d2) ∧ Hid (SortedIn (ltOf cf) a mid d2) ∧ Aside (SWK enc k w0 blk off d2 wx))
            case first =>
              cases t with
              | true =>
                as_aux_lemma =>
                  obtain ⟨c1, c2⟩ := ht1 rfl
                  have hR := IH.out a i mid d1 wt (by have := Hmid.out; omega) HZ1.out S2.out c1 c2 (by omega) HH1.out.s1 HH1.out.s2
                  go_wp2_with (go_at_call 116; refine hR.mono ?_; rintro e w' ⟨rfl, d2, h1, h2, h3⟩)
                  go_meet
                  exact ⟨d2, h1, h2, h3⟩
              | false =>
                as_aux_lemma =>
                  have c12 := ht2 rfl
                  go_wp2_with fail
                  go_meet
                  exact ⟨d1, permIn_refl _ _ _, by
                    have h1 := HH1.out.s1
                    have h2 := HH1.out.s2
                    rcases (by omega : i = a ∨ i = mid) with e | e
                    · rwa [e] at h2
                    · rwa [e] at h1, S2⟩
            case rest =>
              obtain ⟨d2, HP2, HS2, S3⟩ := hcut
              have HZ2 : Hid (d2.size = d.size) := HP2.out.1.trans HZ1.out
              have t3 : Hid (SortedIn (ltOf cf) mid en d2) := sorted_congr HH1.out.s3 (fun x k1 _ => HP2.out.2.1 x (.inr k1))
              have t4 : Hid (SortedIn (ltOf cf) en b d2) := sorted_congr HH1.out.s4 (fun x k1 _ => HP2.out.2.1 x (.inr (by omega)))
              have HF : Hid (∀ d3, PermIn mid b d2 d3 → SortedIn (ltOf cf) mid b d3 → PermIn a b d d3 ∧ SortedIn (ltOf cf) a b d3) := fun d3 g1 g2 => by
                have h := sorted_halves (d := d1) (by omega) (by omega) (by rw [HZ1.out]; exact hb) HH1.out.cross HP2.out HS2.out g1 g2
                exact ⟨permIn_trans _ _ _ _ _ (permIn_mono _ _ i en a b o1 o4 hb HP1.out) h.1, h.2⟩
              clear S2 ht1 ht2
              go_upto_region 43 with fail
              go_cut [213] (fun s wx => TestLt mid en en b s ∧ Aside (SWK enc k w0 blk off d2 wx))
              case first =>
                as_aux_lemma =>
                  by_cases c1 : mid < en
                  · have q1 : decide (mid < en) = true := decide_eq_true c1
                    by_cases c2 : en < b
                    · have q2 : decide (en < b) = true := decide_eq_true c2
                      go_wp2_with fail
                      go_meet
                      exact ⟨TestLt.yes c1 c2, S3⟩
                    · have q2 : decide (en < b) = false := decide_eq_false c2
                      go_wp2_with fail
                      go_meet
                      exact ⟨TestLt.no (.inr c2), S3⟩
                  · have q1 : decide (mid < en) = false := decide_eq_false c1
                    go_wp2_with fail
                    go_meet
                    exact ⟨TestLt.no (.inl c1), S3⟩
              case rest =>
                clear S3
                obtain ⟨ht, S3⟩ := hcut
                obtain ⟨t, rfl, ht1, ht2⟩ := ht
                obtain ⟨wt, rfl⟩ : ∃ wt : World, wt = wc := ⟨_, rfl⟩
                go_upto_if 213 with fail
                cases t with
                | true =>
                  as_aux_lemma =>
                    obtain ⟨c1, c2⟩ := ht1 rfl
                    have hR := IH.out mid en b d2 wt (by have := Hmid.out; omega) HZ2.out S3.out c1 c2 hb t3.out t4.out
                    go_wp2_with (go_at_call 116; refine hR.mono ?_; rintro e w' ⟨rfl, d3, h1, h2, h3⟩)
                    go_end0
                    have h := HF.out d3 h1 h2
                    exact ⟨rfl, d3, h.1, h.2, h3⟩
                | false =>
                  as_aux_lemma =>
                    have c12 := ht2 rfl
                    have HS3 : Hid (SortedIn (ltOf cf) mid b d2) := by
                      have h1 := t3.out
                      have h2 := t4.out
                      rcases (by omega : en = mid ∨ en = b) with e | e
                      · rwa [e] at h2
                      · rwa [e] at h1
                    go_wp2_with fail
                    go_end0
                    have h := HF.out d2 (permIn_refl _ _ _) HS3.out
                    exact ⟨rfl, d2, h.1, h.2, S3.out⟩

theorem symMergeM (L : StbM P k) {enc : α → List Value} {cf : α → α → Int} (hO : SWO (ltOf cf)) {g : Nat} {cb : Array Value} {blk off cap : Nat} {d0 : Array α} {w0 : World}
    (eg : ∀ args w, (callFunc g args).run P w = .ok (.enter g args) w) (hcm : CmpAny P g cb enc cf) (R : RowK enc k w0 blk off d0) (hsz : d0.size < 4611686018427387904) :
    ∀ (n a m b : Nat) (d : Array α) (w : World), b - a ≤ n → d.size = d0.size → SWK enc k w0 blk off d w → a < m → m < b → b ≤ d0.size → SortedIn (ltOf cf) a m d → SortedIn (ltOf cf) m b d →
    Calls P 116 #[.slice (some ⟨blk, off, none⟩) d0.size cap, .int .i64 a, .int .i64 m, .int .i64 b, .func (.func g) #[] cb] w fun e w' =>
      e = .returned (.tuple #[]) ∧ ∃ d', PermIn a b d d' ∧ SortedIn (ltOf cf) a b d' ∧ SWK enc k w0 blk off d' w' := by
  intro n
  induction n with
  | zero => intro a m b d w hn; intros; omega
  | succ n ih =>
    intro a m b d w hn hs S ham hmb hb h1 h2
    rw [← hs] at hb hsz ⊢
    by_cases hm : m = a + 1
    · exact symMergeM1 L hO eg hcm R hs S hm hmb h2 hb hsz
    by_cases hm2 : b = m + 1
    · exact symMergeM2 L hO eg hcm R hs S (by omega) hm2 h1 hb hsz
    have ih' : ∀ (x y z : Nat) (dk : Array α) (W : World), z - x < b - a → dk.size = d.size → SWK enc k w0 blk off dk W → x < y → y < z → z ≤ d.size → SortedIn (ltOf cf) x y dk → SortedIn (ltOf cf) y z dk →
        Calls P 116 #[.slice (some ⟨blk, off, none⟩) d.size cap, .int .i64 x, .int .i64 y, .int .i64 z, .func (.func g) #[] cb] W fun e w' => e = .returned (.tuple #[]) ∧ ∃ d', PermIn x z dk d' ∧ SortedIn (ltOf cf) x z d' ∧ SWK enc k w0 blk off d' w' :=
      fun x y z dk W g1 g2 g3 g4 g5 g6 g7 g8 => by
        rw [hs] at g6 g2 ⊢
        exact ih x y z dk W (by omega) g2 g3 g4 g5 g6 g7 g8
    by_cases hc : (a + b) / 2 < m
    · exact symMergeM3 L hO eg hcm R hs S (by omega) (by omega) hc h1 h2 ih' hb hsz
    · exact symMergeM4 L hO eg hcm R hs S (by omega) (by omega) (by omega) h1 h2 ih' hb hsz
end Go.Proofs.YtpmndblakmobdaaGreatDoor
/- StbM5 -/
namespace Go.Proofs.YtpmndblakmobdaaGreatDoor
open Go Go.RowKit Go.Lib Go.Sort Go.Proofs
variable {P : Program} {k : Nat} {α : Type} [Inhabited α]

set_option maxHeartbeats 4000000 in
set_option maxRecDepth 1000000 in
theorem stableM (L : StbM P k) {enc : α → List Value} {cf : α → α → Int} (hO : SWO (ltOf cf)) {g : Nat} {cb : Array Value} {blk off cap n : Nat} {d : Array α} {w : World}
    (eg : ∀ args w, (callFunc g args).run P w = .ok (.enter g args) w) (hcm : CmpAny P g cb enc cf) (R : RowK enc k w blk off d) (hn : d.size = n) (hsz : n < 1152921504606846976) :
    Calls P 100 #[.slice (some ⟨blk, off, none⟩) n cap, .int .i64 n, .func (.func g) #[] cb] w fun e w' =>
      e = .returned (.tuple #[]) ∧ ∃ d', PermIn 0 n d d' ∧ SortedIn (ltOf cf) 0 n d' ∧ SWK enc k w blk off d' w' := by
  have HI : Aside (∀ (a b : Nat) (dk : Array α) (W : World), dk.size = n → SWK enc k w blk off dk W → a ≤ b → b ≤ n →
      Calls P 115 #[.slice (some ⟨blk, off, none⟩) n cap, .int .i64 a, .int .i64 b, .func (.func g) #[] cb] W fun e w' =>
        e = .returned (.tuple #[]) ∧ ∃ d', PermIn a b dk d' ∧ SortedIn (ltOf cf) a b d' ∧ SWK enc k w blk off d' w') := fun a b dk W h1 h2 h3 h4 => by
    have := insertM L hO (cap := cap) eg hcm R (h1.trans hn.symm) h2 h3 (by omega) (by omega)
    rw [h1] at this
    exact this
  have HM : Aside (∀ (a m b : Nat) (dk : Array α) (W : World), dk.size = n → SWK enc k w blk off dk W → a < m → m < b → b ≤ n → SortedIn (ltOf cf) a m dk → SortedIn (ltOf cf) m b dk →
      Calls P 116 #[.slice (some ⟨blk, off, none⟩) n cap, .int .i64 a, .int .i64 m, .int .i64 b, .func (.func g) #[] cb] W fun e w' =>
        e = .returned (.tuple #[]) ∧ ∃ d', PermIn a b dk d' ∧ SortedIn (ltOf cf) a b d' ∧ SWK enc k w blk off d' w') := fun a m b dk W h1 h2 h3 h4 h5 h6 h7 => by
    have := symMergeM L hO (cap := cap) eg hcm R (by omega) (b - a) a m b dk W (Nat.le_refl _) (h1.trans hn.symm) h2 h3 h4 (by omega) h6 h7
    rw [hn] at this
    exact this
  have S0 : Aside (SWK enc k w blk off d w) := SWK.start R.hH
  have HN := Lib.hid hn
  have mixed := L.mixed; have t0 := L.t0; have a0 := L.a0; have z0 := L.z0; have v0 := L.v0; have t3 := L.t3; have a3 := L.a3; have z3 := L.z3; have v3 := L.v3; have t4 := L.t4; have a4 := L.a4; have z4 := L.z4; have v4 := L.v4; have t5 := L.t5; have a5 := L.a5; have z5 := L.z5; have v5 := L.v5; have t22 := L.t22; have a22 := L.a22; have z22 := L.z22; have v22 := L.v22; have t25 := L.t25; have a25 := L.a25; have z25 := L.z25; have v25 := L.v25; have ae := L.ae; have ze := L.ze
  have e41 : ∀ args w, (callFunc 115 args).run P w = .ok (.enter 115 args) w := enters_of L.fi (by kernel_rfl) rfl
  have e42 : ∀ args w, (callFunc 116 args).run P w = .ok (.enter 116 args) w := enters_of L.fm (by kernel_rfl) rfl
  have FG := L.fs
  clear L R hcm hO hn
  go_enter FG, Tryz.ntmps100
  go_wp2_with fail
  go_loopw [7, 8] (fun s7 s8 wr => ∃ (t a c : Nat) (dk : Array α), s7 = .int .i64 a ∧ s8 = .int .i64 c ∧ Hid (a = t * 20) ∧ Hid (c = a + 20) ∧ a ≤ n ∧ Hid (RunsTo (ltOf cf) 20 n t dk) ∧ Hid (PermIn 0 n d dk) ∧ Aside (SWK enc k w blk off dk wr)) (fun s7 _ _ => n - (intOf s7).toNat)
  case atStart => exact ⟨0, 0, 20, d, rfl, rfl, rfl, rfl, Nat.zero_le _, fun q hq => absurd hq (Nat.not_lt_zero q), permIn_refl _ _ _, S0⟩
  case round =>
    clear S0
    obtain ⟨t, a, c, dk, rfl, rfl, ha, hc, han, HR, HP, S1⟩ := hrel
    have hac : a < c := by have := hc.out; omega
    have hzk : Hid (dk.size = n) := HP.out.1.trans HN.out
    by_cases hlt : c ≤ n
    · have hI := HI.out a c dk wr hzk.out S1.out (by omega) hlt
      have hd : decide (c ≤ n) = true := decide_eq_true hlt
      have HX : Hid (∀ d', PermIn a c dk d' → SortedIn (ltOf cf) a c d' → RunsTo (ltOf cf) 20 n (t + 1) d' ∧ PermIn 0 n d d') := fun d' h1 h2 => by
        have e1 := ha.out; have e2 := hc.out; subst e2; subst e1
        exact ⟨HR.out.push hlt h1 h2, permIn_trans _ _ _ _ _ HP.out (permIn_mono _ _ _ _ 0 n (Nat.zero_le _) hlt (by rw [hzk.out]; exact Nat.le_refl _) h1)⟩
      go_wp2_with (go_at_call 115; refine hI.mono ?_; rintro e w' ⟨rfl, d', h1, h2, h3⟩)
      go_roundw
      case rel => exact ⟨t + 1, c, c + 20, d', by go_num, by go_num, by have h1 := hc.out; have h2 := ha.out; unfold Hid; omega, rfl, hlt, (HX.out d' h1 h2).1, (HX.out d' h1 h2).2, h3⟩
      case measure => simp [intOf]; omega
    · have hI := HI.out a n dk wr hzk.out S1.out han (Nat.le_refl _)
      have hd : decide (c ≤ n) = false := decide_eq_false hlt
      have HX : Hid (∀ d', PermIn a n dk d' → SortedIn (ltOf cf) a n d' → Runs (ltOf cf) 20 n 0 d' ∧ PermIn 0 n d d') := fun d' h1 h2 => by
        have e1 := ha.out; have e2 := hc.out; subst e2; subst e1
        exact ⟨HR.out.close (by omega) han h1 h2, permIn_trans _ _ _ _ _ HP.out (permIn_mono _ _ _ _ 0 n (Nat.zero_le _) (Nat.le_refl _) (by rw [hzk.out]; exact Nat.le_refl _) h1)⟩
      go_wp2_with (go_at_call 115; refine hI.mono ?_; rintro e w' ⟨rfl, d', h1, h2, h3⟩)
      have HX2 := Lib.hid (HX.out d' h1 h2)
      have S2 : Aside (SWK enc k w blk off d' w') := h3
      clear h1 h2 h3 HX hI S1 HR HP hzk hd hlt hac ha hc han
      go_loopw [6] (fun s6 wr => ∃ (s : Nat) (dk : Array α), s6 = .int .i64 s ∧ 1 ≤ s ∧ s < 2305843009213693952 ∧ Hid (Runs (ltOf cf) s n 0 dk) ∧ Hid (PermIn 0 n d dk) ∧ Aside (SWK enc k w blk off dk wr)) (fun s6 _ => n - (intOf s6).toNat)
      case atStart => exact ⟨20, d', rfl, by omega, by omega, HX2.out.1, HX2.out.2, S2⟩
      case round =>
        clear S2
        obtain ⟨s, dk, rfl, hs1, hs2, HR, HP, S1⟩ := hrel
        by_cases hlt : s < n
        · have hd : decide (s < n) = true := decide_eq_true hlt
          obtain ⟨s2, hs3⟩ : ∃ s2, s2 = 2 * s := ⟨_, rfl⟩
          have m1 : (2 : Int) * (s : Int) = ((s2 : Nat) : Int) := by omega
          have m2 : (s : Int) * 2 = ((s2 : Nat) : Int) := by omega
          have HS2 := Lib.hid hs3
          have hs4 : s2 < 2305843009213693952 := by omega
          clear hs3
          go_wp2_with fail
          obtain ⟨wo, rfl⟩ : ∃ wo : World, wo = wr := ⟨_, rfl⟩
          go_loopw [7, 8] (fun s7 s8 wr => ∃ (t a c : Nat) (dk : Array α), s7 = .int .i64 a ∧ s8 = .int .i64 c ∧ Hid (a = t * s2) ∧ Hid (c = a + s2) ∧ a ≤ n ∧ Hid (RunsTo (ltOf cf) s2 n t dk) ∧ Hid (Runs (ltOf cf) s n (2 * t) dk) ∧ Hid (PermIn 0 n d dk) ∧ Aside (SWK enc k w blk off dk wr)) (fun s7 _ _ => n - (intOf s7).toNat)
          case atStart => exact ⟨0, 0, s2, dk, rfl, rfl, by unfold Hid; omega, by unfold Hid; omega, Nat.zero_le _, fun q hq => absurd hq (Nat.not_lt_zero q), HR, HP, S1⟩
          case round =>
            clear HR HP S1
            obtain ⟨t, a, c, dk, rfl, rfl, ha, hc, han, HT, HR, HP, S1⟩ := hrel
            have hac : a < c := by have := hc.out; have := HS2.out; omega
            have hzk : Hid (dk.size = n) := HP.out.1.trans HN.out
            obtain ⟨m, hm⟩ : ∃ m, m = a + s := ⟨_, rfl⟩
            have hm2 : (a : Int) + (s : Int) = ((m : Nat) : Int) := by omega
            have hmc : m < c ∧ a < m := by have := hc.out; have := HS2.out; omega
            have HMM := Lib.hid hm
            clear hm
            by_cases hcn : c ≤ n
            · have hd2 : decide (c ≤ n) = true := decide_eq_true hcn
              have h12 : Hid (SortedIn (ltOf cf) a m dk ∧ SortedIn (ltOf cf) m c dk) := by
                have e1 := ha.out; have e2 := hc.out; have e3 := HS2.out; have e4 := HMM.out; subst e4; subst e2; subst e3; subst e1
                exact HR.out.two hcn
              have hM := HM.out a m c dk wr hzk.out S1.out hmc.2 hmc.1 hcn h12.out.1 h12.out.2
              have HX : Hid (∀ d', PermIn a c dk d' → SortedIn (ltOf cf) a c d' → RunsTo (ltOf cf) s2 n (t + 1) d' ∧ Runs (ltOf cf) s n (2 * (t + 1)) d' ∧ PermIn 0 n d d') := fun d' h1 h2 => by
                have e1 := ha.out; have e2 := hc.out; subst e2; subst e1
                refine ⟨HT.out.push hcn h1 h2, HR.out.later (by omega) h1 ?_, permIn_trans _ _ _ _ _ HP.out (permIn_mono _ _ _ _ 0 n (Nat.zero_le _) hcn (by rw [hzk.out]; exact Nat.le_refl _) h1)⟩
                have e3 := HS2.out
                subst e3
                rw [Nat.mul_comm 2 (t + 1), Nat.mul_assoc, Nat.add_mul, Nat.one_mul]
                exact Nat.le_refl _
              go_wp2_with (go_at_call 116; refine hM.mono ?_; rintro e w' ⟨rfl, d', h1, h2, h3⟩)
              go_roundw
              case rel => exact ⟨t + 1, c, c + s2, d', rfl, by go_num, by unfold Hid; rw [hc.out, ha.out, Nat.add_mul, Nat.one_mul], rfl, hcn, (HX.out d' h1 h2).1, (HX.out d' h1 h2).2.1, (HX.out d' h1 h2).2.2, h3⟩
              case measure => simp [intOf]; omega
            · have hd2 : decide (c ≤ n) = false := decide_eq_false hcn
              by_cases hmn : m < n
              · have hd3 : decide (m < n) = true := decide_eq_true hmn
                have h12 : Hid (SortedIn (ltOf cf) a m dk ∧ SortedIn (ltOf cf) m n dk) := by
                  have e1 := ha.out; have e2 := hc.out; have e3 := HS2.out; have e4 := HMM.out; subst e4; subst e2; subst e3; subst e1
                  exact HR.out.rest hmn (by omega)
                have hM := HM.out a m n dk wr hzk.out S1.out hmc.2 hmn (Nat.le_refl _) h12.out.1 h12.out.2
                have HX : Hid (∀ d', PermIn a n dk d' → SortedIn (ltOf cf) a n d' → Runs (ltOf cf) s2 n 0 d' ∧ PermIn 0 n d d') := fun d' h1 h2 => by
                  have e1 := ha.out; have e2 := hc.out; subst e2; subst e1
                  exact ⟨HT.out.close (by omega) han h1 h2, permIn_trans _ _ _ _ _ HP.out (permIn_mono _ _ _ _ 0 n (Nat.zero_le _) (Nat.le_refl _) (by rw [hzk.out]; exact Nat.le_refl _) h1)⟩
                go_wp2_with (go_at_call 116; refine hM.mono ?_; rintro e w' ⟨rfl, d', h1, h2, h3⟩)
                go_roundw
                case rel => exact ⟨s2, d', rfl, by have := HS2.out; omega, hs4, (HX.out d' h1 h2).1, (HX.out d' h1 h2).2, h3⟩
                case measure => have := HS2.out; simp [intOf]; omega
              · have hd3 : decide (m < n) = false := decide_eq_false hmn
                have HX : Hid (Runs (ltOf cf) s2 n 0 dk) := by
                  have e1 := ha.out; have e2 := hc.out; have e3 := HS2.out; have e4 := HMM.out; subst e4; subst e2; subst e3; subst e1
                  exact HT.out.close (by omega) han (permIn_refl _ _ _) (HR.out.one (by omega))
                go_wp2_with fail
                go_roundw
                case rel => exact ⟨s2, dk, rfl, by have := HS2.out; omega, hs4, HX, HP, S1⟩
                case measure => have := HS2.out; simp [intOf]; omega
        · have hd : decide (s < n) = false := decide_eq_false hlt
          go_wp2_with fail
          go_end0
          exact ⟨rfl, dk, HP.out, HR.out.all (by omega), S1.out⟩

set_option maxHeartbeats 1000000 in
theorem sortStableM (L : StbM P k) {enc : α → List Value} {cf : α → α → Int} (hO : SWO (ltOf cf)) {g : Nat} {cb : Array Value} {blk off cap n : Nat} {d : Array α} {w : World}
    (eg : ∀ args w, (callFunc g args).run P w = .ok (.enter g args) w) (hcm : CmpAny P g cb enc cf) (R : RowK enc k w blk off d) (hn : d.size = n) (hsz : n < 1152921504606846976) :
    Calls P 78 #[.slice (some ⟨blk, off, none⟩) n cap, .func (.func g) #[] cb] w fun e w' =>
      e = .returned (.tuple #[]) ∧ ∃ d', PermIn 0 n d d' ∧ SortedIn (ltOf cf) 0 n d' ∧ SWK enc k w blk off d' w' := by
  have HC := Lib.hid (stableM L hO (cap := cap) eg hcm R hn hsz)
  have mixed := L.mixed; have t0 := L.t0; have a0 := L.a0; have z0 := L.z0; have v0 := L.v0; have t3 := L.t3; have a3 := L.a3; have z3 := L.z3; have v3 := L.v3; have t4 := L.t4; have a4 := L.a4; have z4 := L.z4; have v4 := L.v4; have t5 := L.t5; have a5 := L.a5; have z5 := L.z5; have v5 := L.v5; have t22 := L.t22; have a22 := L.a22; have z22 := L.z22; have v22 := L.v22; have t25 := L.t25; have a25 := L.a25; have z25 := L.z25; have v25 := L.v25; have ae := L.ae; have ze := L.ze
  have e40 : ∀ args w, (callFunc 100 args).run P w = .ok (.enter 100 args) w := enters_of L.fs (by kernel_rfl) rfl
  have FG := L.ft
  clear L R hcm hO hn
  go_enter FG, Tryz.ntmps78
  go_wp2_with (go_at_call 100; refine HC.out.mono ?_; rintro e w' ⟨rfl, d', h1, h2, h3⟩)
  go_end0
  exact ⟨rfl, d', h1, h2, h3⟩
end Go.Proofs.YtpmndblakmobdaaGreatDoor
