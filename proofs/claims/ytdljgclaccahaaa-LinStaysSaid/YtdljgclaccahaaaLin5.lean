/-
  lin.Value and the reference's.
-/
import Derived.Test.YtdljgclaccahaaaLin4
import Derived.Test.YtdljgclaccahaaaLinLaw
import Derived.Test.YtdljgclaccahaaaFind
namespace Go.Proofs.Ytdljgclaccahaaa
open Go Go.RowKit

/-- A variable's value by a list. -/
def valOf (vs : List Int) (v : Int) : Int := if v < (vs.length : Int) then vs.getD v.toNat 0 else 0
/-- Is a value too great? -/
def farB (x : Int) : Bool := decide (x < -16777216) || decide (16777216 < x)
def farAny (vs : List Int) (t : List Mono) : Bool := t.any fun m => farB (valOf vs m.1)
/-- What the value is, and what is amiss. -/
def linVal (c : Int) (t : List Mono) (vs : List Int) : Int × Int := if linB c t = true then (if farAny vs t = true then (0, 1) else (c + val (valOf vs) t, 0)) else (0, 5)

theorem mul_bound {a b : Int} (h1 : -1073741824 ≤ a) (h2 : a ≤ 1073741824) (h3 : -16777216 ≤ b) (h4 : b ≤ 16777216) : -18014398509481984 ≤ a * b ∧ a * b ≤ 18014398509481984 := by
  have h : (a * b).natAbs ≤ 1073741824 * 16777216 := by
    rw [Int.natAbs_mul]
    exact Nat.mul_le_mul (by omega) (by omega)
  omega
theorem farB_no {x : Int} (h : farB x = false) : -16777216 ≤ x ∧ x ≤ 16777216 := by
  unfold farB at h
  rw [Bool.or_eq_false_iff, decide_eq_false_iff_not, decide_eq_false_iff_not] at h
  omega
theorem val_bound {f : Int → Int} : ∀ {t : List Mono}, (∀ m ∈ t, (-1073741824 ≤ m.2 ∧ m.2 ≤ 1073741824) ∧ farB (f m.1) = false) → -(18014398509481984 * (t.length : Int)) ≤ val f t ∧ val f t ≤ 18014398509481984 * (t.length : Int)
  | [], _ => by simp [val_nil]
  | m :: t, h => by
    have h1 := val_bound (t := t) (fun x hx => h x (List.mem_cons_of_mem _ hx))
    obtain ⟨⟨h2, h3⟩, h4⟩ := h m List.mem_cons_self
    have h5 := farB_no h4
    have h6 := mul_bound h2 h3 h5.1 h5.2
    rw [val_cons, List.length_cons]
    omega
theorem val_take {f : Int → Int} {t : List Mono} {k : Nat} (h : k < t.length) : val f (t.take (k + 1)) = val f (t.take k) + t[k].2 * f t[k].1 := by
  rw [List.take_succ_eq_append_getElem h, val_append, val_cons, val_nil]
  omega
theorem valOf_in {vs : List Int} {n : Nat} (h : n < vs.length) : valOf vs (n : Int) = vs[n] := by
  unfold valOf
  rw [if_pos (by omega)]
  simp [List.getD, h]
theorem valOf_out {vs : List Int} {n : Nat} (h : ¬ n < vs.length) : valOf vs (n : Int) = 0 := by
  unfold valOf
  rw [if_neg (by omega)]
theorem farAny_bad {vs : List Int} {t : List Mono} (k : Nat) (hk : k < t.length) (h : farB (valOf vs t[k].1) = true) : farAny vs t = true := by
  unfold farAny
  rw [List.any_eq_true]
  exact ⟨_, List.getElem_mem hk, h⟩
theorem farAny_good {vs : List Int} {t : List Mono} (h : ∀ i (hi : i < t.length), farB (valOf vs t[i].1) = false) : farAny vs t = false := by
  unfold farAny
  rw [List.any_eq_false]
  intro m hm
  obtain ⟨i, hi, rfl⟩ := List.getElem_of_mem hm
  rw [h i hi]
  decide

set_option maxHeartbeats 400000 in
theorem ref01Of_any {R : Nat → Prop} {w : World} {A : Option Addr} {vs : List Int} {cap : Nat} (hv : Ints R w A vs cap) (n : Nat) (hn : n < 9000000000000000000) :
    Calls Try.prog 30 #[.slice A vs.length cap, .int .i64 n] w fun e w' => e = .returned (.int .i64 (valOf vs n)) ∧ w = w' := by
  have hb := hv.big
  unfold big at hb
  by_cases h : n < vs.length
  · rw [valOf_in h]
    obtain ⟨b, o, rfl, hx⟩ := hv.int_at n h
    have i0 : (0 : Int) ≤ (n : Int) := by omega
    have hd : decide (n < vs.length) = true := decide_eq_true h
    generalize vs[n] = x at *
    clear hv
    go_enter Try.func30, Try.ntmps30
    go_wp2
    go_ret
    exact ⟨rfl, rfl⟩
  · rw [valOf_out h]
    have hd : decide (n < vs.length) = false := decide_eq_false h
    clear hv
    go_enter Try.func30, Try.ntmps30
    go_wp2
    go_ret
    exact ⟨rfl, rfl⟩

/-- The value when all is sound, by the way that the loops take. -/
structure ValWay (c : Int) (t : List Mono) (vs : List Int) (r : Int × Int) : Prop where
  len : t.length ≤ 64
  c1 : -1073741824 ≤ c
  c2 : c ≤ 1073741824
  var : ∀ i (hi : i < t.length), ∃ n : Nat, t[i].1 = (n : Int) ∧ n < 1048576
  k1 : ∀ i (hi : i < t.length), -1073741824 ≤ t[i].2 ∧ t[i].2 ≤ 1073741824
  bad : ∀ i (hi : i < t.length), farB (valOf vs t[i].1) = true → r = (0, 1)
  good : (∀ i (hi : i < t.length), farB (valOf vs t[i].1) = false) → r = (c + val (valOf vs) (t.take t.length), 0)
theorem valWay {c : Int} {t : List Mono} {vs : List Int} (h : linB c t = true) : ValWay c t vs (linVal c t vs) := by
  have hs := linB_sound h
  refine ⟨hs.2.1, (coefB_le hs.1).1, (coefB_le hs.1).2, fun i hi => ?_, fun i hi => coefB_le (hs.2.2 i hi).2.1, fun i hi hf => ?_, fun hf => ?_⟩
  · have := varB_le (hs.2.2 i hi).1
    exact ⟨t[i].1.toNat, by omega, by omega⟩
  · unfold linVal; rw [if_pos h, if_pos (farAny_bad i hi hf)]
  · unfold linVal; rw [if_pos h, if_neg (by rw [farAny_good hf]; decide), List.take_of_length_le (Nat.le_refl _)]

theorem farB_cases (x : Int) : (farB x = true ∧ decide (x < -16777216) = true) ∨ (farB x = true ∧ decide (x < -16777216) = false ∧ decide (16777216 < x) = true) ∨ (farB x = false ∧ decide (x < -16777216) = false ∧ decide (16777216 < x) = false ∧ -16777216 ≤ x ∧ x ≤ 16777216) := by
  unfold farB
  by_cases h1 : x < -16777216 <;> by_cases h2 : 16777216 < x <;> simp [h1, h2] <;> omega

/-- A partial sum. -/
theorem part_bound {c : Int} {t : List Mono} {vs : List Int} {r : Int × Int} (V : ValWay c t vs r) {k : Nat} (hk : k ≤ t.length) (hg : ∀ i (hi : i < t.length), i < k → farB (valOf vs t[i].1) = false) :
    -1170000000000000000 ≤ c + val (valOf vs) (t.take k) ∧ c + val (valOf vs) (t.take k) ≤ 1170000000000000000 := by
  have h := val_bound (f := valOf vs) (t := t.take k) (fun m hm => by
    obtain ⟨i, hi, rfl⟩ := List.getElem_of_mem hm
    rw [List.length_take] at hi
    rw [List.getElem_take]
    exact ⟨V.k1 i (by omega), hg i (by omega) (by omega)⟩)
  have hl : (t.take k).length ≤ 64 := by rw [List.length_take]; have := V.len; omega
  have := V.c1
  have := V.c2
  omega

set_option maxRecDepth 100000 in
set_option maxHeartbeats 2000000 in
theorem linValue_any {R R' : Nat → Prop} {w : World} {A A' : Option Addr} (c : Int) {t : List Mono} {vs : List Int} {cap cap' : Nat} (ht : Monos R w A t cap) (hv : Ints R' w A' vs cap') :
    Calls Try.prog 14 #[.agg #[.int .i64 c, .slice A t.length cap], .slice A' vs.length cap'] w fun e w' => e = .returned (.tuple #[.int .i64 (linVal c t vs).1, errV 43 (linVal c t vs).2]) ∧ Chg No w w' := by
  have HT := Lib.hid (fun W (h : Chg No w W) => ht.no monoE_good h)
  have HV := Lib.hid (fun W (h : Chg No w W) => hv.no intE_good h)
  have HC := Lib.hid (fun W (h : Chg No w W) => linCheck_any c (ht.no monoE_good h))
  have hb := ht.big
  have hb' := hv.big
  unfold big at hb hb'
  clear ht hv
  cases hB : linB c t
  · rw [hB] at HC
    rw [show (if false = true then (0 : Int) else 5) = 5 from rfl, errV_of _ (by decide)] at HC
    rw [show linVal c t vs = (0, 5) by unfold linVal; rw [hB]; rfl]
    simp only
    rw [errV_of _ (by decide)]
    clear hB
    go_enter Try.func14, Try.ntmps14
    go_wp2_with (go_at_call 17; refine (HC.out _ ((Chg.refl _ _).alloc _)).mono ?_; rintro e w1 ⟨rfl, h1⟩)
    go_ret2
    exact ⟨rfl, ((Chg.refl _ _).alloc _).thenNo h1⟩
  · rw [hB] at HC
    rw [show (if true = true then (0 : Int) else 5) = 0 from rfl, errV_zero] at HC
    have V := Lib.hid (valWay (vs := vs) hB)
    generalize linVal c t vs = r at *
    clear hB
    have hcw : Hid (Chg No w (w.alloc (.cells #[.int .i64 c, .slice A t.length cap] 25))) := (Chg.refl _ _).alloc _
    have hbx : Hid ((w.alloc (.cells #[.int .i64 c, .slice A t.length cap] 25)).cell? ⟨w.heap.size, 1, none⟩ = some (.slice A t.length cap)) := by unfold Hid; simp
    have hbc : Hid ((w.alloc (.cells #[.int .i64 c, .slice A t.length cap] 25)).cell? ⟨w.heap.size, 0, none⟩ = some (.int .i64 c)) := by unfold Hid; simp
    go_enter Try.func14, Try.ntmps14
    go_wp2_with (go_at_call 17; refine (HC.out _ hcw.out).mono ?_; rintro e w1 ⟨rfl, h1⟩; have hbx1 := h1.cell hbx.out id; have hbc1 := h1.cell hbc.out id; have hc1 := Lib.hid (hcw.out.thenNo h1); clear h1 hcw hbx hbc)
    clear hbx1 hbc1
    obtain ⟨w0, rfl⟩ : ∃ w0 : World, w0 = w1 := ⟨_, rfl⟩
    go_loopw [7, 21] (fun g s wr => ∃ (k : Nat) (u : Int), k ≤ t.length ∧ g = .int .i64 u ∧ s = .int .i64 k ∧ Hid (u = c + val (valOf vs) (t.take k)) ∧ Hid (Chg No w0 wr) ∧ Hid (∀ i (hi : i < t.length), i < k → farB (valOf vs t[i].1) = false)) (fun _ s _ => t.length - (intOf s).toNat)
    case atStart => exact ⟨0, c, Nat.zero_le _, rfl, rfl, by unfold Hid; simp [val_nil], Chg.refl _ _, fun i _ h => absurd h (Nat.not_lt_zero i)⟩
    case round =>
      obtain ⟨k, u, hkl, rfl, rfl, hu, hch, hgd⟩ := hrel
      by_cases hlt : k < t.length
      · obtain ⟨b, o, rfl, hx0, hx1⟩ := (HT.out wr (hc1.out.thenNo hch.out)).mono_at k hlt
        have i0 : (0 : Int) ≤ (k : Int) := by omega
        have i1 : (k : Int) < (t.length : Int) := by omega
        obtain ⟨n, hn, hnb⟩ := V.out.var k hlt
        obtain ⟨hk1, hk2⟩ := V.out.k1 k hlt
        have hpb := part_bound V.out hkl hgd.out
        rw [← hu.out] at hpb
        obtain ⟨hu1, hu2⟩ := hpb
        have Hbad := Lib.hid (V.out.bad k hlt)
        have Hst := Lib.hid (val_take (f := valOf vs) hlt)
        have Hnew : Hid (farB (valOf vs t[k].1) = false → ∀ i (hi : i < t.length), i < k + 1 → farB (valOf vs t[i].1) = false) := fun e i h1 h3 => by
          rcases Nat.lt_succ_iff_lt_or_eq.1 h3 with h | rfl
          · exact hgd.out i h1 h
          · exact e
        rw [hn] at Hbad Hst Hnew hx0
        generalize t[k].2 = kk at *
        clear hn
        have hch2 : Hid (Chg No w0 (wr.alloc (.cells #[.int .i64 (n : Int), .int .i64 kk] 50))) := hch.out.alloc _
        have n0 : (0 : Int) ≤ (n : Int) := by omega
        have hxv : Hid (∀ h : n < vs.length, ∃ b' o', A' = some ⟨b', o', none⟩ ∧ (wr.alloc (.cells #[.int .i64 (n : Int), .int .i64 kk] 50)).cell? ⟨b', o' + n, none⟩ = some (.int .i64 vs[n])) := fun h => (HV.out _ (hc1.out.thenNo hch2.out)).int_at n h
        obtain ⟨x, hx⟩ : ∃ x, x = valOf vs (n : Int) := ⟨_, rfl⟩
        rw [← hx] at Hbad Hst Hnew
        have hmb := fun h3 h4 => mul_bound (b := x) hk1 hk2 h3 h4
        have HMB := Lib.hid hmb
        clear hmb hgd
        by_cases hin : n < vs.length
        · obtain ⟨b', o', rfl, hx3⟩ := hxv.out hin
          rw [valOf_in hin] at hx
          rw [← hx] at hx3
          have hd1 : decide (n < vs.length) = true := decide_eq_true hin
          have hin' : (n : Int) < (vs.length : Int) := by omega
          clear hx hxv hin
          rcases farB_cases x with ⟨hf, hd2⟩ | ⟨hf, hd2, hd3⟩ | ⟨hf, hd2, hd3, hx4, hx5⟩
          · obtain rfl : r = (0, 1) := Hbad.out hf
            clear hf
            go_wp2
            go_ret2
            exact ⟨by rw [errV_of _ (by decide)]; rfl, hc1.out.thenNo hch2.out⟩
          · obtain rfl : r = (0, 1) := Hbad.out hf
            clear hf
            go_wp2
            go_ret2
            exact ⟨by rw [errV_of _ (by decide)]; rfl, hc1.out.thenNo hch2.out⟩
          · obtain ⟨hp1, hp2⟩ := HMB.out hx4 hx5
            have Hn := Lib.hid (Hnew.out hf)
            clear hf hx4 hx5
            go_wp2
            go_roundw
            case rel => exact ⟨k + 1, _, hlt, rfl, by go_num, by unfold Hid; rw [Hst.out, hu.out]; omega, hch2, Hn.out⟩
            case measure => simp [intOf]; omega
        · rw [valOf_out hin] at hx
          have hd1 : decide (n < vs.length) = false := decide_eq_false hin
          subst hx
          have Hn := Lib.hid (Hnew.out (by decide))
          clear hxv hin
          go_wp2
          go_roundw
          case rel => exact ⟨k + 1, _, hlt, rfl, by go_num, by unfold Hid; rw [Hst.out, hu.out]; omega, hch2, Hn.out⟩
          case measure => simp [intOf]; omega
      · obtain rfl : k = t.length := by omega
        obtain rfl := V.out.good (fun i hi => hgd.out i hi hi)
        have hu' := hu.out
        clear hu
        subst hu'
        go_wp2
        go_ret2
        exact ⟨by simp only [errV_zero]; rfl, hc1.out.thenNo hch.out⟩
end Go.Proofs.Ytdljgclaccahaaa
