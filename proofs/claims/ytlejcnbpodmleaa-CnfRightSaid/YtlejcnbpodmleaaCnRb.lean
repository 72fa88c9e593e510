/-
  Lin5, Lin6, NrmQ, NrmU, NfF, NfH, NrmR, NrmS, CnfP, CnfQ, CnfR, CnfT, CnfU, in one file.
-/
import Derived.Test.YtlejcnbpodmleaaLin4
import Derived.Test.YtlejcnbpodmleaaLinLaw
import Derived.Test.YtlejcnbpodmleaaFind
import Derived.Test.YtlejcnbpodmleaaFrmG
import Derived.Test.YtlejcnbpodmleaaNfC
import Derived.Test.YtlejcnbpodmleaaCnfC
import Derived.Test.YtlejcnbpodmleaaProp5
import Derived.Test.YtlejcnbpodmleaaOwnRows
import Derived.Test.YtlejcnbpodmleaaCnfD
import Derived.Test.YtlejcnbpodmleaaCnRa
/- Lin5 -/
namespace Go.Proofs.Ytlejcnbpodmleaa
open Go Go.RowKit

/-- A variable's value by a list. -/
def valOf (vs : List Int) (v : Int) : Int := if v < (vs.length : Int) then vs.getD v.toNat 0 else 0
/-- Is a value too great? -/
def farB (x : Int) : Bool := decide (x < -16777216) || decide (16777216 < x)
def farAny (vs : List Int) (t : List Mono) : Bool := t.any fun m => farB (valOf vs m.1)
/-- What the value is, and what is amiss. -/
def linVal (c : Int) (t : List Mono) (vs : List Int) : Int × Int := if linB c t = true then (if farAny vs t = true then (0, 1) else (c + val (valOf vs) t, 0)) else (0, 5)

theorem mul_bound {a b : Int} (h1 : -1073741824 ≤ a) (h2 : a ≤ 1073741824) (h3 : -16777216 ≤ b) (h4 : b ≤ 16777216) : -18014398509481984 ≤ a * b ∧ a * b ≤ 18014398509481984 := by
  have h : (a * b).natAbs ≤ 1073741824 * 16777216 := by
    rw [Int.natAbs_mul]
    exact Nat.mul_le_mul (by omega) (by omega)
  omega
theorem farB_no {x : Int} (h : farB x = false) : -16777216 ≤ x ∧ x ≤ 16777216 := by
  unfold farB at h
  rw [Bool.or_eq_false_iff, decide_eq_false_iff_not, decide_eq_false_iff_not] at h
  omega
theorem val_bound {f : Int → Int} : ∀ {t : List Mono}, (∀ m ∈ t, (-1073741824 ≤ m.2 ∧ m.2 ≤ 1073741824) ∧ farB (f m.1) = false) → -(18014398509481984 * (t.length : Int)) ≤ val f t ∧ val f t ≤ 18014398509481984 * (t.length : Int)
  | [], _ => by simp [val_nil]
  | m :: t, h => by
    have h1 := val_bound (t := t) (fun x hx => h x (List.mem_cons_of_mem _ hx))
    obtain ⟨⟨h2, h3⟩, h4⟩ := h m List.mem_cons_self
    have h5 := farB_no h4
    have h6 := mul_bound h2 h3 h5.1 h5.2
    rw [val_cons, List.length_cons]
    omega
theorem val_take {f : Int → Int} {t : List Mono} {k : Nat} (h : k < t.length) : val f (t.take (k + 1)) = val f (t.take k) + t[k].2 * f t[k].1 := by
  rw [List.take_succ_eq_append_getElem h, val_append, val_cons, val_nil]
  omega
theorem valOf_in {vs : List Int} {n : Nat} (h : n < vs.length) : valOf vs (n : Int) = vs[n] := by
  unfold valOf
  rw [if_pos (by omega)]
  simp [List.getD, h]
theorem valOf_out {vs : List Int} {n : Nat} (h : ¬ n < vs.length) : valOf vs (n : Int) = 0 := by
  unfold valOf
  rw [if_neg (by omega)]
theorem farAny_bad {vs : List Int} {t : List Mono} (k : Nat) (hk : k < t.length) (h : farB (valOf vs t[k].1) = true) : farAny vs t = true := by
  unfold farAny
  rw [List.any_eq_true]
  exact ⟨_, List.getElem_mem hk, h⟩
theorem farAny_good {vs : List Int} {t : List Mono} (h : ∀ i (hi : i < t.length), farB (valOf vs t[i].1) = false) : farAny vs t = false := by
  unfold farAny
  rw [List.any_eq_false]
  intro m hm
  obtain ⟨i, hi, rfl⟩ := List.getElem_of_mem hm
  rw [h i hi]
  decide

set_option maxHeartbeats 400000 in
theorem ref01Of_any {R : Nat → Prop} {w : World} {A : Option Addr} {vs : List Int} {cap : Nat} (hv : Ints R w A vs cap) (n : Nat) (hn : n < 9000000000000000000) :
    Calls Try.prog 57 #[.slice A vs.length cap, .int .i64 n] w fun e w' => e = .returned (.int .i64 (valOf vs n)) ∧ w = w' := by
  have hb := hv.big
  unfold big at hb
  by_cases h : n < vs.length
  · rw [valOf_in h]
    obtain ⟨b, o, rfl, hx⟩ := hv.int_at n h
    have i0 : (0 : Int) ≤ (n : Int) := by omega
    have hd : decide (n < vs.length) = true := decide_eq_true h
    generalize vs[n] = x at *
    clear hv
    go_enter Try.func57, Try.ntmps57
    go_wp2
    go_ret
    exact ⟨rfl, rfl⟩
  · rw [valOf_out h]
    have hd : decide (n < vs.length) = false := decide_eq_false h
    clear hv
    go_enter Try.func57, Try.ntmps57
    go_wp2
    go_ret
    exact ⟨rfl, rfl⟩

/-- The value when all is sound, by the way that the loops take. -/
structure ValWay (c : Int) (t : List Mono) (vs : List Int) (r : Int × Int) : Prop where
  len : t.length ≤ 64
  c1 : -1073741824 ≤ c
  c2 : c ≤ 1073741824
  var : ∀ i (hi : i < t.length), ∃ n : Nat, t[i].1 = (n : Int) ∧ n < 1048576
  k1 : ∀ i (hi : i < t.length), -1073741824 ≤ t[i].2 ∧ t[i].2 ≤ 1073741824
  bad : ∀ i (hi : i < t.length), farB (valOf vs t[i].1) = true → r = (0, 1)
  good : (∀ i (hi : i < t.length), farB (valOf vs t[i].1) = false) → r = (c + val (valOf vs) (t.take t.length), 0)
theorem valWay {c : Int} {t : List Mono} {vs : List Int} (h : linB c t = true) : ValWay c t vs (linVal c t vs) := by
  have hs := linB_sound h
  refine ⟨hs.2.1, (coefB_le hs.1).1, (coefB_le hs.1).2, fun i hi => ?_, fun i hi => coefB_le (hs.2.2 i hi).2.1, fun i hi hf => ?_, fun hf => ?_⟩
  · have := varB_le (hs.2.2 i hi).1
    exact ⟨t[i].1.toNat, by omega, by omega⟩
  · unfold linVal; rw [if_pos h, if_pos (farAny_bad i hi hf)]
  · unfold linVal; rw [if_pos h, if_neg (by rw [farAny_good hf]; decide), List.take_of_length_le (Nat.le_refl _)]

theorem farB_cases (x : Int) : (farB x = true ∧ decide (x < -16777216) = true) ∨ (farB x = true ∧ decide (x < -16777216) = false ∧ decide (16777216 < x) = true) ∨ (farB x = false ∧ decide (x < -16777216) = false ∧ decide (16777216 < x) = false ∧ -16777216 ≤ x ∧ x ≤ 16777216) := by
  unfold farB
  by_cases h1 : x < -16777216 <;> by_cases h2 : 16777216 < x <;> simp [h1, h2] <;> omega

/-- A partial sum. -/
theorem part_bound {c : Int} {t : List Mono} {vs : List Int} {r : Int × Int} (V : ValWay c t vs r) {k : Nat} (hk : k ≤ t.length) (hg : ∀ i (hi : i < t.length), i < k → farB (valOf vs t[i].1) = false) :
    -1170000000000000000 ≤ c + val (valOf vs) (t.take k) ∧ c + val (valOf vs) (t.take k) ≤ 1170000000000000000 := by
  have h := val_bound (f := valOf vs) (t := t.take k) (fun m hm => by
    obtain ⟨i, hi, rfl⟩ := List.getElem_of_mem hm
    rw [List.length_take] at hi
    rw [List.getElem_take]
    exact ⟨V.k1 i (by omega), hg i (by omega) (by omega)⟩)
  have hl : (t.take k).length ≤ 64 := by rw [List.length_take]; have := V.len; omega
  have := V.c1
  have := V.c2
  omega

end Go.Proofs.Ytlejcnbpodmleaa
/- Lin6 -/
namespace Go.Proofs.Ytlejcnbpodmleaa
open Go Go.RowKit

set_option maxRecDepth 100000 in
set_option maxHeartbeats 2000000 in
theorem ref01Value_any {R R' : Nat → Prop} {w : World} {A A' : Option Addr} (c : Int) {t : List Mono} {vs : List Int} {cap cap' : Nat} (ht : Monos R w A t cap) (hv : Ints R' w A' vs cap') :
    Calls Try.prog 36 #[.agg #[.int .i64 c, .slice A t.length cap], .slice A' vs.length cap'] w fun e w' => e = .returned (.tuple #[.int .i64 (linVal c t vs).1, .int .i64 (linVal c t vs).2]) ∧ Chg No w w' := by
  have HT := Lib.hid (fun W (h : Chg No w W) => ht.no monoE_good h)
  have HO := Lib.hid (fun W (h : Chg No w W) n hn => ref01Of_any (hv.no intE_good h) n hn)
  have HC := Lib.hid (fun W (h : Chg No w W) => ref01Check_any c (ht.no monoE_good h))
  have hb := ht.big
  have hb' := hv.big
  unfold big at hb hb'
  clear ht hv
  cases hB : linB c t
  · rw [hB] at HC
    rw [show linVal c t vs = (0, 5) by unfold linVal; rw [hB]; rfl]
    simp only
    clear hB
    go_enter Try.func36, Try.ntmps36
    go_wp2_with (go_at_call 58; refine (HC.out _ ((Chg.refl _ _).alloc _)).mono ?_; rintro e w1 ⟨rfl, h1⟩)
    go_ret2
    exact ⟨rfl, ((Chg.refl _ _).alloc _).thenNo h1⟩
  · rw [hB] at HC
    have V := Lib.hid (valWay (vs := vs) hB)
    generalize linVal c t vs = r at *
    clear hB
    have hcw : Hid (Chg No w (w.alloc (.cells #[.int .i64 c, .slice A t.length cap] 24))) := (Chg.refl _ _).alloc _
    have hbx : Hid ((w.alloc (.cells #[.int .i64 c, .slice A t.length cap] 24)).cell? ⟨w.heap.size, 1, none⟩ = some (.slice A t.length cap)) := by unfold Hid; simp
    have hbc : Hid ((w.alloc (.cells #[.int .i64 c, .slice A t.length cap] 24)).cell? ⟨w.heap.size, 0, none⟩ = some (.int .i64 c)) := by unfold Hid; simp
    go_enter Try.func36, Try.ntmps36
    go_wp2_with (go_at_call 58; refine (HC.out _ hcw.out).mono ?_; rintro e w1 ⟨rfl, h1⟩; have hbx1 := h1.cell hbx.out id; have hbc1 := h1.cell hbc.out id; have hc1 := Lib.hid (hcw.out.thenNo h1); clear h1 hcw hbx hbc)
    have hbx := Lib.hid hbx1
    clear hbx1 hbc1
    obtain ⟨w0, rfl⟩ : ∃ w0 : World, w0 = w1 := ⟨_, rfl⟩
    go_loopw [7, 8] (fun g s wr => ∃ (k : Nat) (u : Int), k ≤ t.length ∧ g = .int .i64 u ∧ s = .int .i64 k ∧ Hid (u = c + val (valOf vs) (t.take k)) ∧ Hid (Chg No w0 wr) ∧ Hid (∀ i (hi : i < t.length), i < k → farB (valOf vs t[i].1) = false)) (fun _ s _ => t.length - (intOf s).toNat)
    case atStart => exact ⟨0, c, Nat.zero_le _, rfl, rfl, by unfold Hid; simp [val_nil], Chg.refl _ _, fun i _ h => absurd h (Nat.not_lt_zero i)⟩
    case round =>
      obtain ⟨k, u, hkl, rfl, rfl, hu, hch, hgd⟩ := hrel
      have hbx1 := hch.out.cell hbx.out id
      by_cases hlt : k < t.length
      · obtain ⟨b, o, rfl, hx0, hx1⟩ := (HT.out wr (hc1.out.thenNo hch.out)).mono_at k hlt
        have i0 : (0 : Int) ≤ (k : Int) := by omega
        have i1 : (k : Int) < (t.length : Int) := by omega
        obtain ⟨n, hn, hnb⟩ := V.out.var k hlt
        obtain ⟨hk1, hk2⟩ := V.out.k1 k hlt
        have hpb := part_bound V.out hkl hgd.out
        rw [← hu.out] at hpb
        obtain ⟨hu1, hu2⟩ := hpb
        have Hbad := Lib.hid (V.out.bad k hlt)
        have Hst := Lib.hid (val_take (f := valOf vs) hlt)
        have Hnew : Hid (farB (valOf vs t[k].1) = false → ∀ i (hi : i < t.length), i < k + 1 → farB (valOf vs t[i].1) = false) := fun e i h1 h3 => by
          rcases Nat.lt_succ_iff_lt_or_eq.1 h3 with h | rfl
          · exact hgd.out i h1 h
          · exact e
        rw [hn] at Hbad Hst Hnew hx0
        generalize t[k].2 = kk at *
        clear hn
        have HV := Lib.hid (HO.out wr (hc1.out.thenNo hch.out) n (by omega))
        obtain ⟨x, hx⟩ : ∃ x, x = valOf vs (n : Int) := ⟨_, rfl⟩
        rw [← hx] at Hbad Hst Hnew HV
        have HMB := Lib.hid (fun h3 h4 => mul_bound (b := x) hk1 hk2 h3 h4)
        clear hgd hx
        rcases farB_cases x with ⟨hf, hd2⟩ | ⟨hf, hd2, hd3⟩ | ⟨hf, hd2, hd3, hx4, hx5⟩
        · obtain rfl : r = (0, 1) := Hbad.out hf
          clear hf
          go_wp2_with (go_at_call 57; refine HV.out.mono ?_; rintro e w2 ⟨rfl, rfl⟩)
          go_ret2
          exact ⟨rfl, hc1.out.thenNo hch.out⟩
        · obtain rfl : r = (0, 1) := Hbad.out hf
          clear hf
          go_wp2_with (go_at_call 57; refine HV.out.mono ?_; rintro e w2 ⟨rfl, rfl⟩)
          go_ret2
          exact ⟨rfl, hc1.out.thenNo hch.out⟩
        · obtain ⟨hp1, hp2⟩ := HMB.out hx4 hx5
          rw [Int.mul_comm] at hp1 hp2 Hst
          have Hn := Lib.hid (Hnew.out hf)
          clear hf hx4 hx5
          go_wp2_with (go_at_call 57; refine HV.out.mono ?_; rintro e w2 ⟨rfl, rfl⟩)
          go_roundw
          case rel => exact ⟨k + 1, _, hlt, rfl, by go_num, by unfold Hid; rw [Hst.out, hu.out]; omega, hch, Hn.out⟩
          case measure => simp [intOf]; omega
      · obtain rfl : k = t.length := by omega
        obtain rfl := V.out.good (fun i hi => hgd.out i hi hi)
        have hu' := hu.out
        clear hu
        subst hu'
        go_wp2
        go_ret2
        exact ⟨rfl, hc1.out.thenNo hch.out⟩
end Go.Proofs.Ytlejcnbpodmleaa
/- NrmQ -/
namespace Go.Proofs.Ytlejcnbpodmleaa
open Go Go.RowKit

/-- Is a formula true, by values of variables? -/
def truF : (n : Nat) → (Int → Int) → FT n → Bool
  | 0, _, _ => false
  | n + 1, v, f => if Node.kind f = 0 then true else if Node.kind f = 1 then false else if Node.kind f = 2 then decide ((Node.lin f).1 + val v (Node.lin f).2 ≤ 0)
    else if Node.kind f = 3 then decide ((Node.lin f).1 + val v (Node.lin f).2 = 0)
    else if Node.kind f = 4 then !(((Node.kids f).head?.map (truF n v)).getD false)
    else if Node.kind f = 5 then (Node.kids f).all (truF n v) else (Node.kids f).any (truF n v)
/-- Are all its variables' values near? -/
def nearF : (n : Nat) → List Int → FT n → Bool
  | 0, _, _ => true
  | n + 1, vs, f => !farAny vs (Node.lin f).2 && (Node.kids f).all (nearF n vs)
theorem truF_succ (n : Nat) (v : Int → Int) (kd : Int) (l : Lin) (ks : List (FT n)) : truF (n + 1) v (⟨kd, l, ks⟩ : Node (FT n)) = if kd = 0 then true else if kd = 1 then false else if kd = 2 then decide (l.1 + val v l.2 ≤ 0)
    else if kd = 3 then decide (l.1 + val v l.2 = 0) else if kd = 4 then !((ks.head?.map (truF n v)).getD false) else if kd = 5 then ks.all (truF n v) else ks.any (truF n v) := rfl

theorem near_parts {n : Nat} {vs : List Int} {f : Node (FT n)} (h : nearF (n + 1) vs f = true) : farAny vs f.lin.2 = false ∧ ∀ k ∈ f.kids, nearF n vs k = true := by
  have : (!farAny vs f.lin.2 && f.kids.all (nearF n vs)) = true := h
  rw [Bool.and_eq_true, Bool.not_eq_true', List.all_eq_true] at this
  exact this
theorem okS_casesQ {kd : Int} {nb lb : Bool} {kl : Nat} (h : okS kd nb lb kl = true) : (kd = 0 ∨ kd = 1) ∧ nb = true ∧ kl = 0 ∨ (kd = 2 ∨ kd = 3) ∧ lb = true ∧ kl = 0 ∨ kd = 4 ∧ nb = true ∧ kl = 1 ∨ (kd = 5 ∨ kd = 6) ∧ nb = true := by
  unfold okS at h
  simp only [Bool.or_eq_true, Bool.and_eq_true, decide_eq_true_eq] at h
  rcases h with ((h | h) | h) | h
  · exact .inl ⟨h.1.1, h.1.2, h.2⟩
  · exact .inr (.inl ⟨h.1.1, h.1.2, h.2⟩)
  · exact .inr (.inr (.inl ⟨h.1.1, h.1.2, h.2⟩))
  · exact .inr (.inr (.inr h))
theorem noneB_eqQ {c : Int} {tl : Nat} (h : noneB c tl = true) : c = 0 ∧ tl = 0 := by
  unfold noneB at h
  simpa using h
theorem fine_kidsQ {n : Nat} {f : FT (n + 1)} (h : fineF (n + 1) f = true) : okS (Node.kind f) (noneB (Node.lin f).1 (Node.lin f).2.length) (linB (Node.lin f).1 (Node.lin f).2) (Node.kids f).length = true ∧ ∀ k ∈ Node.kids f, fineF n k = true := by
  have e : fineF (n + 1) f = (okSN f && (Node.kids f).all (fineF n)) := rfl
  rw [e, Bool.and_eq_true, List.all_eq_true] at h
  exact h
end Go.Proofs.Ytlejcnbpodmleaa
/- NrmU -/
namespace Go.Proofs.Ytlejcnbpodmleaa
open Go Go.RowKit

theorem val_near2 {c : Int} {t : List Mono} {vs : List Int} (h : linB c t = true) (hf : farAny vs t = false) : linVal c t vs = (c + val (valOf vs) t, 0) := by
  unfold linVal
  rw [if_pos h, hf, if_neg (by decide)]
def RefIsOk (n : Nat) : Prop := ∀ (f : FT n) (vs : List Int) (R R' : Nat → Prop) (w : World) (cs : List Value) (A' : Option Addr) (cap' : Nat), (formV n) R w cs f → Ints R' w A' vs cap' → fineF n f = true → nearF n vs f = true →
    Calls Try.prog 35 #[.agg cs.toArray, .slice A' vs.length cap'] w fun e w' => e = .returned (.bool (truF n (valOf vs) f)) ∧ Chg No w w'
set_option maxRecDepth 100000 in
set_option maxHeartbeats 4000000 in
theorem refIs_step (n : Nat) (IH : Hid (RefIsOk n)) : RefIsOk (n + 1) := by
    rintro f vs R R' w cs A' cap' h hvs hfine hnear
    obtain ⟨A, cap, B, capk, rfl, i1, i2, hm, hk⟩ := node_cells h
    obtain ⟨hok, hks⟩ := fine_kidsQ hfine
    obtain ⟨hn1, hn2⟩ := near_parts hnear
    have hb1 := hm.big
    have hb2 := hk.big
    have hb3 := hvs.big
    unfold big at hb1 hb2 hb3
    obtain ⟨w3, hw3⟩ : ∃ w3, w3 = (w.alloc (.cells #[.int .i64 (Node.kind f), .int .i64 (Node.lin f).1, .slice A (Node.lin f).2.length cap, .slice B (Node.kids f).length capk] 27)) := ⟨_, rfl⟩
    have h3 : Hid (Chg No w w3 ∧ w3.heap[w.heap.size]? = some (.cells #[.int .i64 (Node.kind f), .int .i64 (Node.lin f).1, .slice A (Node.lin f).2.length cap, .slice B (Node.kids f).length capk] 27 (0, 0))) := by
      rw [hw3]; exact ⟨(Chg.refl _ _).alloc _, heap_alloc_new _ _⟩
    obtain ⟨p0, p1, p2, p3⟩ := obj_four h3.out.2
    have hcases := okS_casesQ hok
    obtain ⟨ans, hans⟩ : ∃ ans, ans = truF (n + 1) (valOf vs) f := ⟨_, rfl⟩
    rw [← hans]
    have RET : Hid (∀ (q : Bool) (W : World), q = ans → Chg No w W → Ending.returned (.bool q) = Ending.returned (.bool ans) ∧ Chg No w W) := fun q W h g => ⟨by rw [h], g⟩
    rcases hcases with ⟨hkd, hnb, hkl⟩ | ⟨hkd, hlb, hkl⟩ | ⟨hkd, hnb, hkl⟩ | ⟨hkd, hnb⟩
    · have HE : Hid (ans = decide (Node.kind f = 0)) := by
        unfold Hid; rw [hans, truF]
        rcases hkd with g | g <;> rw [g] <;> rfl
      generalize Node.kind f = kd at *
      generalize (Node.lin f).1 = c at *
      generalize (Node.lin f).2.length = tl at *
      generalize (Node.kids f).length = kl at *
      clear h hm hk hvs hans IH hok hks hn1 hn2 hnear hfine hnb hkl
      rcases hkd with rfl | rfl
      all_goals
        go_enter Try.func35, Try.ntmps35
        go_upto_region 1 with fail
        rw [← hw3]
        clear hw3
        go_wp2_with fail
        go_ret
        exact RET.out _ _ (by rw [HE.out]; rfl) h3.out.1
    · have HL := Lib.hid (ref01Value_any (Node.lin f).1 (hm.no monoE_good h3.out.1) (hvs.no intE_good h3.out.1))
      rw [val_near2 hlb hn1] at HL
      simp only at HL
      have HE : Hid (ans = if Node.kind f = 2 then decide ((Node.lin f).1 + val (valOf vs) (Node.lin f).2 ≤ 0) else decide ((Node.lin f).1 + val (valOf vs) (Node.lin f).2 = 0)) := by
        unfold Hid; rw [hans, truF]
        rcases hkd with g | g <;> rw [g] <;> rfl
      generalize (Node.lin f).1 + val (valOf vs) (Node.lin f).2 = V at *
      generalize Node.kind f = kd at *
      generalize (Node.lin f).1 = c at *
      generalize (Node.lin f).2.length = tl at *
      generalize (Node.kids f).length = kl at *
      clear h hm hk hvs hans IH hok hks hn1 hn2 hnear hfine hlb hkl
      rcases hkd with rfl | rfl
      all_goals
        go_enter Try.func35, Try.ntmps35
        go_upto_region 1 with fail
        rw [← hw3]
        clear hw3
        go_wp2_with (go_at_call 36; refine HL.out.mono ?_; rintro e w1 ⟨rfl, h1⟩; have r0 := h1.cell p0 id; have H1 := Lib.hid (h3.out.1.thenNo h1); clear h1)
        go_ret
        exact RET.out _ _ (by rw [HE.out]; first | rfl | (rw [if_neg (by decide)]; by_cases hV : V = 0 <;> simp [hV])) H1.out
    · obtain ⟨k, hk1⟩ := List.length_eq_one_iff.1 hkl
      have HE : Hid (ans = !truF n (valOf vs) k) := by
        unfold Hid; rw [hans, truF, hkd, hk1]; rfl
      have hk0 := hk.no (formE_good n) h3.out.1
      rw [hk1] at hk0
      obtain ⟨b, o, v0, v1, v2, v3, rfl, hv, x0, x1, x2, x3⟩ := forms_at hk0 0 (by simp)
      have HI := Lib.hid (IH.out k vs R R' w3 _ A' cap' hv (hvs.no intE_good h3.out.1) (hks k (by rw [hk1]; simp)) (hn2 k (by rw [hk1]; simp)))
      have hl1 : (Node.kids f).length = 1 := hkl
      rw [hl1, hkd] at hw3 h3 ⊢
      rw [hl1] at p3
      rw [hkd] at p0
      have x0' : w3.cell? ⟨b, o, none⟩ = some v0 := by simpa using x0
      have x1' : w3.cell? ⟨b, o + 1, none⟩ = some v1 := by simpa using x1
      have x2' : w3.cell? ⟨b, o + 2, none⟩ = some v2 := by simpa using x2
      have x3' : w3.cell? ⟨b, o + 3, none⟩ = some v3 := by simpa using x3
      generalize truF n (valOf vs) k = tk at *
      generalize (Node.lin f).1 = c at *
      generalize (Node.lin f).2.length = tl at *
      clear h hm hk hvs hans IH hok hks hn1 hn2 hnear hfine hkd hnb hkl hk1 hk0 hv hl1 x0 x1 x2 x3
      go_enter Try.func35, Try.ntmps35
      go_upto_region 1 with fail
      rw [← hw3]
      clear hw3
      go_wp2_with (go_at_call 35; refine HI.out.mono ?_; rintro e w1 ⟨rfl, h1⟩; have H1 := Lib.hid (h3.out.1.thenNo h1); clear h1)
      go_ret
      exact RET.out _ _ HE.out.symm H1.out
    · have HK := Lib.hid (fun W (h : Chg No w3 W) => (hk.no (formE_good n) h3.out.1).no (formE_good n) h)
      have HI := Lib.hid (fun W (hW : Chg No w3 W) i (hi : i < (Node.kids f).length) cs (hcs : (formV n) R W cs (Node.kids f)[i]) => IH.out _ vs R R' W cs A' cap' hcs (hvs.no intE_good (h3.out.1.thenNo hW)) (hks _ (List.getElem_mem hi)) (hn2 _ (List.getElem_mem hi)))
      have HE : Hid (ans = if Node.kind f = 5 then (Node.kids f).all (truF n (valOf vs)) else (Node.kids f).any (truF n (valOf vs))) := by
        unfold Hid; rw [hans, truF]
        rcases hkd with g | g <;> rw [g] <;> rfl
      generalize truF n (valOf vs) = tr at *
      generalize Node.kids f = ks at *
      generalize Node.kind f = kd at *
      generalize (Node.lin f).1 = c at *
      generalize (Node.lin f).2.length = tl at *
      clear h hm hk hvs hans IH hok hks hn1 hn2 hnear hfine hnb
      rcases hkd with rfl | rfl
      all_goals
        go_enter Try.func35, Try.ntmps35
        go_upto_region 1 with fail
        rw [← hw3]
        clear hw3
        go_wp2_with fail
        go_loopw [10, 11, 12] (fun s10 s11 s12 wr => ∃ i : Nat, s10 = .bool ((ks.take i).all tr) ∧ s11 = .bool ((ks.take i).any tr) ∧ s12 = .int .i64 i ∧ i ≤ ks.length ∧ Hid (Chg No w3 wr)) (fun _ _ s12 _ => ks.length - (intOf s12).toNat)
        case atStart => exact ⟨0, rfl, rfl, rfl, Nat.zero_le _, Chg.refl _ _⟩
        case round =>
          obtain ⟨i, rfl, rfl, rfl, gi, hch⟩ := hrel
          obtain ⟨p0, p1, p2, p3⟩ := obj_four (hch.out.obj h3.out.2 id)
          by_cases hlt : i < ks.length
          · obtain ⟨b, o, v0, v1, v2, v3, rfl, hv, x0, x1, x2, x3⟩ := forms_at (HK.out wr hch.out) i hlt
            have HJ := Lib.hid (HI.out wr hch.out i hlt _ hv)
            have HA : Hid ((ks.take (i + 1)).all tr = ((ks.take i).all tr && tr ks[i])) := by
              unfold Hid; rw [List.take_add_one, List.getElem?_eq_getElem hlt, List.all_append]; simp
            have HN : Hid ((ks.take (i + 1)).any tr = ((ks.take i).any tr || tr ks[i])) := by
              unfold Hid; rw [List.take_add_one, List.getElem?_eq_getElem hlt, List.any_append]; simp
            generalize tr ks[i] = t1 at *
            generalize (ks.take i).all tr = A0 at *
            generalize (ks.take i).any tr = N0 at *
            have i0 : (0 : Int) ≤ (i : Int) := by omega
            have i1 : (i : Int) < (ks.length : Int) := by omega
            clear hv HK HI HE
            cases A0 <;> cases N0
            all_goals
              go_wp2_with (go_at_call 35; refine HJ.out.mono ?_; rintro e w5 ⟨rfl, h5⟩; have H5 := Lib.hid (hch.out.thenNo h5); clear h5)
              go_roundw
              case rel => exact ⟨i + 1, by rw [HA.out]; simp, by rw [HN.out]; simp, by go_num, hlt, H5.out⟩
              case measure => simp [intOf]; omega
          · have ht : ks.take i = ks := List.take_of_length_le (by omega)
            rw [ht]
            go_wp2
            go_ret
            exact RET.out _ _ (by rw [HE.out]; rfl) (h3.out.1.thenNo hch.out)
theorem refIs_any : ∀ n, RefIsOk n
  | 0 => fun _ _ _ _ _ _ _ _ h => h.elim
  | n + 1 => refIs_step n (Lib.hid (refIs_any n))
end Go.Proofs.Ytlejcnbpodmleaa
/- NfF -/
namespace Go.Proofs.Ytlejcnbpodmleaa
open Go Go.RowKit

theorem zN_cells : ∀ (n : Nat) (R : Nat → Prop) (w : World), (formV (3 + n)) R w [.int .i64 0, .int .i64 0, .slice none 0 0, .slice none 0 0] (zN n)
  | 0, _, _ => leaf_cells 0 (by unfold I64; decide)
  | _ + 1, _, _ => leaf_cells 0 (by unfold I64; decide)
/-- What Norm answers. -/
def resE (n : Nat) (f : FT n) : Int := if chkF n f = 0 then (if farF n f = true then 3 else 0) else chkF n f
def resF (n : Nat) (f : FT n) : FT (3 + n) := if chkF n f = 0 then ansF n f false else zN n
theorem resE_range (n : Nat) (f : FT n) : 0 ≤ resE n f ∧ resE n f ≤ 16 := by
  have := chkF_range n f
  unfold resE
  split
  · split <;> omega
  · exact this

set_option maxRecDepth 100000 in
set_option maxHeartbeats 2000000 in
theorem normNorm_any {n : Nat} {f : FT n} {R : Nat → Prop} {w : World} {cs : List Value} (h : (formV n) R w cs f) :
    Calls Try.prog 16 #[.agg cs.toArray] w (NRet (3 + n) R w (resF n f) (errV 43 (resE n f))) := by
  obtain ⟨kd, c, A, tl, cap, B, kl, capk, rfl⟩ := shape4 h
  have h' := (formV_good n).mono h (R' := fun k => R k ∧ k < w.heap.size) (fun k hk hR => ⟨hR, hk⟩)
  have HC := Lib.hid (fun W (hc : Chg No w W) => formCheck_any ((formV_good n).no h' hc))
  have HN := Lib.hid (fun (hf : fineF n f = true) W (hc : Chg No w W) => (norm_any n f _ W _ false ((formV_good n).no h' hc) hf).mono (fun _ _ g => g.shape))
  obtain ⟨w3, hw3⟩ : ∃ w3, w3 = (w.alloc (.cells #[.int .i64 kd, .int .i64 c, .slice A tl cap, .slice B kl capk] 27)).alloc (.cells #[.int .i64 0, .int .i64 0, .slice none 0 0, .slice none 0 0] 27) := ⟨_, rfl⟩
  have h3 : Hid (Chg No w w3 ∧ w3.heap[w.heap.size]? = some (.cells #[.int .i64 kd, .int .i64 c, .slice A tl cap, .slice B kl capk] 27 (0, 0)) ∧ w3.heap[w.heap.size + 1]? = some (.cells #[.int .i64 0, .int .i64 0, .slice none 0 0, .slice none 0 0] 27 (0, 0)) ∧ w3.heap.size = w.heap.size + 2) := by
    rw [hw3]; exact ⟨((Chg.refl _ _).alloc _).alloc _, at_old (heap_alloc_new _ _), at_new (by simp), by simp⟩
  have HSET : Hid (∀ W u0 u1 u2 u3, Chg No w3 W → Chg No w ((((W.setCell ⟨w.heap.size + 1, 0, none⟩ u0).setCell ⟨w.heap.size + 1, 1, none⟩ u1).setCell ⟨w.heap.size + 1, 2, none⟩ u2).setCell ⟨w.heap.size + 1, 3, none⟩ u3)) := fun W u0 u1 u2 u3 hW =>
    chgpast (h3.out.1.thenNo hW) (set4_chg _ W u0 u1 u2 u3) (fun k hk => by omega)
  have HRET : Hid (∀ (m : Nat) (y : FT m) (W : World) (u0 u1 u2 u3 : Value), Chg No w3 W → (formV m) (fun k => (R k ∧ k < w.heap.size) ∨ w3.heap.size ≤ k) W [u0, u1, u2, u3] y →
      (formV m) (fun k => R k ∨ w.heap.size ≤ k) ((((W.setCell ⟨w.heap.size + 1, 0, none⟩ u0).setCell ⟨w.heap.size + 1, 1, none⟩ u1).setCell ⟨w.heap.size + 1, 2, none⟩ u2).setCell ⟨w.heap.size + 1, 3, none⟩ u3) [u0, u1, u2, u3] y) := fun m y W u0 u1 u2 u3 hW hy => by
    have hz := h3.out.2.2.2
    exact (formV_good m).mono ((formV_good m).chg hy (set4_chg (w.heap.size + 1) W u0 u1 u2 u3) (fun k hk e => by rcases hk with hk | hk <;> omega)) (fun k _ hk => by rcases hk with hk | hk; exact .inl hk.1; exact .inr (by omega))
  obtain ⟨p0, p1, p2, p3⟩ := obj_four h3.out.2.1
  have HB3 := Lib.hid h3.out.2.2.1
  have HB2 := Lib.hid h3.out.2.1
  have hcz := @chkF_zero n f
  have hcr := chkF_range n f
  unfold resE resF
  generalize chkF n f = ck at *
  by_cases hck : ck = 0
  · rw [if_pos hck, if_pos hck]
    have HN1 := Lib.hid (HN.out (hcz hck).2.2)
    subst hck
    rw [errV_zero] at HC
    clear h h' hcz hcr HN
    have H3c := Lib.hid h3.out.1
    clear h3
    generalize ansF n f false = x at *
    generalize errV 43 (if farF n f = true then 3 else 0) = E at *
    go_enter Try.func16, Try.ntmps16
    go_upto_region 1 with fail
    rw [← hw3]
    clear hw3
    go_upto_region 2 with (go_at_call 31; (with_reducible refine (HC.out _ H3c.out).mono ?_); rintro e w4 ⟨rfl, h4⟩; have H4 := Lib.hid h4; clear h4)
    clear p0 p1 p2 p3
    obtain ⟨p0, p1, p2, p3⟩ := obj_four (H4.out.obj HB2.out id)
    have HN2 := Lib.hid (HN1.out w4 (H3c.out.thenNo H4.out))
    go_wp2_with (go_at_call 32; (with_reducible refine HN2.out.mono ?_); rintro e w6 ⟨ko, co, Ao, lo, ao, Bo, mo, bo, rfl, g6, h6⟩; have G6 := Lib.hid g6; have H6 := Lib.hid (H4.out.thenNo h6); clear g6 h6; obtain ⟨⟨r0, r1, r2, r3⟩, f0, f1, f2, f3⟩ := obj_frm (H6.out.obj HB3.out id))
    exact bodyPost_ret (v := .tuple #[.agg #[.int .i64 ko, .int .i64 co, .slice Ao lo ao, .slice Bo mo bo], E]) (by simp [results, Try.results16, go_sem, r0, r1, r2, r3]) rfl ⟨[.int .i64 ko, .int .i64 co, .slice Ao lo ao, .slice Bo mo bo], rfl, HRET.out _ _ _ _ _ _ _ H6.out ((formV_good _).mono G6.out (fun k _ hk => by
      rcases hk with hk | hk
      · exact .inl hk
      · exact .inr (Nat.le_trans H4.out.size hk))), HSET.out _ _ _ _ _ H6.out⟩
  · rw [if_neg hck, if_neg hck]
    rw [errV_of _ hck] at HC ⊢
    have H3c := Lib.hid h3.out.1
    clear h h' hcz hcr HN h3 hck
    go_enter Try.func16, Try.ntmps16
    go_upto_region 1 with fail
    rw [← hw3]
    clear hw3
    go_upto_region 2 with (go_at_call 31; (with_reducible refine (HC.out _ H3c.out).mono ?_); rintro e w4 ⟨rfl, h4⟩; have H4 := Lib.hid h4; clear h4)
    obtain ⟨⟨r0, r1, r2, r3⟩, f0, f1, f2, f3⟩ := obj_frm (H4.out.obj HB3.out id)
    go_wp2_with fail
    exact bodyPost_ret (v := .tuple #[.agg #[.int .i64 0, .int .i64 0, .slice none 0 0, .slice none 0 0], .iface 43 (.int .i64 ck)]) (by simp [results, Try.results16, go_sem, r0, r1, r2, r3]) rfl ⟨[.int .i64 0, .int .i64 0, .slice none 0 0, .slice none 0 0], rfl, zN_cells _ _ _, HSET.out _ _ _ _ _ H4.out⟩

end Go.Proofs.Ytlejcnbpodmleaa
/- NfH -/
namespace Go.Proofs.Ytlejcnbpodmleaa
open Go Go.RowKit

/-- A formula of n floors as one of m. -/
def toF : (m n : Nat) → FT n → FT m
  | 0, _, _ => ()
  | m + 1, 0, _ => (⟨0, (0, []), []⟩ : Node (FT m))
  | m + 1, n + 1, x => (⟨Node.kind x, Node.lin x, (Node.kids x).map (toF m n)⟩ : Node (FT m))
theorem toF_self : ∀ (n : Nat) (x : FT n), toF n n x = x
  | 0, _ => rfl
  | n + 1, x => by
    have e : (toF n n) = id := funext (toF_self n)
    show (⟨Node.kind x, Node.lin x, (Node.kids x).map (toF n n)⟩ : Node (FT n)) = x
    rw [e, List.map_id]
    rfl
theorem toF_toF : ∀ (a b n : Nat) (x : FT n), n ≤ b → toF a b (toF b n x) = toF a n x
  | 0, _, _, _, _ => rfl
  | a + 1, 0, 0, _, _ => rfl
  | a + 1, b + 1, 0, _, _ => rfl
  | a + 1, 0, n + 1, _, h => absurd h (by omega)
  | a + 1, b + 1, n + 1, x, h => by
    show (⟨Node.kind x, Node.lin x, ((Node.kids x).map (toF b n)).map (toF a b)⟩ : Node (FT a)) = (⟨Node.kind x, Node.lin x, (Node.kids x).map (toF a n)⟩ : Node (FT a))
    rw [List.map_map]
    have e : (toF a b ∘ toF b n) = toF a n := funext fun k => toF_toF a b n k (by omega)
    rw [e]
theorem upF_to : ∀ (n : Nat) (x : FT n), upF n x = toF (n + 1) n x
  | 0, _ => rfl
  | n + 1, x => by
    show (⟨Node.kind x, Node.lin x, (Node.kids x).map (upF n)⟩ : Node (FT (n + 1))) = (⟨Node.kind x, Node.lin x, (Node.kids x).map (toF (n + 1) n)⟩ : Node (FT (n + 1)))
    have e : upF n = toF (n + 1) n := funext (upF_to n)
    rw [e]
theorem liftF_to : ∀ (k m : Nat) (x : FT m), liftF k x = toF (m + k) m x
  | 0, m, x => (toF_self m x).symm
  | k + 1, m, x => by
    show upF (m + k) (liftF k x) = _
    rw [liftF_to k m x, upF_to, toF_toF _ _ _ _ (by omega)]
    rfl
theorem formV_to : ∀ (m n : Nat) (R : Nat → Prop) (w : World) (cs : List Value) (x : FT n), n ≤ m → (formV n) R w cs x → (formV m) R w cs (toF m n x)
  | _, 0, _, _, _, _, _, h => h.elim
  | 0, n + 1, _, _, _, _, hl, _ => absurd hl (by omega)
  | m + 1, n + 1, R, w, cs, x, hl, h => by
    obtain ⟨A, cap, B, capk, rfl, i1, i2, hm, hk⟩ := node_cells h
    refine ⟨A, cap, B, capk, ?_, i1, i2, hm, ?_⟩
    · have e : (Node.kids (toF (m + 1) (n + 1) x)).length = (Node.kids x).length := by show ((Node.kids x).map (toF m n)).length = _; rw [List.length_map]
      rw [e]; rfl
    · rw [formV_sz]
      exact forms_map (toF m n) (fun cs x h => formV_to m n R w cs x (by omega) h) hk

/-- Canonical literals. -/
theorem canon_parts {c : Int} {t : List Mono} (h : canonB c t = true) : linB c t = true ∧ t.length ≠ 0 ∧ 0 < (t.getD 0 (0, 0)).2 ∧ gcdN t = 1 := by
  unfold canonB at h
  simp only [Bool.and_eq_true, decide_eq_true_eq] at h
  refine ⟨h.1.1, fun e => ?_, h.1.2, h.2⟩
  have : t = [] := List.eq_nil_of_length_eq_zero e
  subst this
  have := h.1.2
  simp at this
theorem divT_one (t : List Mono) : divT t ((1 : Nat) : Int) = t := by
  unfold divT
  have e : (fun m : Mono => (m.1, Int.tdiv m.2 ((1 : Nat) : Int))) = id := funext fun m => by simp
  rw [e, List.map_id]
theorem upI_one (c : Int) : upI c ((1 : Nat) : Int) = c := by
  unfold upI
  simp
theorem lit_canon {c : Int} {t : List Mono} (h : canonB c t = true) : litErr c t = 0 ∧ litForm c t = le2 (c, t) := by
  obtain ⟨h1, h2, h3, h4⟩ := canon_parts h
  unfold litErr litForm
  rw [h4, divT_one, upI_one, if_pos h1, if_pos h1, if_neg h2, if_neg h2, if_pos h3, if_pos h3]
  exact ⟨rfl, rfl⟩
theorem okB_cases {kd : Int} {nb cn : Bool} {kl : Nat} {k0 : Int} (h : okB kd nb cn kl k0 = true) : (kd = 0 ∨ kd = 1) ∧ nb = true ∧ kl = 0 ∨ kd = 2 ∧ cn = true ∧ kl = 0 ∨ kd = 4 ∧ nb = true ∧ kl = 1 ∧ k0 = 2 ∨ (kd = 5 ∨ kd = 6) ∧ nb = true := by
  unfold okB at h
  simp only [Bool.or_eq_true, Bool.and_eq_true, decide_eq_true_eq] at h
  rcases h with ((h | h) | h) | h
  · exact .inl ⟨h.1.1, h.1.2, h.2⟩
  · exact .inr (.inl ⟨h.1.1, h.1.2, h.2⟩)
  · exact .inr (.inr (.inl ⟨h.1.1.1, h.1.1.2, h.1.2, h.2⟩))
  · exact .inr (.inr (.inr h))
theorem lin_none {l : Lin} (h : noneB l.1 l.2.length = true) : l = (0, []) := by
  obtain ⟨h1, h2⟩ := noneB_eq h
  have h3 : l.2 = [] := List.eq_nil_of_length_eq_zero h2
  obtain ⟨a, b⟩ := l
  simp only at h1 h3
  rw [h1, h3]
theorem only_parts {n : Nat} {x : Node (FT n)} (h : onlyF (n + 1) x = true) : okB x.kind (noneB x.lin.1 x.lin.2.length) (canonB x.lin.1 x.lin.2) x.kids.length (kind0 n x.kids) = true ∧ ∀ k ∈ x.kids, onlyF n k = true := by
  have e : onlyF (n + 1) x = (okN x && x.kids.all (onlyF n)) := rfl
  rw [e, Bool.and_eq_true, List.all_eq_true] at h
  exact h
theorem leaf_canon {c : Int} {t : List Mono} (h : canonB c t = true) (nt : Bool) : leafErr 2 c t = 0 ∧ leafForm 2 c t nt = upF 2 (if nt = true then oppL (le2 (c, t)) else le2 (c, t)) := by
  obtain ⟨h1, h2⟩ := lit_canon h
  have e : leafErr 2 c t = 0 := by unfold leafErr; rw [h1, if_neg (by decide), if_pos rfl]
  refine ⟨e, ?_⟩
  unfold leafForm
  rw [e, h2, if_neg (by decide), if_pos rfl]
/-- What is normalized is normalized as itself. -/
theorem norm_self : ∀ (m : Nat) (x : FT m), onlyF m x = true → farF m x = false ∧ normF m x false = toF (3 + m) m x
  | 0, _, h => by cases h
  | m + 1, (⟨kd, l, ks⟩ : Node (FT m)), h => by
    obtain ⟨hok, hks⟩ := only_parts h
    rcases okB_cases hok with ⟨hkd, hnb, hkl⟩ | ⟨hkd, hcn, hkl⟩ | ⟨hkd, hnb, hkl, hk0⟩ | ⟨hkd, hnb⟩
    · have e1 : ks = [] := List.eq_nil_of_length_eq_zero hkl
      have e2 := lin_none hnb
      simp only at e1 e2 hkd
      subst e1; subst e2
      have g := ans_const (f := (⟨kd, (0, []), []⟩ : Node (FT m))) (nt := false) hkd rfl
      have g2 := g.2
      unfold ansF at g2
      rw [g.1, if_neg (by decide)] at g2
      exact ⟨g.1, g2⟩
    · have e1 : ks = [] := List.eq_nil_of_length_eq_zero hkl
      simp only at e1 hkd hcn
      subst e1; subst hkd
      have g := ans_leaf (f := (⟨2, l, []⟩ : Node (FT m))) (nt := false) (.inl rfl)
      obtain ⟨q1, q2⟩ := leaf_canon hcn false
      have g2 := g.2
      simp only at g2 q1 q2
      rw [q1] at g2
      have e3 : farF (m + 1) (⟨2, l, []⟩ : Node (FT m)) = false := by
        cases hh : farF (m + 1) (⟨2, l, []⟩ : Node (FT m))
        · rfl
        · rw [hh, if_pos rfl] at g2; omega
      refine ⟨e3, ?_⟩
      have g1 := g.1
      unfold ansF at g1
      rw [e3, if_neg (by decide)] at g1
      refine g1.trans ?_
      show liftF (m + 1) (leafForm 2 l.1 l.2 false) = _
      rw [q2, liftF_to]
      rfl
    · obtain ⟨k, hk1⟩ := List.length_eq_one_iff.1 hkl
      have e2 := lin_none hnb
      simp only at hk1 e2 hkd
      subst hk1; subst e2; subst hkd
      have hk := hks k (by simp)
      match m, k, hk, hk0 with
      | 0, _, hk, _ => cases hk
      | m + 1, (⟨kd, l, ks⟩ : Node (FT m)), hk, hk0 =>
        have hkd : kd = 2 := hk0
        subst hkd
        obtain ⟨hok, _⟩ := only_parts hk
        rcases okB_cases hok with ⟨hkd, _, _⟩ | ⟨_, hcn, hkl⟩ | ⟨hkd, _⟩ | ⟨hkd, _⟩
        · simp only at hkd; omega
        · have e1 : ks = [] := List.eq_nil_of_length_eq_zero hkl
          simp only at e1 hcn
          subst e1
          have g := ans_leaf (f := (⟨2, l, []⟩ : Node (FT m))) (nt := true) (.inl rfl)
          obtain ⟨q1, q2⟩ := leaf_canon hcn true
          have g2 := g.2
          simp only at g2 q1 q2
          rw [q1] at g2
          have e3 : farF (m + 1) (⟨2, l, []⟩ : Node (FT m)) = false := by
            cases hh : farF (m + 1) (⟨2, l, []⟩ : Node (FT m))
            · rfl
            · rw [hh, if_pos rfl] at g2; omega
          have g1 := g.1
          unfold ansF at g1
          rw [e3, if_neg (by decide)] at g1
          have w := ans_not (f := (⟨4, (0, []), [(⟨2, l, []⟩ : Node (FT m))]⟩ : Node (FT (m + 1)))) (nt := false) rfl rfl
          have e4 := w.2.trans e3
          refine ⟨e4, ?_⟩
          have w1 := w.1
          unfold ansF at w1
          rw [e4, e3, if_neg (by decide), if_neg (by decide)] at w1
          refine w1.trans ?_
          rw [show (!false) = true from rfl, g1]
          show upF (3 + (m + 1)) (liftF (m + 1) (leafForm 2 l.1 l.2 true)) = _
          rw [q2, liftF_to, upF_to, toF_toF _ _ _ _ (by omega)]
          rfl
        · simp only at hkd; omega
        · simp only at hkd; omega
    · have e2 := lin_none hnb
      simp only at e2 hkd hks
      subst e2
      have w := ans_many (f := (⟨kd, (0, []), ks⟩ : Node (FT m))) (nt := false) hkd
      have e3 : ks.any (farF m) = false := by
        rw [List.any_eq_false]
        intro k hk
        rw [(norm_self m k (hks k hk)).1]; decide
      have e4 : farF (m + 1) (⟨kd, (0, []), ks⟩ : Node (FT m)) = false := w.1.trans e3
      refine ⟨e4, ?_⟩
      have w2 := w.2
      unfold ansF at w2
      simp only at w2
      rw [e4, e3, if_neg (by decide), if_neg (by decide), if_neg (by decide)] at w2
      refine w2.trans ?_
      have e5 : ks.map (fun k => normF m k false) = ks.map (toF (3 + m) m) := List.map_congr_left (fun k hk => (norm_self m k (hks k hk)).2)
      rw [e5]
      rfl

/-! What is normalized is made of literals. -/
theorem gcd_fold_div (g : Nat) (hg : 0 < g) : ∀ (t : List Mono) (a : Nat), (∀ m ∈ t, (g : Int) ∣ m.2) → (divT t (g : Int)).foldl (fun x m => Nat.gcd x m.2.natAbs) a * g = t.foldl (fun x m => Nat.gcd x m.2.natAbs) (a * g)
  | [], a, _ => rfl
  | m :: t, a, h => by
    have hm := h m (by simp)
    obtain ⟨q, hq⟩ := hm
    have e : Int.tdiv m.2 (g : Int) = q := by rw [hq]; exact Int.mul_tdiv_cancel_left q (by omega)
    have ih := gcd_fold_div g hg t (Nat.gcd a q.natAbs) (fun m hm => h m (by simp [hm]))
    have e2 : Nat.gcd (a * g) m.2.natAbs = Nat.gcd a q.natAbs * g := by
      rw [hq, Int.natAbs_mul, Int.natAbs_natCast, Nat.mul_comm g, Nat.gcd_mul_right]
    show (divT t (g : Int)).foldl (fun x m => Nat.gcd x m.2.natAbs) (Nat.gcd a (Int.tdiv m.2 (g : Int)).natAbs) * g = t.foldl (fun x m => Nat.gcd x m.2.natAbs) (Nat.gcd (a * g) m.2.natAbs)
    rw [e, e2]
    exact ih
theorem gcd_div {c : Int} {t : List Mono} (hB : linB c t = true) (hne : 0 < t.length) : gcdN (divT t (gcdN t)) = 1 := by
  have hg := gcdN_pos hB hne
  have h := gcd_fold_div (gcdN t) hg t 0 (fun m hm => gcdN_dvd hm)
  rw [Nat.zero_mul] at h
  have e : gcdN (divT t (gcdN t)) * gcdN t = gcdN t := h
  exact Nat.eq_of_mul_eq_mul_right hg (by omega)
theorem gcd_neg (t : List Mono) : gcdN (scale (-1) t) = gcdN t := by
  unfold gcdN scale
  rw [List.foldl_map]
  congr 1
  funext x m
  have : (-1 * m.2).natAbs = m.2.natAbs := by omega
  simp only [this]
/-- A literal that is canonical, or FTrue or FFalse. -/
def LitC (x : FT 2) : Prop := x = leaf2 0 ∨ x = leaf2 1 ∨ ∃ l : Lin, canonB l.1 l.2 = true ∧ (x = le2 l ∨ x = not2 l)
theorem litForm_canon {c : Int} {t : List Mono} (h : litErr c t = 0) : LitC (litForm c t) := by
  unfold litErr at h
  unfold litForm
  split at h
  · rename_i hB
    rw [if_pos hB]
    split at h
    · rename_i hl
      rw [if_pos hl]
      split
      · exact .inl rfl
      · exact .inr (.inl rfl)
    · rename_i hl
      rw [if_neg hl]
      have hne : 0 < t.length := by omega
      have hL := linB_div hB hne
      have hG := gcd_div hB hne
      split at h
      · rename_i hp
        rw [if_pos hp]
        refine .inr (.inr ⟨(upI c (gcdN t), divT t (gcdN t)), ?_, .inl rfl⟩)
        unfold canonB
        rw [hL, hG]
        simp only [Bool.true_and, decide_true, Bool.and_true, decide_eq_true_eq]
        exact hp
      · rename_i hp
        rw [if_neg hp]
        split at h
        · rename_i hc
          rw [if_pos hc]
          refine .inr (.inr ⟨(1 - upI c (gcdN t), scale (-1) (divT t (gcdN t))), ?_, .inr rfl⟩)
          have hN := linB_neg hL
          obtain ⟨_, h2, h3⟩ := linB_sound hN
          have hN2 : linB (1 - upI c (gcdN t)) (scale (-1) (divT t (gcdN t))) = true := by
            unfold linB at hN ⊢
            simp only [Bool.and_eq_true] at hN ⊢
            exact ⟨⟨hc, hN.1.2⟩, hN.2⟩
          have hlen : 0 < (divT t (gcdN t)).length := by rw [divT_len]; exact hne
          have hlen2 : 0 < (scale (-1) (divT t (gcdN t))).length := by rw [scale_len]; exact hlen
          have e1 : (scale (-1) (divT t (gcdN t))).getD 0 (0, 0) = (((divT t (gcdN t))[0]'hlen).1, -1 * ((divT t (gcdN t))[0]'hlen).2) := by
            rw [List.getD_eq_getElem?_getD, List.getElem?_eq_getElem hlen2, scale_get hlen2]; rfl
          have e2 : (divT t (gcdN t)).getD 0 (0, 0) = (divT t (gcdN t))[0]'hlen := by
            rw [List.getD_eq_getElem?_getD, List.getElem?_eq_getElem hlen]; rfl
          have hz : ((divT t (gcdN t))[0]'hlen).2 ≠ 0 := ((linB_sound hL).2.2 0 hlen).2.2.1
          rw [e2] at hp
          unfold canonB
          simp only
          rw [hN2, gcd_neg, hG, e1]
          simp only [Bool.true_and, decide_true, Bool.and_true, decide_eq_true_eq]
          omega
        · omega
  · omega
theorem opp_canon {x : FT 2} (h : LitC x) : LitC (oppL x) := by
  rcases h with rfl | rfl | ⟨l, hl, rfl | rfl⟩
  · exact .inr (.inl rfl)
  · exact .inl rfl
  · exact .inr (.inr ⟨l, hl, .inr rfl⟩)
  · exact .inr (.inr ⟨l, hl, .inl rfl⟩)
theorem only_const (N : Nat) (kd : Int) (h : kd = 0 ∨ kd = 1) : onlyF (N + 1) (⟨kd, (0, []), []⟩ : Node (FT N)) = true := by
  have e : onlyF (N + 1) (⟨kd, (0, []), []⟩ : Node (FT N)) = (okB kd true (canonB 0 []) 0 (kind0 N []) && true) := rfl
  rw [e]
  rcases h with rfl | rfl <;> simp [okB]
theorem only_leaf (N : Nat) {l : Lin} (h : canonB l.1 l.2 = true) : onlyF (N + 1) (⟨2, l, []⟩ : Node (FT N)) = true := by
  have e : onlyF (N + 1) (⟨2, l, []⟩ : Node (FT N)) = (okB 2 (noneB l.1 l.2.length) (canonB l.1 l.2) 0 (kind0 N []) && true) := rfl
  rw [e, h]
  simp [okB]
theorem only_gate (N : Nat) {kd : Int} {ks : List (FT N)} (hk : kd = 5 ∨ kd = 6) (h : ∀ k ∈ ks, onlyF N k = true) : onlyF (N + 1) (⟨kd, (0, []), ks⟩ : Node (FT N)) = true := by
  have e : onlyF (N + 1) (⟨kd, (0, []), ks⟩ : Node (FT N)) = (okB kd true (canonB 0 []) ks.length (kind0 N ks) && ks.all (onlyF N)) := rfl
  rw [e, List.all_eq_true.2 h]
  rcases hk with rfl | rfl <;> simp [okB]
theorem only_lit (N : Nat) {x : FT 2} (h : LitC x) : onlyF (N + 2) (toF (N + 2) 2 x) = true := by
  rcases h with rfl | rfl | ⟨l, hl, rfl | rfl⟩
  · exact only_const _ 0 (.inl rfl)
  · exact only_const _ 1 (.inr rfl)
  · exact only_leaf _ hl
  · have h1 := only_leaf N hl
    have e : onlyF (N + 2) (toF (N + 2) 2 (not2 l)) = (okB 4 true (canonB 0 []) 1 2 && (onlyF (N + 1) (⟨2, l, []⟩ : Node (FT N)) && true)) := rfl
    rw [e, h1]
    simp [okB]
theorem only_to : ∀ (N : Nat) (x : FT N), onlyF N x = true → onlyF (N + 1) (upF N x) = true
  | 0, _, h => by cases h
  | N + 1, (⟨kd, l, ks⟩ : Node (FT N)), h => by
    obtain ⟨hok, hks⟩ := only_parts h
    have e : onlyF (N + 2) (upF (N + 1) (⟨kd, l, ks⟩ : Node (FT N))) = (okB kd (noneB l.1 l.2.length) (canonB l.1 l.2) (ks.map (upF N)).length (kind0 (N + 1) (ks.map (upF N))) && (ks.map (upF N)).all (onlyF (N + 1))) := rfl
    have e2 : (ks.map (upF N)).all (onlyF (N + 1)) = true := by
      rw [List.all_eq_true]
      intro k hk
      obtain ⟨k', hk', rfl⟩ := List.mem_map.1 hk
      exact only_to N k' (hks k' hk')
    rw [e, e2, Bool.and_true, List.length_map]
    simp only at hok
    rcases okB_cases hok with ⟨hkd, hnb, hkl⟩ | ⟨hkd, hcn, hkl⟩ | ⟨hkd, hnb, hkl, hk0⟩ | ⟨hkd, hnb⟩
    · rw [hnb, hkl]; rcases hkd with rfl | rfl <;> simp [okB]
    · rw [hcn, hkl, hkd]; simp [okB]
    · obtain ⟨k, hk1⟩ := List.length_eq_one_iff.1 hkl
      subst hk1
      have hkk : kindF N k = 2 := hk0
      have e3 : kind0 (N + 1) (([k] : List (FT N)).map (upF N)) = 2 := by
        match N, k, hkk with
        | 0, _, h => cases h
        | N + 1, (⟨kd, l, ks⟩ : Node (FT N)), h => exact h
      rw [hnb, hkl, hkd, e3]; simp [okB]
    · rw [hnb]; rcases hkd with rfl | rfl <;> simp [okB]
theorem norm_only : ∀ (n : Nat) (f : FT n) (nt : Bool), fineF n f = true → farF n f = false → onlyF (3 + n) (normF n f nt) = true
  | 0, _, _, h, _ => by cases h
  | n + 1, (⟨kd, l, ks⟩ : Node (FT n)), nt, hf, hfar => by
    obtain ⟨hok, hks⟩ := fine_kids hf
    rcases okS_cases hok with ⟨hkd, hnb, hkl⟩ | ⟨hkd, hlb, hkl⟩ | ⟨hkd, hnb, hkl⟩ | ⟨hkd, hnb⟩
    · have e1 : ks = [] := List.eq_nil_of_length_eq_zero hkl
      subst e1
      have g := (ans_const (f := (⟨kd, l, []⟩ : Node (FT n))) (nt := nt) hkd rfl).2
      unfold ansF at g
      rw [hfar, if_neg (by decide)] at g
      rw [g]
      refine only_const (3 + n) _ ?_
      simp only at hkd ⊢
      split <;> omega
    · have g := ans_leaf (f := (⟨kd, l, ks⟩ : Node (FT n))) (nt := nt) hkd
      have g1 := g.1
      have g2 := g.2
      unfold ansF at g1
      rw [hfar, if_neg (by decide)] at g1 g2
      rw [g1, liftF_to]
      simp only at g2 hkd hlb ⊢
      clear g g1 hok hks hf hfar hkl
      have g3 : leafErr kd l.1 l.2 = 0 := g2.symm
      unfold leafForm
      rw [g3, if_neg (by decide)]
      unfold leafErr at g3
      have h1 : litErr l.1 l.2 = 0 := by
        rcases litErr_two hlb with h | h
        · exact h
        · rw [h, if_pos (by decide)] at g3; omega
      have c1 := litForm_canon h1
      by_cases hk2 : kd = 2
      · rw [if_pos hk2]
        have hy : LitC (if nt = true then oppL (litForm l.1 l.2) else litForm l.1 l.2) := by
          split
          · exact opp_canon c1
          · exact c1
        generalize (if nt = true then oppL (litForm l.1 l.2) else litForm l.1 l.2) = y at *
        rw [upF_to, toF_toF _ _ _ _ (by omega)]
        obtain ⟨q, hq⟩ : ∃ q, 3 + (n + 1) = q + 2 := ⟨n + 2, by omega⟩
        rw [hq]
        exact only_lit q hy
      · rw [if_neg hk2]
        have h2 : litErr (-l.1) (scale (-1) l.2) = 0 := by
          rcases litErr_two (linB_neg hlb) with h | h
          · exact h
          · rw [h1, if_neg (by decide), if_neg hk2, h, if_pos (by decide)] at g3; omega
        have c2 := litForm_canon h2
        generalize litForm l.1 l.2 = y1 at *
        generalize litForm (-l.1) (scale (-1) l.2) = y2 at *
        have key : ∀ (kk : Int) (z1 z2 : FT 2), kk = 5 ∨ kk = 6 → LitC z1 → LitC z2 → onlyF (3 + (n + 1)) (toF (3 + (n + 1)) 3 (⟨kk, (0, []), [z1, z2]⟩ : Node (FT 2))) = true := fun kk z1 z2 hkk hz1 hz2 => by
          have e : toF (3 + (n + 1)) 3 (⟨kk, (0, []), [z1, z2]⟩ : Node (FT 2)) = (⟨kk, (0, []), [toF (3 + n) 2 z1, toF (3 + n) 2 z2]⟩ : Node (FT (3 + n))) := rfl
          rw [e]
          have hl : ∀ z, LitC z → onlyF (3 + n) (toF (3 + n) 2 z) = true := fun z hz => by
            obtain ⟨q, hq⟩ : ∃ q, 3 + n = q + 2 := ⟨n + 1, by omega⟩
            rw [hq]
            exact only_lit q hz
          refine only_gate (3 + n) hkk (fun k hk => ?_)
          rcases List.mem_cons.1 hk with rfl | hk
          · exact hl _ hz1
          · rcases List.mem_cons.1 hk with rfl | hk
            · exact hl _ hz2
            · cases hk
        cases nt
        · exact key 5 _ _ (.inl rfl) c1 c2
        · exact key 6 _ _ (.inr rfl) (opp_canon c1) (opp_canon c2)
    · obtain ⟨k, hk1⟩ := List.length_eq_one_iff.1 hkl
      simp only at hk1 hkd
      subst hk1; subst hkd
      have w := ans_not (f := (⟨4, l, [k]⟩ : Node (FT n))) (nt := nt) rfl rfl
      have e3 : farF n k = false := w.2.symm.trans hfar
      have w1 := w.1
      unfold ansF at w1
      rw [hfar, e3, if_neg (by decide), if_neg (by decide)] at w1
      rw [w1]
      exact only_to _ _ (norm_only n k (!nt) (hks k (by simp)) e3)
    · have w := ans_many (f := (⟨kd, l, ks⟩ : Node (FT n))) (nt := nt) hkd
      have e3 : ks.any (farF n) = false := w.1.symm.trans hfar
      have w2 := w.2
      unfold ansF at w2
      simp only at w2 hkd
      rw [hfar, e3, if_neg (by decide), if_neg (by decide)] at w2
      rw [w2]
      refine only_gate (3 + n) (by split <;> omega) (fun k hk => ?_)
      obtain ⟨k', hk', rfl⟩ := List.mem_map.1 hk
      exact norm_only n k' nt (hks k' hk') (by
        have := List.any_eq_false.1 e3 k' hk'
        simpa using this)
/-- Normalized again. -/
theorem res_zero {n : Nat} {f : FT n} (h : resE n f = 0) : chkF n f = 0 ∧ farF n f = false ∧ resF n f = normF n f false := by
  unfold resE at h
  split at h
  · rename_i hc
    have hf : farF n f = false := by
      cases hh : farF n f
      · rfl
      · rw [hh, if_pos rfl] at h; omega
    refine ⟨hc, hf, ?_⟩
    unfold resF ansF
    rw [if_pos hc, hf, if_neg (by decide)]
  · rename_i hc; exact absurd h hc
theorem twice_law {n : Nat} {f : FT n} (h : resE n f = 0) (g : resE (3 + n) (resF n f) = 0) : resF (3 + n) (resF n f) = toF (3 + (3 + n)) (3 + n) (resF n f) := by
  obtain ⟨h1, h2, h3⟩ := res_zero h
  obtain ⟨_, _, g3⟩ := res_zero g
  rw [g3]
  rw [h3]
  exact (norm_self _ _ (norm_only n f false (chkF_zero h1).2.2 h2)).2
end Go.Proofs.Ytlejcnbpodmleaa
/- NrmR -/
namespace Go.Proofs.Ytlejcnbpodmleaa
open Go Go.RowKit

/-- Is it no deeper than that? -/
def deepLe : (n : Nat) → Nat → FT n → Prop
  | 0, _, _ => True
  | _ + 1, 0, _ => False
  | n + 1, b + 1, f => ∀ k ∈ Node.kids f, deepLe n b k
theorem deep_iff : ∀ (n b : Nat) (f : FT n), depthF n f b ≤ b ↔ deepLe n b f
  | 0, _, _ => by simp [depthF, deepLe]
  | _ + 1, 0, _ => by simp [depthF, deepLe]
  | n + 1, b + 1, f => by
    unfold depthF deepLe
    have h := foldl_max_le (fun k => depthF n k b) b (Node.kids f) 0
    constructor
    · intro g k hk
      exact (deep_iff n b k).1 ((h.1 (by omega)).2 k hk)
    · intro g
      have := h.2 ⟨Nat.zero_le _, fun k hk => (deep_iff n b k).2 (g k hk)⟩
      omega
theorem deep_mono : ∀ (n b : Nat) (f : FT n), deepLe n b f → deepLe n (b + 1) f
  | 0, _, _, _ => trivial
  | _ + 1, 0, _, h => h.elim
  | n + 1, b + 1, _, h => fun k hk => deep_mono n b k (h k hk)

/-- All that is said of a tree that was made. -/
structure GoodT (v : List Int) (N : Nat) (x : FT N) (b : Bool) (d c : Nat) : Prop where
  tru : truF N (valOf v) x = b
  near : nearF N v x = true
  deep : deepLe N d x
  cnt : cntF N x ≤ c

theorem far_divT (vs : List Int) (t : List Mono) (g : Int) : farAny vs (divT t g) = farAny vs t := by
  unfold farAny divT
  rw [List.any_map]
  rfl
theorem far_scale (vs : List Int) (x : Int) (t : List Mono) : farAny vs (scale x t) = farAny vs t := by
  unfold farAny scale
  rw [List.any_map]
  rfl
theorem val_scaleQ (f : Int → Int) (x : Int) (t : List Mono) : val f (scale x t) = x * val f t := by
  induction t with
  | nil => simp [scale, val_nil]
  | cons m t ih =>
    have e : scale x (m :: t) = (m.1, x * m.2) :: scale x t := rfl
    rw [e, val_cons, val_cons, ih, Int.mul_add, Int.mul_assoc]
theorem val_div (v : Int → Int) {g : Int} (hg : 1 ≤ g) : ∀ {t : List Mono}, (∀ m ∈ t, g ∣ m.2) → val v t = g * val v (divT t g)
  | [], _ => by simp [divT, val_nil]
  | m :: t, h => by
    have ih := val_div v hg (t := t) (fun x hx => h x (by simp [hx]))
    have e : divT (m :: t) g = (m.1, Int.tdiv m.2 g) :: divT t g := rfl
    rw [e, val_cons, val_cons, ih]
    have hm : m.2 = g * Int.tdiv m.2 g := (Int.mul_tdiv_cancel' (h m (by simp))).symm
    have : m.2 * v m.1 = g * (Int.tdiv m.2 g * v m.1) := by
      rw [← Int.mul_assoc, ← hm]
    show m.2 * v m.1 + g * val v (divT t g) = g * (Int.tdiv m.2 g * v m.1 + val v (divT t g))
    rw [this, Int.mul_add]
theorem up_sign {c g S : Int} (hg : 1 ≤ g) : upI c g + S ≤ 0 ↔ c + g * S ≤ 0 := by
  obtain ⟨h1, h2, _⟩ := up_parts (a := c) hg
  generalize upI c g = u at *
  constructor
  · intro h
    have h3 : u * g ≤ (-S) * g := Int.mul_le_mul_of_nonneg_right (by omega) (by omega)
    have e : (-S) * g = -(g * S) := by rw [Int.neg_mul, Int.mul_comm]
    omega
  · intro h
    by_cases hh : u + S ≤ 0
    · exact hh
    · have h3 : (-S) * g ≤ (u - 1) * g := Int.mul_le_mul_of_nonneg_right (by omega) (by omega)
      have e : (-S) * g = -(g * S) := by rw [Int.neg_mul, Int.mul_comm]
      omega

theorem lit_good {c : Int} {t : List Mono} {vs : List Int} (h : litErr c t = 0) (hn : farAny vs t = false) : GoodT vs 2 (litForm c t) (decide (c + val (valOf vs) t ≤ 0)) 2 2 ∧ LitC (litForm c t) := by
  refine ⟨?_, litForm_canon h⟩
  unfold litErr at h
  unfold litForm
  split at h
  · rename_i hB
    rw [if_pos hB]
    split at h
    · rename_i hl
      rw [if_pos hl]
      have : t = [] := List.eq_nil_of_length_eq_zero hl
      subst this
      rw [val_nil, Int.add_zero]
      by_cases hc : c ≤ 0
      · rw [if_pos hc, decide_eq_true hc]
        exact ⟨rfl, rfl, fun k hk => (by cases hk), by decide⟩
      · rw [if_neg hc, decide_eq_false hc]
        exact ⟨rfl, rfl, fun k hk => (by cases hk), by decide⟩
    · rename_i hl
      rw [if_neg hl]
      have hne : 0 < t.length := by omega
      have hg := gcdN_pos hB hne
      have hd := val_div (valOf vs) (g := (gcdN t : Int)) (by omega) (t := t) (fun m hm => gcdN_dvd hm)
      have hs := up_sign (c := c) (S := val (valOf vs) (divT t (gcdN t))) (show (1 : Int) ≤ (gcdN t : Int) by omega)
      rw [← hd] at hs
      split at h
      · rename_i hp
        rw [if_pos hp]
        refine ⟨?_, ?_, fun k hk => (by cases hk), by show 1 + 0 ≤ 2; omega⟩
        · show decide (upI c (gcdN t) + val (valOf vs) (divT t (gcdN t)) ≤ 0) = _
          rw [Bool.eq_iff_iff, decide_eq_true_eq, decide_eq_true_eq]
          exact hs
        · show (!farAny vs (divT t (gcdN t)) && true) = true
          rw [far_divT, hn]
          rfl
      · rename_i hp
        rw [if_neg hp]
        split at h
        · rename_i hc
          rw [if_pos hc]
          refine ⟨?_, ?_, fun k hk => ?_, by show 1 + (1 + 0 + 0) ≤ 2; omega⟩
          · show (!decide (1 - upI c (gcdN t) + val (valOf vs) (scale (-1) (divT t (gcdN t))) ≤ 0)) = _
            rw [val_scaleQ, Bool.eq_iff_iff, Bool.not_eq_true', decide_eq_false_iff_not, decide_eq_true_eq, ← hs]
            omega
          · show (!farAny vs [] && ((!farAny vs (scale (-1) (divT t (gcdN t))) && true) && true)) = true
            rw [far_scale, far_divT, hn]
            rfl
          · intro k' hk'
            obtain rfl : k = le1 (1 - upI c (gcdN t), scale (-1) (divT t (gcdN t))) := List.mem_singleton.1 hk
            cases hk'
        · omega
  · omega
theorem opp_good {x : FT 2} {vs : List Int} {b : Bool} (h : LitC x) (g : GoodT vs 2 x b 2 2) : GoodT vs 2 (oppL x) (!b) 2 2 := by
  obtain ⟨g1, g2, g3, g4⟩ := g
  rcases h with rfl | rfl | ⟨l, hl, rfl | rfl⟩
  · rw [← g1]; exact ⟨rfl, rfl, fun k hk => (by cases hk), by decide⟩
  · rw [← g1]; exact ⟨rfl, rfl, fun k hk => (by cases hk), by decide⟩
  · rw [← g1]
    refine ⟨rfl, ?_, fun k hk => ?_, by show 1 + (1 + 0 + 0) ≤ 2; omega⟩
    · show (!farAny vs [] && ((!farAny vs l.2 && true) && true)) = true
      have : (!farAny vs l.2 && true) = true := g2
      rw [this]
      rfl
    · intro k' hk'
      obtain rfl : k = (⟨2, l, []⟩ : Node (FT 0)) := List.mem_singleton.1 hk
      cases hk'
  · rw [← g1]
    refine ⟨?_, ?_, fun k hk => (by cases hk), by show 1 + 0 ≤ 2; omega⟩
    · show decide (l.1 + val (valOf vs) l.2 ≤ 0) = !(!decide (l.1 + val (valOf vs) l.2 ≤ 0))
      simp
    · have : (!farAny vs [] && ((!farAny vs l.2 && true) && true)) = true := g2
      show (!farAny vs l.2 && true) = true
      simpa [farAny] using this
theorem to_good {x : FT 2} {vs : List Int} {b : Bool} (h : LitC x) (g : GoodT vs 2 x b 2 2) (N : Nat) : GoodT vs (N + 2) (toF (N + 2) 2 x) b 2 2 := by
  obtain ⟨g1, g2, g3, g4⟩ := g
  rcases h with rfl | rfl | ⟨l, hl, rfl | rfl⟩
  · exact ⟨g1, g2, fun k hk => (by cases hk), g4⟩
  · exact ⟨g1, g2, fun k hk => (by cases hk), g4⟩
  · exact ⟨g1, g2, fun k hk => (by cases hk), g4⟩
  · refine ⟨g1, g2, fun k hk => ?_, g4⟩
    intro k' hk'
    obtain rfl : k = (⟨2, l, []⟩ : Node (FT N)) := List.mem_singleton.1 hk
    cases hk'
/-- A floor more changes nothing. -/
theorem up_good : ∀ (N : Nat) (x : FT N) (vs : List Int) (b : Bool) (d c : Nat), onlyF N x = true → GoodT vs N x b d c → GoodT vs (N + 1) (upF N x) b d c
  | 0, _, _, _, _, _, h, _ => by cases h
  | N + 1, (⟨kd, l, ks⟩ : Node (FT N)), vs, b, d, c, h, ⟨g1, g2, g3, g4⟩ => by
    obtain ⟨hok, hks⟩ := only_parts h
    have hk : ∀ k ∈ ks, ∀ d', deepLe N d' k → GoodT vs (N + 1) (upF N k) (truF N (valOf vs) k) d' (cntF N k) := fun k hk d' hd' => by
      refine up_good N k vs _ d' _ (hks k hk) ⟨rfl, ?_, hd', Nat.le_refl _⟩
      have : (!farAny vs l.2 && ks.all (nearF N vs)) = true := g2
      rw [Bool.and_eq_true] at this
      exact List.all_eq_true.1 this.2 k hk
    obtain ⟨d, rfl⟩ : ∃ e, d = e + 1 := by
      cases d with
      | zero => exact g3.elim
      | succ e => exact ⟨e, rfl⟩
    have g3' : ∀ k ∈ ks, deepLe N d k := g3
    have ht : ∀ k ∈ ks, truF (N + 1) (valOf vs) (upF N k) = truF N (valOf vs) k := fun k hk' => (hk k hk' d (g3' k hk')).tru
    refine ⟨?_, ?_, ?_, ?_⟩
    · rw [← g1]
      show truF (N + 2) (valOf vs) (⟨kd, l, ks.map (upF N)⟩ : Node (FT (N + 1))) = truF (N + 1) (valOf vs) (⟨kd, l, ks⟩ : Node (FT N))
      rw [truF_succ, truF_succ]
      have e1 : ((ks.map (upF N)).head?.map (truF (N + 1) (valOf vs))).getD false = (ks.head?.map (truF N (valOf vs))).getD false := by
        cases ks with
        | nil => rfl
        | cons k t => exact ht k (by simp)
      have e2 : (ks.map (upF N)).all (truF (N + 1) (valOf vs)) = ks.all (truF N (valOf vs)) := by
        rw [List.all_map, Bool.eq_iff_iff, List.all_eq_true, List.all_eq_true]
        exact ⟨fun q k hk' => by rw [← ht k hk']; exact q k hk', fun q k hk' => by show truF (N + 1) (valOf vs) (upF N k) = true; rw [ht k hk']; exact q k hk'⟩
      have e3 : (ks.map (upF N)).any (truF (N + 1) (valOf vs)) = ks.any (truF N (valOf vs)) := by
        rw [List.any_map, Bool.eq_iff_iff, List.any_eq_true, List.any_eq_true]
        exact ⟨fun ⟨k, hk', q⟩ => ⟨k, hk', by rw [← ht k hk']; exact q⟩, fun ⟨k, hk', q⟩ => ⟨k, hk', by show truF (N + 1) (valOf vs) (upF N k) = true; rw [ht k hk']; exact q⟩⟩
      rw [e1, e2, e3]
    · have : (!farAny vs l.2 && ks.all (nearF N vs)) = true := g2
      rw [Bool.and_eq_true] at this
      show (!farAny vs l.2 && (ks.map (upF N)).all (nearF (N + 1) vs)) = true
      rw [this.1, Bool.true_and, List.all_eq_true]
      intro k' hk'
      obtain ⟨k, hk2, rfl⟩ := List.mem_map.1 hk'
      exact (hk k hk2 d (g3' k hk2)).near
    · intro k' hk'
      obtain ⟨k, hk2, rfl⟩ := List.mem_map.1 hk'
      exact (hk k hk2 d (g3' k hk2)).deep
    · have e : cntF (N + 2) (upF (N + 1) (⟨kd, l, ks⟩ : Node (FT N))) = 1 + ((ks.map (upF N)).map (cntF (N + 1))).sum := rfl
      have e2 : cntF (N + 1) (⟨kd, l, ks⟩ : Node (FT N)) = 1 + (ks.map (cntF N)).sum := rfl
      rw [e]
      rw [e2] at g4
      have : ∀ l : List (FT N), (∀ k ∈ l, k ∈ ks) → ((l.map (upF N)).map (cntF (N + 1))).sum ≤ (l.map (cntF N)).sum := by
        intro l
        induction l with
        | nil => intro _; exact Nat.le_refl _
        | cons k t ih =>
          intro hl
          have h1 := ih (fun k hk => hl k (by simp [hk]))
          have h2 := (hk k (hl k (by simp)) d (g3' k (hl k (by simp)))).cnt
          simp only [List.map_cons, List.sum_cons]
          omega
      have := this ks (fun _ h => h)
      omega
end Go.Proofs.Ytlejcnbpodmleaa
/- NrmS -/
namespace Go.Proofs.Ytlejcnbpodmleaa
open Go Go.RowKit

theorem deep_le {n b : Nat} {f : FT n} (h : deepLe n b f) : ∀ {b' : Nat}, b ≤ b' → deepLe n b' f := fun {b'} hb => by
  obtain ⟨j, rfl⟩ := Nat.le.dest hb
  clear hb
  induction j with
  | zero => exact h
  | succ j ih => exact deep_mono n (b + j) f ih
theorem GoodT.mono {v : List Int} {N : Nat} {x : FT N} {b : Bool} {d c d' c' : Nat} (h : GoodT v N x b d c) (hd : d ≤ d') (hc : c ≤ c') : GoodT v N x b d' c' :=
  ⟨h.tru, h.near, deep_le h.deep hd, Nat.le_trans h.cnt hc⟩
theorem is_of {N : Nat} {x : FT N} (h : onlyF N x = true) (hd : deepLe N 128 x) (hc : cntF N x ≤ 20480) : isB N x = true := by
  rw [is_eq]
  have h1 := (deep_iff N 128 x).2 hd
  have h2 := size_of_cnt N x 20480 (by omega)
  simp only [ref03IsB, Bool.and_eq_true, decide_eq_true_eq]
  exact ⟨⟨h1, by omega⟩, h⟩
theorem near_nil : ∀ (n : Nat) (f : FT n), nearF n [] f = true
  | 0, _ => rfl
  | n + 1, f => by
    show (!farAny [] (Node.lin f).2 && (Node.kids f).all (nearF n [])) = true
    have e : farAny [] (Node.lin f).2 = false := by
      unfold farAny
      rw [List.any_eq_false]
      intro m _
      have : valOf [] m.1 = 0 := by unfold valOf; split <;> simp
      rw [this]
      decide
    rw [e, Bool.not_false, Bool.true_and, List.all_eq_true]
    exact fun k _ => near_nil n k
theorem near_mk {n : Nat} {vs : List Int} (kd : Int) (ks : List (FT n)) (h : ∀ k ∈ ks, nearF n vs k = true) : nearF (n + 1) vs (⟨kd, (0, []), ks⟩ : Node (FT n)) = true := by
  show (!farAny vs [] && ks.all (nearF n vs)) = true
  have : farAny vs [] = false := rfl
  rw [this, Bool.not_false, Bool.true_and, List.all_eq_true]
  exact h
theorem deep_pos {n b : Nat} {f : FT (n + 1)} (h : deepLe (n + 1) b f) : ∃ e, b = e + 1 ∧ ∀ k ∈ Node.kids f, deepLe n e k := by
  cases b with
  | zero => exact h.elim
  | succ e => exact ⟨e, rfl, h⟩

def notIf (nt b : Bool) : Bool := if nt = true then !b else b

/-- A gate of good formulas. -/
theorem gate_good {n d c : Nat} {vs : List Int} {b : Bool} (kd : Int) (ks : List (FT n)) (hn : ∀ k ∈ ks, nearF n vs k = true) (hd : ∀ k ∈ ks, deepLe n d k) (hc : 1 + (ks.map (cntF n)).sum ≤ c) (ht : truF (n + 1) (valOf vs) (⟨kd, (0, []), ks⟩ : Node (FT n)) = b) :
    GoodT vs (n + 1) (⟨kd, (0, []), ks⟩ : Node (FT n)) b (d + 1) c :=
  ⟨ht, near_mk kd ks hn, hd, hc⟩

theorem norm_good : ∀ (n : Nat) (f : FT n) (nt : Bool) (vs : List Int) (b : Nat), fineF n f = true → farF n f = false → nearF n vs f = true → deepLe n b f →
    GoodT vs (3 + n) (normF n f nt) (notIf nt (truF n (valOf vs) f)) (b + 2) (5 * cntF n f)
  | 0, _, _, _, _, h, _, _, _ => by cases h
  | n + 1, (⟨kd, l, ks⟩ : Node (FT n)), nt, vs, b, hf, hfar, hnear, hdeep => by
    obtain ⟨hok, hks⟩ := fine_kids hf
    obtain ⟨hn1, hn2⟩ := near_parts hnear
    obtain ⟨d, rfl, hd⟩ := deep_pos hdeep
    have ecnt : cntF (n + 1) (⟨kd, l, ks⟩ : Node (FT n)) = 1 + (ks.map (cntF n)).sum := rfl
    rw [ecnt]
    rcases okS_cases hok with ⟨hkd, hnb, hkl⟩ | ⟨hkd, hlb, hkl⟩ | ⟨hkd, hnb, hkl⟩ | ⟨hkd, hnb⟩
    · have e1 : ks = [] := List.eq_nil_of_length_eq_zero hkl
      subst e1
      have g := (ans_const (f := (⟨kd, l, []⟩ : Node (FT n))) (nt := nt) hkd rfl).2
      unfold ansF at g
      rw [hfar, if_neg (by decide)] at g
      rw [g]
      refine (gate_good (d := 0) (c := 1) (n := 3 + n) _ [] (fun k hk => by cases hk) (fun k hk => by cases hk) (by simp) ?_).mono (by omega) (by simp)
      rw [truF_succ, truF_succ]
      simp only at hkd ⊢
      rcases hkd with rfl | rfl <;> cases nt <;> rfl
    · have g := ans_leaf (f := (⟨kd, l, ks⟩ : Node (FT n))) (nt := nt) hkd
      have g1 := g.1
      have g2 := g.2
      unfold ansF at g1
      rw [hfar, if_neg (by decide)] at g1 g2
      rw [g1, liftF_to]
      simp only at g2 hkd hlb hn1 ⊢
      rw [truF_succ]
      clear g g1 hok hks hf hfar hkl hnear hdeep hd hn2 ecnt
      have hfive : 5 ≤ 5 * (1 + (ks.map (cntF n)).sum) := by omega
      generalize 5 * (1 + (ks.map (cntF n)).sum) = C at *
      have g3 : leafErr kd l.1 l.2 = 0 := g2.symm
      unfold leafForm
      rw [g3, if_neg (by decide)]
      unfold leafErr at g3
      have h1 : litErr l.1 l.2 = 0 := by
        rcases litErr_two hlb with h | h
        · exact h
        · rw [h, if_pos (by decide)] at g3; omega
      obtain ⟨c1, l1⟩ := lit_good h1 hn1
      by_cases hk2 : kd = 2
      · subst hk2
        rw [if_neg (by decide : ¬ (2 : Int) = 0), if_neg (by decide : ¬ (2 : Int) = 1)]
        repeat rw [if_pos (rfl : (2 : Int) = 2)]
        have hy : GoodT vs 2 (if nt = true then oppL (litForm l.1 l.2) else litForm l.1 l.2) (notIf nt (decide (l.1 + val (valOf vs) l.2 ≤ 0))) 2 2 ∧ LitC (if nt = true then oppL (litForm l.1 l.2) else litForm l.1 l.2) := by
          cases nt
          · exact ⟨c1, l1⟩
          · exact ⟨opp_good l1 c1, opp_canon l1⟩
        generalize (if nt = true then oppL (litForm l.1 l.2) else litForm l.1 l.2) = y at *
        rw [upF_to, toF_toF _ _ _ _ (by omega)]
        obtain ⟨q, hq⟩ : ∃ q, 3 + (n + 1) = q + 2 := ⟨n + 2, by omega⟩
        rw [hq]
        exact (to_good hy.2 hy.1 q).mono (by omega) (by omega)
      · repeat rw [if_neg hk2]
        obtain rfl : kd = 3 := hkd.resolve_left hk2
        have h2 : litErr (-l.1) (scale (-1) l.2) = 0 := by
          rcases litErr_two (linB_neg hlb) with h | h
          · exact h
          · rw [h1, if_neg (by decide), if_neg hk2, h, if_pos (by decide)] at g3; omega
        obtain ⟨c2, l2⟩ := lit_good h2 (by rw [far_scale]; exact hn1)
        rw [val_scaleQ] at c2
        rw [if_neg (by decide : ¬ (3 : Int) = 0), if_neg (by decide : ¬ (3 : Int) = 1), if_pos (rfl : (3 : Int) = 3)]
        generalize val (valOf vs) l.2 = V at *
        generalize litForm l.1 l.2 = y1 at *
        generalize litForm (-l.1) (scale (-1) l.2) = y2 at *
        have key : ∀ (kk : Int) (z1 z2 : FT 2) (b1 b2 bb : Bool), (kk = 5 ∧ bb = (b1 && b2) ∨ kk = 6 ∧ bb = (b1 || b2)) → LitC z1 → LitC z2 → GoodT vs 2 z1 b1 2 2 → GoodT vs 2 z2 b2 2 2 → GoodT vs (3 + (n + 1)) (toF (3 + (n + 1)) 3 (⟨kk, (0, []), [z1, z2]⟩ : Node (FT 2))) bb (d + 1 + 2) C := fun kk z1 z2 b1 b2 bb hkk hz1 hz2 q1 q2 => by
          have e : toF (3 + (n + 1)) 3 (⟨kk, (0, []), [z1, z2]⟩ : Node (FT 2)) = (⟨kk, (0, []), [toF (3 + n) 2 z1, toF (3 + n) 2 z2]⟩ : Node (FT (3 + n))) := rfl
          rw [e]
          obtain ⟨r1, r2⟩ : GoodT vs (3 + n) (toF (3 + n) 2 z1) b1 2 2 ∧ GoodT vs (3 + n) (toF (3 + n) 2 z2) b2 2 2 := by
            obtain ⟨q, hq⟩ : ∃ q, 3 + n = q + 2 := ⟨n + 1, by omega⟩
            rw [hq]
            exact ⟨to_good hz1 q1 q, to_good hz2 q2 q⟩
          generalize toF (3 + n) 2 z1 = x1 at *
          generalize toF (3 + n) 2 z2 = x2 at *
          refine (gate_good (d := 2) (c := 5) kk [x1, x2] (fun k hk => ?_) (fun k hk => ?_) ?_ ?_).mono (by omega) hfive
          · rcases List.mem_cons.1 hk with rfl | hk
            · exact r1.near
            · rcases List.mem_cons.1 hk with rfl | hk
              · exact r2.near
              · cases hk
          · rcases List.mem_cons.1 hk with rfl | hk
            · exact r1.deep
            · rcases List.mem_cons.1 hk with rfl | hk
              · exact r2.deep
              · cases hk
          · have := r1.cnt; have := r2.cnt
            simp only [List.map_cons, List.sum_cons, List.map_nil, List.sum_nil]
            omega
          · rw [truF_succ]
            rcases hkk with ⟨rfl, rfl⟩ | ⟨rfl, rfl⟩
            · rw [if_neg (by decide), if_neg (by decide), if_neg (by decide), if_neg (by decide), if_neg (by decide), if_pos rfl]
              simp only [List.all_cons, List.all_nil, Bool.and_true, r1.tru, r2.tru]
            · rw [if_neg (by decide), if_neg (by decide), if_neg (by decide), if_neg (by decide), if_neg (by decide), if_neg (by decide)]
              simp only [List.any_cons, List.any_nil, Bool.or_false, r1.tru, r2.tru]
        cases nt
        · refine key 5 _ _ _ _ _ (.inl ⟨rfl, ?_⟩) l1 l2 c1 c2
          show decide (l.1 + V = 0) = _
          rw [Bool.eq_iff_iff, Bool.and_eq_true, decide_eq_true_eq, decide_eq_true_eq, decide_eq_true_eq]
          omega
        · refine key 6 _ _ _ _ _ (.inr ⟨rfl, ?_⟩) (opp_canon l1) (opp_canon l2) (opp_good l1 c1) (opp_good l2 c2)
          show (!decide (l.1 + V = 0)) = _
          rw [← Bool.not_and]
          congr 1
          rw [Bool.eq_iff_iff, Bool.and_eq_true, decide_eq_true_eq, decide_eq_true_eq, decide_eq_true_eq]
          omega
    · obtain ⟨k, hk1⟩ := List.length_eq_one_iff.1 hkl
      simp only at hk1 hkd
      subst hk1; subst hkd
      have w := ans_not (f := (⟨4, l, [k]⟩ : Node (FT n))) (nt := nt) rfl rfl
      have e3 : farF n k = false := w.2.symm.trans hfar
      have w1 := w.1
      unfold ansF at w1
      rw [hfar, e3, if_neg (by decide), if_neg (by decide)] at w1
      rw [w1]
      have ih := norm_good n k (!nt) vs d (hks k (by simp)) e3 (hn2 k (by simp)) (hd k List.mem_cons_self)
      have ho := norm_only n k (!nt) (hks k (by simp)) e3
      have := (up_good _ _ _ _ _ _ ho ih).mono (d' := d + 1 + 2) (c' := 5 * (1 + (([k] : List (FT n)).map (cntF n)).sum)) (by omega) (by simp only [List.map_cons, List.sum_cons, List.map_nil, List.sum_nil]; omega)
      have e : notIf (!nt) (truF n (valOf vs) k) = notIf nt (truF (n + 1) (valOf vs) (⟨4, l, [k]⟩ : Node (FT n))) := by
        rw [truF_succ]
        show _ = notIf nt (!truF n (valOf vs) k)
        cases nt <;> simp [notIf]
      rw [← e]
      exact this
    · have w := ans_many (f := (⟨kd, l, ks⟩ : Node (FT n))) (nt := nt) hkd
      have e3 : ks.any (farF n) = false := w.1.symm.trans hfar
      have w2 := w.2
      unfold ansF at w2
      simp only at w2 hkd
      rw [hfar, e3, if_neg (by decide), if_neg (by decide)] at w2
      rw [w2]
      have ih : ∀ k ∈ ks, GoodT vs (3 + n) (normF n k nt) (notIf nt (truF n (valOf vs) k)) (d + 2) (5 * cntF n k) := fun k hk =>
        norm_good n k nt vs d (hks k hk) (by
          have := List.any_eq_false.1 e3 k hk
          simpa using this) (hn2 k hk) (hd k hk)
      refine gate_good (d := d + 2) (n := 3 + n) _ _ (fun k hk => ?_) (fun k hk => ?_) ?_ ?_
      · obtain ⟨k', hk', rfl⟩ := List.mem_map.1 hk
        exact (ih k' hk').near
      · obtain ⟨k', hk', rfl⟩ := List.mem_map.1 hk
        exact (ih k' hk').deep
      · have : ∀ l : List (FT n), (∀ k ∈ l, k ∈ ks) → ((l.map (fun k => normF n k nt)).map (cntF (3 + n))).sum ≤ 5 * (l.map (cntF n)).sum := by
          intro l
          induction l with
          | nil => intro _; exact Nat.le_refl _
          | cons k t iht =>
            intro hl
            have h1 := iht (fun k hk => hl k (by simp [hk]))
            have h2 := (ih k (hl k (by simp))).cnt
            simp only [List.map_cons, List.sum_cons]
            omega
        have := this ks (fun _ h => h)
        omega
      · have ea : ∀ k ∈ ks, truF (3 + n) (valOf vs) (normF n k nt) = notIf nt (truF n (valOf vs) k) := fun k hk => (ih k hk).tru
        have al : (ks.map (fun k => normF n k nt)).all (truF (3 + n) (valOf vs)) = ks.all (fun k => notIf nt (truF n (valOf vs) k)) := by
          rw [List.all_map]
          clear hn1 hks hok hnb hf hfar hnear hdeep hd ecnt w w2 hn2 ih e3
          induction ks with
          | nil => rfl
          | cons k t iht =>
            rw [List.all_cons, List.all_cons, iht (fun k hk => ea k (by simp [hk]))]
            show (truF (3 + n) (valOf vs) (normF n k nt) && _) = _
            rw [ea k (by simp)]
        have an : (ks.map (fun k => normF n k nt)).any (truF (3 + n) (valOf vs)) = ks.any (fun k => notIf nt (truF n (valOf vs) k)) := by
          rw [List.any_map]
          clear hn1 hks hok hnb hf hfar hnear hdeep hd ecnt w w2 hn2 ih e3 al
          induction ks with
          | nil => rfl
          | cons k t iht =>
            rw [List.any_cons, List.any_cons, iht (fun k hk => ea k (by simp [hk]))]
            show (truF (3 + n) (valOf vs) (normF n k nt) || _) = _
            rw [ea k (by simp)]
        rw [truF_succ, truF_succ, al, an]
        have n1 : ∀ t : List (FT n), t.all (fun k => !truF n (valOf vs) k) = !t.any (truF n (valOf vs)) := fun t => by
          induction t with
          | nil => rfl
          | cons k t ih => rw [List.all_cons, List.any_cons, ih, Bool.not_or]
        have n2 : ∀ t : List (FT n), t.any (fun k => !truF n (valOf vs) k) = !t.all (truF n (valOf vs)) := fun t => by
          induction t with
          | nil => rfl
          | cons k t ih => rw [List.any_cons, List.all_cons, ih, Bool.not_and]
        rcases hkd with rfl | rfl <;> cases nt
        · rfl
        · exact n2 ks
        · rfl
        · exact n1 ks
/-- A formula normalized is normalized, and as true as it was. -/
theorem norm_right {n : Nat} {f : FT n} (h : resE n f = 0) : isB (3 + n) (resF n f) = true ∧ ∀ vs, nearF n vs f = true → truF (3 + n) (valOf vs) (resF n f) = truF n (valOf vs) f ∧ nearF (3 + n) vs (resF n f) = true := by
  obtain ⟨h1, h2, h3⟩ := res_zero h
  obtain ⟨c1, c2, c3⟩ := chkF_zero h1
  rw [h3]
  have hd := (deep_iff n 64 f).1 c1
  refine ⟨?_, fun vs hv => ?_⟩
  · have g := norm_good n f false [] 64 c3 h2 (near_nil n f) hd
    exact is_of (norm_only n f false c3 h2) (deep_le g.deep (by omega)) (by have := g.cnt; omega)
  · have g := norm_good n f false vs 64 c3 h2 hv hd
    exact ⟨g.tru, g.near⟩
theorem lit_right {c : Int} {t : List Mono} (h : litErr c t = 0) : isB 2 (litForm c t) = true ∧ ∀ vs, farAny vs t = false → truF 2 (valOf vs) (litForm c t) = decide (c + val (valOf vs) t ≤ 0) ∧ nearF 2 vs (litForm c t) = true := by
  refine ⟨?_, fun vs hv => ?_⟩
  · have hn : farAny [] t = false := by
      unfold farAny
      rw [List.any_eq_false]
      intro m _
      have : valOf [] m.1 = 0 := by unfold valOf; split <;> simp
      rw [this]
      decide
    obtain ⟨g, hl⟩ := lit_good h hn
    have ho := only_lit 0 hl
    rw [toF_self] at ho
    exact is_of ho (deep_le g.deep (by omega)) (by have := g.cnt; omega)
  · obtain ⟨g, _⟩ := lit_good h hv
    exact ⟨g.tru, g.near⟩
end Go.Proofs.Ytlejcnbpodmleaa
/- CnfP -/
namespace Go.Proofs.Ytlejcnbpodmleaa
open Go Go.RowKit

/-- The values of the variables of a formula's parts. -/
def toldL : (n : Nat) → (Int → Int) → FT n → List Bool
  | 0, _, _ => []
  | n + 1, v, f => if Node.kind f = 2 then [] else if Node.kind f = 4 then ((Node.kids f).head?.map (toldL n v)).getD [] else ((Node.kids f).map (toldL n v)).flatten ++ [truF (n + 1) v f]
/-- Its literals' forms. -/
def leavesF : (n : Nat) → FT n → List Lin
  | 0, _ => []
  | n + 1, f => (if Node.kind f = 2 then [Node.lin f] else []) ++ ((Node.kids f).map (leavesF n)).flatten

/-- A literal stands for a variable that has a value, and is as true as said. -/
def LitT (V : List Bool) (l : Int) (b : Bool) : Prop := 1 ≤ l.natAbs ∧ l.natAbs ≤ V.length ∧ valB V l = b
theorem LitT.neg {V : List Bool} {l : Int} {b : Bool} (h : LitT V l b) : LitT V (-l) (!b) := by
  obtain ⟨h1, h2, h3⟩ := h
  refine ⟨by omega, by omega, ?_⟩
  unfold valB at h3 ⊢
  rw [Int.natAbs_neg]
  have e1 : decide (1 ≤ l.natAbs) = true := by simpa using h1
  have e2 : decide (l.natAbs ≤ V.length) = true := by simpa using h2
  rw [e1, e2, Bool.true_and, Bool.true_and] at h3 ⊢
  have e3 : decide (0 < -l) = !decide (0 < l) := by
    by_cases h : 0 < l
    · simp [h]; omega
    · simp [h]; omega
  rw [e3, ← h3]
  generalize V.getD (l.natAbs - 1) false = x
  generalize decide (0 < l) = y
  cases x <;> cases y <;> rfl
theorem litT_at {V : List Bool} {k : Nat} (hk : k < V.length) : LitT V ((k : Int) + 1) V[k] := ⟨by omega, by omega, valB_pos V k hk⟩
theorem LitT.val {V : List Bool} {l : Int} {b : Bool} (h : LitT V l b) : valB V l = b := h.2.2
theorem LitT.valN {V : List Bool} {l : Int} {b : Bool} (h : LitT V l b) : valB V (-l) = !b := h.neg.2.2

theorem gate_true {V : List Bool} {kd v : Int} {ks : List Int} {own : Bool} (hv : LitT V v own) (hk : ∀ k ∈ ks, ∃ b, LitT V k b) (ho : own = if kd = 6 ∨ kd = 1 then ks.any (valB V) else ks.all (valB V)) :
    allB (gate kd v ks) V = true := by
  have hn : ∀ k ∈ ks, valB V (-k) = !valB V k := fun k hkm => by
    obtain ⟨b, hb⟩ := hk k hkm
    rw [hb.valN, hb.val]
  unfold allB gate
  by_cases hc : kd = 6 ∨ kd = 1
  · rw [if_pos hc] at ho ⊢
    rw [List.all_append, Bool.and_eq_true, List.all_eq_true]
    refine ⟨fun c hcm => ?_, ?_⟩
    · obtain ⟨k, hkm, rfl⟩ := List.mem_map.1 hcm
      simp only [List.any_cons, List.any_nil, Bool.or_false]
      rw [hv.val, hn k hkm]
      cases hb : valB V k
      · simp
      · have : own = true := by rw [ho, List.any_eq_true]; exact ⟨k, hkm, hb⟩
        rw [this]; rfl
    · simp only [List.all_cons, List.all_nil, Bool.and_true, List.any_cons]
      rw [hv.valN, ← ho]
      cases own <;> rfl
  · rw [if_neg hc] at ho ⊢
    rw [List.all_append, Bool.and_eq_true, List.all_eq_true]
    refine ⟨fun c hcm => ?_, ?_⟩
    · obtain ⟨k, hkm, rfl⟩ := List.mem_map.1 hcm
      simp only [List.any_cons, List.any_nil, Bool.or_false]
      rw [hv.valN]
      cases hb : valB V k
      · have : own = false := by
          rw [ho, List.all_eq_false]
          exact ⟨k, hkm, by rw [hb]; decide⟩
        rw [this]; rfl
      · simp
    · simp only [List.all_cons, List.all_nil, Bool.and_true, List.any_cons]
      rw [hv.val]
      cases ho' : own
      · rw [ho'] at ho
        have h1 := List.all_eq_false.1 ho.symm
        obtain ⟨k, hkm, hb⟩ := h1
        rw [Bool.false_or, List.any_eq_true]
        exact ⟨-k, List.mem_map.2 ⟨k, hkm, rfl⟩, by rw [hn k hkm]; simpa using hb⟩
      · rfl

/-- What is said of a formula's clauses. -/
def LitLaw (A : List Lin) (V : List Bool) (v : Int → Int) (n : Nat) (f : FT n) : Prop :=
  ∀ (N : Int) (out : List (List Int)) (pre post : List Bool), N = pre.length → V = pre ++ toldL n v f ++ post →
    (litF n f A N out).1 = N + (toldL n v f).length ∧ (∃ C, (litF n f A N out).2.1 = out ++ C ∧ allB C V = true) ∧ LitT V (litF n f A N out).2.2 (truF n v f)
theorem allB_append (C D : List (List Int)) (V : List Bool) : allB (C ++ D) V = (allB C V && allB D V) := by
  unfold allB; rw [List.all_append]
theorem litL_law {A : List Lin} {V : List Bool} {v : Int → Int} {n : Nat} :
    ∀ (ks : List (FT n)) (s : Int × List (List Int) × List Int) (pre post : List Bool), (∀ k ∈ ks, LitLaw A V v n k) → s.1 = pre.length → V = pre ++ (ks.map (toldL n v)).flatten ++ post →
      (litL n A ks s).1 = s.1 + (ks.map (toldL n v)).flatten.length ∧ (∃ C, (litL n A ks s).2.1 = s.2.1 ++ C ∧ allB C V = true) ∧
      ∃ L, (litL n A ks s).2.2 = s.2.2 ++ L ∧ (∀ l ∈ L, ∃ b, LitT V l b) ∧ L.all (valB V) = ks.all (truF n v) ∧ L.any (valB V) = ks.any (truF n v)
  | [], s, _, _, _, _, _ => ⟨by simp [litL], ⟨[], by simp [litL], rfl⟩, [], by simp [litL], (fun l hl => by cases hl), rfl, rfl⟩
  | k :: ks, s, pre, post, h, hs, hV => by
    have hV1 : V = pre ++ toldL n v k ++ ((ks.map (toldL n v)).flatten ++ post) := by
      rw [hV, List.map_cons, List.flatten_cons]; simp only [List.append_assoc]
    obtain ⟨a1, ⟨C, a2, a3⟩, a4⟩ := h k (by simp) s.1 s.2.1 pre _ hs hV1
    have e : litL n A (k :: ks) s = litL n A ks ((litF n k A s.1 s.2.1).1, (litF n k A s.1 s.2.1).2.1, s.2.2 ++ [(litF n k A s.1 s.2.1).2.2]) := rfl
    have hV2 : V = (pre ++ toldL n v k) ++ (ks.map (toldL n v)).flatten ++ post := by rw [hV1]; simp only [List.append_assoc]
    obtain ⟨b1, ⟨D, b2, b3⟩, L, b4, b5, b6, b7⟩ := litL_law ks ((litF n k A s.1 s.2.1).1, (litF n k A s.1 s.2.1).2.1, s.2.2 ++ [(litF n k A s.1 s.2.1).2.2]) (pre ++ toldL n v k) post (fun x hx => h x (by simp [hx])) (by rw [List.length_append]; simp only; rw [a1, hs]; omega) hV2
    rw [e]
    simp only at b1 b2 b4
    refine ⟨?_, ⟨C ++ D, by rw [b2, a2, List.append_assoc], by rw [allB_append, a3, b3]; rfl⟩, (litF n k A s.1 s.2.1).2.2 :: L, by rw [b4]; simp, fun l hl => ?_, ?_, ?_⟩
    · rw [b1, a1, List.map_cons, List.flatten_cons, List.length_append]; omega
    · rcases List.mem_cons.1 hl with rfl | hl
      · exact ⟨_, a4⟩
      · exact b5 l hl
    · rw [List.all_cons, List.all_cons, b6, a4.val]
    · rw [List.any_cons, List.any_cons, b7, a4.val]
theorem litF_law {A : List Lin} {V : List Bool} {v : Int → Int} : ∀ (n : Nat) (f : FT n), onlyF n f = true → (∀ a ∈ leavesF n f, LitT V (atI A a) (decide (a.1 + val v a.2 ≤ 0))) → LitLaw A V v n f
  | 0, _, h, _ => by unfold onlyF at h; cases h
  | n + 1, f, h, hA => by
    intro N out pre post hN hV
    obtain ⟨h1, h2⟩ := only_kids h
    have hAk : ∀ k ∈ Node.kids f, ∀ a ∈ leavesF n k, LitT V (atI A a) (decide (a.1 + val v a.2 ≤ 0)) := fun k hk a ha =>
      hA a (by
        show a ∈ (if Node.kind f = 2 then [Node.lin f] else []) ++ ((Node.kids f).map (leavesF n)).flatten
        exact List.mem_append.2 (.inr (List.mem_flatten.2 ⟨_, List.mem_map.2 ⟨k, hk, rfl⟩, ha⟩)))
    have ih : ∀ k ∈ Node.kids f, LitLaw A V v n k := fun k hk => litF_law n k (h2 k hk) (hAk k hk)
    have et : toldL (n + 1) v f = if Node.kind f = 2 then [] else if Node.kind f = 4 then ((Node.kids f).head?.map (toldL n v)).getD [] else ((Node.kids f).map (toldL n v)).flatten ++ [truF (n + 1) v f] := rfl
    have eu : truF (n + 1) v f = if Node.kind f = 0 then true else if Node.kind f = 1 then false else if Node.kind f = 2 then decide ((Node.lin f).1 + val v (Node.lin f).2 ≤ 0)
      else if Node.kind f = 3 then decide ((Node.lin f).1 + val v (Node.lin f).2 = 0) else if Node.kind f = 4 then !(((Node.kids f).head?.map (truF n v)).getD false) else if Node.kind f = 5 then (Node.kids f).all (truF n v) else (Node.kids f).any (truF n v) := rfl
    have el : litF (n + 1) f A N out = if Node.kind f = 2 then (N, out, atI A (Node.lin f))
      else if Node.kind f = 4 then
        match Node.kids f with
        | [] => (N, out, 0)
        | k :: _ => ((litF n k A N out).1, (litF n k A N out).2.1, -(litF n k A N out).2.2)
      else ((litL n A (Node.kids f) (N, out, [])).1 + 1, (litL n A (Node.kids f) (N, out, [])).2.1 ++ gate (Node.kind f) ((litL n A (Node.kids f) (N, out, [])).1 + 1) (litL n A (Node.kids f) (N, out, [])).2.2, (litL n A (Node.kids f) (N, out, [])).1 + 1) := rfl
    by_cases hk2 : Node.kind f = 2
    · rw [if_pos hk2] at et el
      rw [hk2] at eu
      have eu' : truF (n + 1) v f = decide ((Node.lin f).1 + val v (Node.lin f).2 ≤ 0) := eu
      rw [et, el, eu']
      refine ⟨by simp, ⟨[], by simp, rfl⟩, hA _ ?_⟩
      show Node.lin f ∈ (if Node.kind f = 2 then [Node.lin f] else []) ++ ((Node.kids f).map (leavesF n)).flatten
      rw [if_pos hk2]; simp
    rw [if_neg hk2] at et el
    by_cases hk4 : Node.kind f = 4
    · rw [if_pos hk4] at et el
      have hl := only_not h1 hk4
      obtain ⟨k, hk⟩ := List.length_eq_one_iff.1 hl
      rw [hk] at et el
      rw [hk4, hk] at eu
      have eu' : truF (n + 1) v f = !truF n v k := eu
      have et' : toldL (n + 1) v f = toldL n v k := et
      have el' : litF (n + 1) f A N out = ((litF n k A N out).1, (litF n k A N out).2.1, -(litF n k A N out).2.2) := el
      rw [et'] at hV ⊢
      obtain ⟨a1, a2, a3⟩ := ih k (by rw [hk]; simp) N out pre post hN hV
      rw [el', eu']
      exact ⟨a1, a2, a3.neg⟩
    · rw [if_neg hk4] at et el
      rw [et] at hV ⊢
      have hV1 : V = pre ++ ((Node.kids f).map (toldL n v)).flatten ++ ([truF (n + 1) v f] ++ post) := by rw [hV]; simp only [List.append_assoc]
      obtain ⟨b1, ⟨D, b2, b3⟩, L, b4, b5, b6, b7⟩ := litL_law (Node.kids f) (N, out, []) pre _ ih hN hV1
      simp only at b1 b2 b4
      rw [List.nil_append] at b4
      have hlen : (pre ++ ((Node.kids f).map (toldL n v)).flatten).length < V.length := by
        rw [hV1]; simp only [List.length_append, List.length_cons, List.length_nil]; omega
      have hat : V[(pre ++ ((Node.kids f).map (toldL n v)).flatten).length] = truF (n + 1) v f := by
        have : V[(pre ++ ((Node.kids f).map (toldL n v)).flatten).length]? = some (truF (n + 1) v f) := by
          rw [hV1, List.getElem?_append_right (Nat.le_refl _), Nat.sub_self]; rfl
        rw [List.getElem?_eq_getElem hlen] at this
        injection this
      have hlit : LitT V ((litL n A (Node.kids f) (N, out, [])).1 + 1) (truF (n + 1) v f) := by
        have := litT_at hlen
        rw [hat] at this
        have e : (((pre ++ ((Node.kids f).map (toldL n v)).flatten).length : Nat) : Int) = (litL n A (Node.kids f) (N, out, [])).1 := by
          rw [b1, hN, List.length_append]; omega
        rw [e] at this
        exact this
      rw [el]
      refine ⟨?_, ⟨D ++ gate (Node.kind f) ((litL n A (Node.kids f) (N, out, [])).1 + 1) L, by simp only; rw [b2, b4, List.append_assoc], ?_⟩, hlit⟩
      · simp only
        rw [b1, List.length_append, List.length_singleton]; omega
      · rw [allB_append, b3, Bool.true_and]
        refine gate_true hlit b5 ?_
        rw [b6, b7, eu]
        rcases only_kind h1 with ⟨q, qk⟩ | ⟨q, qk⟩ | q | q | q | q
        · rw [q, qk]; rfl
        · rw [q, qk]; rfl
        · exact absurd q hk2
        · exact absurd q hk4
        · rw [q]; rfl
        · rw [q]; rfl

/-- A formula's atoms are among those that were gathered. -/
theorem findI_mem {α : Type} (p : α → Bool) : ∀ (l : List α) (x : α), x ∈ l → p x = true → ∃ k, ∃ h : k < l.length, findI p l = k ∧ p l[k] = true := fun l x hx hp => by
  unfold findI
  cases h : l.findIdx? p with
  | none => rw [List.findIdx?_eq_none_iff] at h; have := h x hx; rw [this] at hp; cases hp
  | some k =>
    rw [List.findIdx?_eq_some_iff_getElem] at h
    obtain ⟨hk, h1, _⟩ := h
    exact ⟨k, hk, rfl, h1⟩
theorem atI_mem {l : List Lin} {a : Lin} (h : a ∈ l) : ∃ k, ∃ hk : k < l.length, atI l a = (k : Int) + 1 ∧ l[k] = a := by
  obtain ⟨k, hk, h1, h2⟩ := findI_mem (fun o : Lin => decide (a.1 = o.1 ∧ a.2 = o.2)) l a h (by simp)
  refine ⟨k, hk, by unfold atI; rw [h1]; omega, ?_⟩
  simp only [decide_eq_true_eq] at h2
  exact (Prod.ext h2.1 h2.2).symm
theorem atI_zero {l : List Lin} {a : Lin} (h : a ∉ l) : atI l a = 0 := by
  unfold atI findI
  cases h' : l.findIdx? (fun o => decide (a.1 = o.1 ∧ a.2 = o.2)) with
  | none => rfl
  | some k =>
    rw [List.findIdx?_eq_some_iff_getElem] at h'
    obtain ⟨hk, h1, _⟩ := h'
    simp only [decide_eq_true_eq] at h1
    exact absurd (by rw [show a = l[k] from Prod.ext h1.1 h1.2]; exact List.getElem_mem hk) h
theorem foldl_mem {α β : Type} {s : List β → α → List β} {g : α → List β} : ∀ (ks : List α) (l : List β), (∀ k ∈ ks, ∀ l, (∀ a ∈ l, a ∈ s l k) ∧ (∀ a ∈ g k, a ∈ s l k)) → (∀ a ∈ l, a ∈ ks.foldl s l) ∧ ∀ a ∈ (ks.map g).flatten, a ∈ ks.foldl s l
  | [], l, _ => ⟨fun a ha => ha, fun a ha => by cases ha⟩
  | k :: ks, l, h => by
    obtain ⟨h1, h2⟩ := h k (by simp) l
    obtain ⟨g1, g2⟩ := foldl_mem (s := s) (g := g) ks (s l k) (fun x hx => h x (by simp [hx]))
    refine ⟨fun a ha => g1 a (h1 a ha), fun a ha => ?_⟩
    rw [List.map_cons, List.flatten_cons] at ha
    rcases List.mem_append.1 ha with ha | ha
    · exact g1 a (h2 a ha)
    · exact g2 a ha
theorem atoms_mem : ∀ (n : Nat) (f : FT n) (l : List Lin), (∀ a ∈ l, a ∈ atomsF n f l) ∧ ∀ a ∈ leavesF n f, a ∈ atomsF n f l
  | 0, _, l => ⟨fun a ha => ha, fun a ha => by cases ha⟩
  | n + 1, f, l => by
    obtain ⟨g1, g2⟩ := foldl_mem (s := fun l k => atomsF n k l) (g := leavesF n) (Node.kids f) (if Node.kind f = 2 ∧ atI l (Node.lin f) = 0 then l ++ [Node.lin f] else l) (fun k _ l => atoms_mem n k l)
    have e : atomsF (n + 1) f l = (Node.kids f).foldl (fun l k => atomsF n k l) (if Node.kind f = 2 ∧ atI l (Node.lin f) = 0 then l ++ [Node.lin f] else l) := rfl
    rw [e]
    refine ⟨fun a ha => g1 a (by split <;> simp [ha]), fun a ha => ?_⟩
    have ha' : a ∈ (if Node.kind f = 2 then [Node.lin f] else []) ++ ((Node.kids f).map (leavesF n)).flatten := ha
    rcases List.mem_append.1 ha' with ha | ha
    · by_cases hk : Node.kind f = 2
      · rw [if_pos hk] at ha
        obtain rfl : a = Node.lin f := List.mem_singleton.1 ha
        refine g1 _ ?_
        by_cases hm : Node.lin f ∈ l
        · split <;> simp [hm]
        · rw [if_pos ⟨hk, atI_zero hm⟩]; simp
      · rw [if_neg hk] at ha; cases ha
    · exact g2 a ha
/-- What the atoms are like is so of those of the formula, if it is of those that were there. -/
theorem foldl_all {α β : Type} {s : List β → α → List β} {P : β → Prop} : ∀ (ks : List α) (l : List β), (∀ k ∈ ks, ∀ l, (∀ a ∈ l, P a) → ∀ a ∈ s l k, P a) → (∀ a ∈ l, P a) → ∀ a ∈ ks.foldl s l, P a
  | [], _, _, h => h
  | k :: ks, l, h, hl => foldl_all ks (s l k) (fun x hx => h x (by simp [hx])) (h k (by simp) l hl)
theorem atoms_all {vs : List Int} : ∀ (n : Nat) (f : FT n), fineF n f = true → nearF n vs f = true → ∀ l : List Lin, (∀ a ∈ l, linB a.1 a.2 = true ∧ farAny vs a.2 = false) → ∀ a ∈ atomsF n f l, linB a.1 a.2 = true ∧ farAny vs a.2 = false
  | 0, _, h, _ => by cases h
  | n + 1, f, hf, hn => fun l hl => by
    obtain ⟨hok, hks⟩ := fine_kidsQ hf
    obtain ⟨hn1, hn2⟩ := near_parts hn
    refine foldl_all (s := fun l k => atomsF n k l) _ _ (fun k hk l hl => atoms_all n k (hks k hk) (hn2 k hk) l hl) ?_
    intro a ha
    split at ha
    · rename_i hk
      rcases List.mem_append.1 ha with ha | ha
      · exact hl a ha
      · obtain rfl : a = Node.lin f := List.mem_singleton.1 ha
        refine ⟨?_, hn1⟩
        rcases okS_casesQ hok with ⟨q, _⟩ | ⟨_, q, _⟩ | ⟨q, _⟩ | ⟨q, _⟩
        · have := hk.1; omega
        · exact q
        · have := hk.1; omega
        · have := hk.1; omega
    · exact hl a ha
/-- By the values that are told. -/
def valsF (n : Nat) (v : Int → Int) (f : FT n) : List Bool := (atomsF n f []).map (fun a => decide (a.1 + val v a.2 ≤ 0)) ++ toldL n v f
theorem cnf_right {n : Nat} {f : FT n} (v : Int → Int) (h : onlyF n f = true) :
    ((valsF n v f).length : Int) = (litF n f (atomsF n f []) (atomsF n f []).length []).1 ∧ allB (litF n f (atomsF n f []) (atomsF n f []).length []).2.1 (valsF n v f) = true ∧ valB (valsF n v f) (litF n f (atomsF n f []) (atomsF n f []).length []).2.2 = truF n v f := by
  have hA : ∀ a ∈ leavesF n f, LitT (valsF n v f) (atI (atomsF n f []) a) (decide (a.1 + val v a.2 ≤ 0)) := fun a ha => by
    obtain ⟨k, hk, h1, h2⟩ := atI_mem ((atoms_mem n f []).2 a ha)
    have hl : k < (valsF n v f).length := by unfold valsF; rw [List.length_append, List.length_map]; omega
    have e : (valsF n v f)[k] = decide (a.1 + val v a.2 ≤ 0) := by
      have e2 : (valsF n v f)[k]? = some (decide (a.1 + val v a.2 ≤ 0)) := by
        unfold valsF
        rw [List.getElem?_append_left (by rw [List.length_map]; exact hk), List.getElem?_map, List.getElem?_eq_getElem hk, h2]
        rfl
      rw [List.getElem?_eq_getElem hl] at e2
      injection e2
    rw [h1, ← e]
    exact litT_at hl
  obtain ⟨a1, ⟨C, a2, a3⟩, a4⟩ := litF_law (A := atomsF n f []) (V := valsF n v f) (v := v) n f h hA (atomsF n f []).length [] ((atomsF n f []).map (fun a => decide (a.1 + val v a.2 ≤ 0))) [] (by rw [List.length_map]) (by unfold valsF; simp)
  refine ⟨?_, ?_, a4.val⟩
  · rw [a1]; unfold valsF; rw [List.length_append, List.length_map]; omega
  · rw [a2, List.nil_append]; exact a3
end Go.Proofs.Ytlejcnbpodmleaa
/- CnfQ -/
namespace Go.Proofs.Ytlejcnbpodmleaa
open Go Go.RowKit

theorem boolsTy : SliceTy Try.prog 54 4 1 1 (.bool false) := ⟨Try.underlying54, by kernel_rfl, rfl, by decide, by decide⟩
/-- The slice v, of bools, owns the list l. -/
def OBools (e : TypeId) (M : Nat → Prop) (w : World) (v : Value) (l : List Bool) : Prop := Own M e 1 w v l.length (l.map Value.bool)
theorem OBools.nil (e : TypeId) (M : Nat → Prop) (w : World) : OBools e M w (.slice none 0 0) [] := Own.nil _ _ _ _
theorem OBools.no {e : TypeId} {M : Nat → Prop} {w w' : World} {v : Value} {l : List Bool} (h : OBools e M w v l) (c : Chg No w w') : OBools e M w' v l := Own.no h c
theorem OBools.mine {e : TypeId} {M : Nat → Prop} {w : World} {v : Value} {l : List Bool} (h : OBools e M w v l) : ∀ k, v.ownBlock = some k → M k ∧ k < w.heap.size := Own.mine h
theorem OBools.bools {e : TypeId} {M : Nat → Prop} {w : World} {v : Value} {l : List Bool} (h : OBools e M w v l) (hl : l.length ≤ big) : ∃ A cap, v = .slice A l.length cap ∧ Bools M w A l cap := by
  refine Own.sl (E := BoolE) h (by simpa [BoolE] using hl) (fun g o cap hv hM hc i hi => ⟨hM, ?_⟩)
  have := hc i (.bool l[i]) (by rw [List.getElem?_map, List.getElem?_eq_getElem hi]; rfl)
  simpa using this
section
variable {P : Program} {t e : TypeId} {bytes : Nat} {z : Value} {ops : Array Oper} {rest : List Oper} {o : Oper} {act : Act} {Q : Exit → Act → World → Prop}
theorem wpList_push_bool (T : SliceTy P t e 1 1 z) (hgd : o.guard = none) (s xo : Operand)
    (ho : o.op = .call { callee := .builtin .append, args := #[s, xo], argTypes := #[t, t] })
    {M : Nat → Prop} {w : World} (hM : ∀ k, w.heap.size ≤ k → M k) {v : Value} {l : List Bool} (hown : OBools e M w v l) (hs : act.eval s = v)
    {x : Bool} {e' : TypeId} (hx : act.eval xo = .slice (some ⟨w.heap.size, 0, none⟩) 1 1) (hbytes : (l.length + 1) * 1 ≤ 140737488355328)
    (h : ∀ v' w', OBools e M w' v' (l ++ [x]) → Chg (fun k => v.ownBlock = some k) w w' → wpList P ops Q rest (act.put o.dst v') w') :
    wpList P ops Q (o :: rest) act (w.alloc (.cells #[.bool x] e')) :=
  wpList_push1 T hgd s xo ho hM hown hs hx rfl hbytes (fun A cap w' g1 g2 _ => h _ w' (by unfold OBools; rw [List.length_append, List.map_append]; exact g1) g2)
/-- append(s, r...) of bools. -/
theorem wpList_extend_bools (T : SliceTy P t e 1 1 z) (hgd : o.guard = none) (s xo : Operand)
    (ho : o.op = .call { callee := .builtin .append, args := #[s, xo], argTypes := #[t, t] })
    {M : Nat → Prop} {w : World} (hM : ∀ k, w.heap.size ≤ k → M k) {v : Value} {l : List Bool} (hown : OBools e M w v l) (hs : act.eval s = v)
    {R : Nat → Prop} {A : Option Addr} {r : List Bool} {rn cap : Nat} (hrn : rn = r.length) (hr : Bools R w A r cap) (hx : act.eval xo = .slice A rn cap) (hbytes : (l.length + r.length) * 1 ≤ 140737488355328)
    (h : ∀ v' w', OBools e M w' v' (l ++ r) → Chg (fun k => v.ownBlock = some k) w w' → wpList P ops Q rest (act.put o.dst v') w') :
    wpList P ops Q (o :: rest) act w := by
  subst hrn
  cases A with
  | none =>
    have h0 : r = [] := List.eq_nil_of_length_eq_zero (by have := hr.le; have := hr.nil rfl; omega)
    subst h0
    refine wpList_plain hgd fun _ hK => ?_
    have hrun := run_append_Own_none (P := P) T o.type hown cap
    unfold Oper.wp execOp
    simp only [ho, resolve, invoke, builtin, Sem.run_bind, Sem.run_pure, Result.andThen_ok, List.map_toArray, List.map_cons, List.map_nil, hs, hx, List.length_nil, hrun]
    exact hK _ _ (h v w (by simpa using hown) (Chg.refl _ _))
  | some a =>
    refine wpList_append_Own T hgd s xo ho hM hown hs (a := a) (m := r.length) (c := cap) (news := r.map Value.bool) hx (by simp) (fun j u hj => ?_) (fun u hu => by obtain ⟨y, _, rfl⟩ := List.mem_map.1 hu; rfl) hbytes (fun A cap w' g1 g2 _ => ?_)
    · simp only [List.getElem?_map, Option.map_eq_some_iff] at hj
      obtain ⟨y, hj, rfl⟩ := hj
      obtain ⟨hlt, rfl⟩ := List.getElem?_eq_some_iff.1 hj
      obtain ⟨b, o, e1, e2⟩ := hr.bool_at j hlt
      injection e1 with e1
      rw [e1, addr_add]
      exact e2
    · exact h _ w' (by unfold OBools; rw [List.length_append, List.map_append]; exact g1) g2
end
theorem told_len : ∀ (n : Nat) (f : FT n) (v : Int → Int), (toldL n v f).length ≤ cntF n f
  | 0, _, _ => Nat.le_refl _
  | n + 1, f, v => by
    have et : toldL (n + 1) v f = if Node.kind f = 2 then [] else if Node.kind f = 4 then ((Node.kids f).head?.map (toldL n v)).getD [] else ((Node.kids f).map (toldL n v)).flatten ++ [truF (n + 1) v f] := rfl
    have ec : cntF (n + 1) f = 1 + ((Node.kids f).map (cntF n)).sum := rfl
    have hs : ∀ l : List (FT n), (l.map (toldL n v)).flatten.length ≤ (l.map (cntF n)).sum := fun l => by
      induction l with
      | nil => exact Nat.le_refl _
      | cons k l ih =>
        have := told_len n k v
        simp only [List.map_cons, List.flatten_cons, List.length_append, List.sum_cons]
        omega
    rw [et, ec]
    split
    · simp
    · split
      · cases hk : Node.kids f with
        | nil => simp
        | cons k l =>
          have := told_len n k v
          simp only [List.head?_cons, Option.map_some, Option.getD_some, List.map_cons, List.sum_cons]
          omega
      · rw [List.length_append, List.length_singleton]
        have := hs (Node.kids f)
        omega
theorem sum_takeB {α : Type} (c : α → Nat) (ks : List α) (i : Nat) (hi : i < ks.length) : ((ks.take i).map c).sum + c ks[i] ≤ (ks.map c).sum := by
  have h1 : ks = ks.take i ++ ks[i] :: ks.drop (i + 1) := by rw [← List.drop_eq_getElem_cons hi, List.take_append_drop]
  have h2 : (ks.map c).sum = ((ks.take i).map c).sum + (c ks[i] + ((ks.drop (i + 1)).map c).sum) := by
    conv => lhs; rw [h1]
    rw [List.map_append, List.sum_append, List.map_cons, List.sum_cons]
  omega
theorem told_sum {n : Nat} (v : Int → Int) : ∀ l : List (FT n), (l.map (toldL n v)).flatten.length ≤ (l.map (cntF n)).sum
  | [] => Nat.le_refl _
  | k :: l => by
    have := told_len n k v
    have := told_sum v l
    simp only [List.map_cons, List.flatten_cons, List.length_append, List.sum_cons]
    omega

/-- told's answer. -/
def ToldRet (n : Nat) (f : FT n) (v : Int → Int) (w : World) (e : Ending) (w' : World) : Prop :=
  ∃ A cap, e = .returned (.tuple #[.slice A (toldL n v f).length cap, .bool (truF n v f)]) ∧ Bools (fun k => w.heap.size ≤ k) w' A (toldL n v f) cap ∧ Chg No w w'
def ToldOk (n : Nat) : Prop := ∀ (f : FT n) (vs : List Int) (R R' : Nat → Prop) (w : World) (cs : List Value) (A' : Option Addr) (cap' : Nat), (formV n) R w cs f → Ints R' w A' vs cap' → onlyF n f = true → fineF n f = true → nearF n vs f = true → cntF n f ≤ 100000 →
    Calls Try.prog 37 #[.agg cs.toArray, .slice A' vs.length cap'] w (ToldRet n f (valOf vs) w)
set_option maxRecDepth 100000 in
set_option maxHeartbeats 4000000 in
theorem told_step (n : Nat) (IH : Hid (ToldOk n)) : ToldOk (n + 1) := by
    rintro f vs R R' w cs A' cap' h hvs honly hfine hnear hcnt
    obtain ⟨A, cap, B, capk, rfl, i1, i2, hm, hk⟩ := node_cells h
    obtain ⟨hok, hks⟩ := fine_kidsQ hfine
    obtain ⟨hok1, hks1⟩ := only_kids honly
    obtain ⟨hn1, hn2⟩ := near_parts hnear
    have hb1 := hm.big
    have hb2 := hk.big
    have hb3 := hvs.big
    unfold big at hb1 hb2 hb3
    have hcnt' : 1 + ((Node.kids f).map (cntF n)).sum ≤ 100000 := hcnt
    obtain ⟨w3, hw3⟩ : ∃ w3, w3 = (w.alloc (.cells #[.int .i64 (Node.kind f), .int .i64 (Node.lin f).1, .slice A (Node.lin f).2.length cap, .slice B (Node.kids f).length capk] 27)) := ⟨_, rfl⟩
    have h3 : Hid (Chg No w w3 ∧ w3.heap[w.heap.size]? = some (.cells #[.int .i64 (Node.kind f), .int .i64 (Node.lin f).1, .slice A (Node.lin f).2.length cap, .slice B (Node.kids f).length capk] 27 (0, 0))) := by
      rw [hw3]; exact ⟨(Chg.refl _ _).alloc _, heap_alloc_new _ _⟩
    obtain ⟨p0, p1, p2, p3⟩ := obj_four h3.out.2
    have hsz : Hid (w.heap.size ≤ w3.heap.size) := h3.out.1.size
    have et : toldL (n + 1) (valOf vs) f = if Node.kind f = 2 then [] else if Node.kind f = 4 then ((Node.kids f).head?.map (toldL n (valOf vs))).getD [] else ((Node.kids f).map (toldL n (valOf vs))).flatten ++ [truF (n + 1) (valOf vs) f] := rfl
    unfold ToldRet
    obtain ⟨ans, hans⟩ : ∃ ans, ans = truF (n + 1) (valOf vs) f := ⟨_, rfl⟩
    obtain ⟨tl1, htl⟩ : ∃ l, l = toldL (n + 1) (valOf vs) f := ⟨_, rfl⟩
    rw [← hans, ← htl]
    rw [← htl, ← hans] at et
    rcases only_kind hok1 with ⟨hkd, hkl⟩ | ⟨hkd, hkl⟩ | hkd | hkd | hkd
    · have HE : ans = true := by rw [hans, truF, hkd]; rfl
      have HT : tl1 = [true] := by rw [et, hkd, hkl, HE]; rfl
      subst HE
      subst HT
      rw [hkd] at hw3 h3 ⊢
      rw [hkd] at p0
      have RT : Hid (Bools (fun k => w.heap.size ≤ k) (w3.alloc (.cells #[.bool true] 4)) (some ⟨w3.heap.size, 0, none⟩) [true] 1) := bools_of_block (l := [true]) (heap_alloc_new _ _) hsz.out (by unfold big; simp)
      generalize (Node.lin f).1 = c at *
      generalize (Node.lin f).2.length = tl at *
      generalize (Node.kids f).length = kl at *
      clear h hm hk hvs hans htl et IH hok hks hok1 hks1 hn1 hn2 hnear hfine honly hkd hkl hcnt hcnt'
      go_enter Try.func37, Try.ntmps37
      go_upto_region 1 with fail
      rw [← hw3]
      clear hw3
      go_wp2_with fail
      go_ret2
      exact ⟨_, _, rfl, RT.out, h3.out.1.alloc _⟩
    · have HE : ans = false := by rw [hans, truF, hkd]; rfl
      have HT : tl1 = [false] := by rw [et, hkd, hkl, HE]; rfl
      subst HE
      subst HT
      rw [hkd] at hw3 h3 ⊢
      rw [hkd] at p0
      have RT : Hid (Bools (fun k => w.heap.size ≤ k) (w3.alloc (.cells #[.bool false] 4)) (some ⟨w3.heap.size, 0, none⟩) [false] 1) := bools_of_block (l := [false]) (heap_alloc_new _ _) hsz.out (by unfold big; simp)
      generalize (Node.lin f).1 = c at *
      generalize (Node.lin f).2.length = tl at *
      generalize (Node.kids f).length = kl at *
      clear h hm hk hvs hans htl et IH hok hks hok1 hks1 hn1 hn2 hnear hfine honly hkd hkl hcnt hcnt'
      go_enter Try.func37, Try.ntmps37
      go_upto_region 1 with fail
      rw [← hw3]
      clear hw3
      go_wp2_with fail
      go_ret2
      exact ⟨_, _, rfl, RT.out, h3.out.1.alloc _⟩
    · have hlb : linB (Node.lin f).1 (Node.lin f).2 = true := by
        rcases okS_casesQ hok with ⟨q, _⟩ | ⟨_, q, _⟩ | ⟨q, _⟩ | ⟨q, _⟩
        · omega
        · exact q
        · omega
        · omega
      have HL := Lib.hid (ref01Value_any (Node.lin f).1 (hm.no monoE_good h3.out.1) (hvs.no intE_good h3.out.1))
      rw [val_near2 hlb hn1] at HL
      simp only at HL
      have HE : ans = decide ((Node.lin f).1 + val (valOf vs) (Node.lin f).2 ≤ 0) := by rw [hans, truF, hkd]; rfl
      have HT : tl1 = [] := by rw [et, hkd]; rfl
      subst HT
      have HE' := Lib.hid HE
      generalize (Node.lin f).1 + val (valOf vs) (Node.lin f).2 = V at *
      rw [hkd] at hw3 h3 ⊢
      rw [hkd] at p0
      generalize (Node.lin f).1 = c at *
      generalize (Node.lin f).2.length = tl at *
      generalize (Node.kids f).length = kl at *
      clear h hm hk hvs hans htl et IH hok hks hok1 hks1 hn1 hn2 hnear hfine honly hkd hcnt hcnt' HE hlb
      go_enter Try.func37, Try.ntmps37
      go_upto_region 1 with fail
      rw [← hw3]
      clear hw3
      go_wp2_with (go_at_call 36; refine HL.out.mono ?_; rintro e w1 ⟨rfl, h1⟩; have H1 := Lib.hid (h3.out.1.thenNo h1); clear h1)
      go_ret2
      exact ⟨none, 0, by rw [HE'.out]; rfl, Sl.empty, H1.out⟩
    · obtain ⟨k, hk1⟩ := List.length_eq_one_iff.1 (only_not hok1 hkd)
      have HE : Hid (ans = !truF n (valOf vs) k) := by unfold Hid; rw [hans, truF, hkd, hk1]; rfl
      have HT : tl1 = toldL n (valOf vs) k := by rw [et, hkd, hk1]; rfl
      have hk0 := hk.no (formE_good n) h3.out.1
      rw [hk1] at hk0
      obtain ⟨b, o, v0, v1, v2, v3, rfl, hv, x0, x1, x2, x3⟩ := forms_at hk0 0 (by simp)
      have HI := Lib.hid (IH.out k vs R R' w3 _ A' cap' hv (hvs.no intE_good h3.out.1) (hks1 k (by rw [hk1]; simp)) (hks k (by rw [hk1]; simp)) (hn2 k (by rw [hk1]; simp)) (by rw [hk1] at hcnt'; simp only [List.map_cons, List.sum_cons, List.map_nil, List.sum_nil] at hcnt'; omega))
      have hl1 : (Node.kids f).length = 1 := by rw [hk1]; rfl
      rw [hl1, hkd] at hw3 h3 ⊢
      rw [hl1] at p3
      rw [hkd] at p0
      have x0' : w3.cell? ⟨b, o, none⟩ = some v0 := by simpa using x0
      have x1' : w3.cell? ⟨b, o + 1, none⟩ = some v1 := by simpa using x1
      have x2' : w3.cell? ⟨b, o + 2, none⟩ = some v2 := by simpa using x2
      have x3' : w3.cell? ⟨b, o + 3, none⟩ = some v3 := by simpa using x3
      subst HT
      unfold ToldRet at HI
      generalize truF n (valOf vs) k = tk at *
      generalize toldL n (valOf vs) k = lk at *
      generalize (Node.lin f).1 = c at *
      generalize (Node.lin f).2.length = tl at *
      clear h hm hk hvs hans htl et IH hok hks hok1 hks1 hn1 hn2 hnear hfine honly hkd hcnt hcnt' hk1 hk0 hv hl1 x0 x1 x2 x3
      go_enter Try.func37, Try.ntmps37
      go_upto_region 1 with fail
      rw [← hw3]
      clear hw3
      go_wp2_with (go_at_call 37; refine HI.out.mono ?_; rintro e w1 ⟨A5, cap5, rfl, hB, h1⟩; have HB := Lib.hid hB; have H1 := Lib.hid (h3.out.1.thenNo h1); clear h1 hB)
      go_ret2
      exact ⟨A5, cap5, by rw [HE.out]; rfl, HB.out.mono boolE_good (fun q _ hq => Nat.le_trans hsz.out hq), H1.out⟩
    · have HK := Lib.hid (fun W (h : Chg No w3 W) => (hk.no (formE_good n) h3.out.1).no (formE_good n) h)
      have HI := Lib.hid (fun W (hW : Chg No w3 W) i (hi : i < (Node.kids f).length) cs (hcs : (formV n) R W cs (Node.kids f)[i]) => IH.out _ vs R R' W cs A' cap' hcs (hvs.no intE_good (h3.out.1.thenNo hW)) (hks1 _ (List.getElem_mem hi)) (hks _ (List.getElem_mem hi)) (hn2 _ (List.getElem_mem hi)) (by
        have h1 := sum_takeB (cntF n) (Node.kids f) i hi
        omega))
      have HLT := Lib.hid (fun i (hi : i < (Node.kids f).length) => by
        have h1 := told_sum (valOf vs) ((Node.kids f).take i)
        have h2 := told_len n (Node.kids f)[i] (valOf vs)
        have h3 := sum_takeB (cntF n) (Node.kids f) i hi
        have : (((Node.kids f).take i).map (toldL n (valOf vs))).flatten.length + (toldL n (valOf vs) (Node.kids f)[i]).length ≤ 100001 := by omega
        exact this)
      have HLE : Hid (((Node.kids f).map (toldL n (valOf vs))).flatten.length + 1 ≤ 100001) := by
        have h1 := told_sum (valOf vs) (Node.kids f)
        unfold Hid; omega
      have HNX : Hid (∀ i (hi : i < (Node.kids f).length), (((Node.kids f).take (i + 1)).map (toldL n (valOf vs))).flatten = (((Node.kids f).take i).map (toldL n (valOf vs))).flatten ++ toldL n (valOf vs) (Node.kids f)[i]) := fun i hi => by
        rw [List.take_add_one, List.getElem?_eq_getElem hi, List.map_append, List.flatten_append]
        simp
      have HE : Hid (ans = if Node.kind f = 5 then (Node.kids f).all (truF n (valOf vs)) else (Node.kids f).any (truF n (valOf vs))) := by
        unfold Hid; rw [hans, truF]
        rcases hkd with g | g <;> rw [g] <;> rfl
      have HT : tl1 = ((Node.kids f).map (toldL n (valOf vs))).flatten ++ [ans] := by
        rw [et]
        rcases hkd with g | g <;> rw [g] <;> rfl
      subst HT
      unfold ToldRet at HI
      generalize truF n (valOf vs) = tr at *
      generalize toldL n (valOf vs) = td at *
      generalize Node.kids f = ks at *
      generalize Node.kind f = kd at *
      generalize (Node.lin f).1 = c at *
      generalize (Node.lin f).2.length = tl at *
      clear h hm hk hvs hans htl et IH hok hks hok1 hks1 hn1 hn2 hnear hfine honly hcnt hcnt'
      rcases hkd with rfl | rfl
      all_goals
        go_enter Try.func37, Try.ntmps37
        go_upto_region 1 with fail
        rw [← hw3]
        clear hw3
        go_wp2_with fail
        go_loopw [10, 11, 12, 13] (fun s10 s11 s12 s13 wr => ∃ (i : Nat) (v : Value), v = s10 ∧ s11 = .bool ((ks.take i).all tr) ∧ s12 = .bool ((ks.take i).any tr) ∧ s13 = .int .i64 i ∧ i ≤ ks.length ∧ Hid (OBools 4 (fun b => w3.heap.size ≤ b) wr v ((ks.take i).map td).flatten) ∧ Hid (Chg No w3 wr)) (fun _ _ _ s13 _ => ks.length - (intOf s13).toNat)
        case atStart => exact ⟨0, _, rfl, rfl, rfl, rfl, Nat.zero_le _, OBools.nil _ _ _, Chg.refl _ _⟩
        case round =>
          obtain ⟨i, v, rfl, rfl, rfl, rfl, gi, hown, hch⟩ := hrel
          obtain ⟨p0, p1, p2, p3⟩ := obj_four (hch.out.obj h3.out.2 id)
          by_cases hlt : i < ks.length
          · obtain ⟨b, o, v0, v1, v2, v3, rfl, hv, x0, x1, x2, x3⟩ := forms_at (HK.out wr hch.out) i hlt
            have HJ := Lib.hid (HI.out wr hch.out i hlt _ hv)
            have hnx := Lib.hid (HNX.out i hlt)
            have hLT := Lib.hid (HLT.out i hlt)
            have HA : Hid ((ks.take (i + 1)).all tr = ((ks.take i).all tr && tr ks[i])) := by
              unfold Hid; rw [List.take_add_one, List.getElem?_eq_getElem hlt, List.all_append]; simp
            have HN : Hid ((ks.take (i + 1)).any tr = ((ks.take i).any tr || tr ks[i])) := by
              unfold Hid; rw [List.take_add_one, List.getElem?_eq_getElem hlt, List.any_append]; simp
            generalize tr ks[i] = t1 at *
            generalize td ks[i] = g at *
            generalize (ks.take i).all tr = A0 at *
            generalize (ks.take i).any tr = N0 at *
            generalize ((ks.take i).map td).flatten = g0 at *
            have i0 : (0 : Int) ≤ (i : Int) := by omega
            have i1 : (i : Int) < (ks.length : Int) := by omega
            have hs3 : Hid (w3.heap.size ≤ wr.heap.size) := hch.out.size
            clear hv HK HI HE HNX HLT
            cases A0 <;> cases N0
            all_goals
              go_wp2_with (first
                | (go_at_call 37; refine HJ.out.mono ?_; rintro e w5 ⟨A5, cap5, rfl, hB, h5⟩; have HB := Lib.hid hB; have H5 := Lib.hid h5; clear h5 hB)
                | (at_builtin; refine wpList_extend_bools boolsTy rfl (.tmp 67) (.tmp 68) rfl (M := fun b => w3.heap.size ≤ b) (fun b hb => Nat.le_trans hs3.out (Nat.le_trans H5.out.size hb)) (hown.out.no H5.out) rfl rfl HB.out rfl (by have := hLT.out; omega) ?_; intro v7 w7 g1 g2; have G1 := Lib.hid g1; have G2 := Lib.hid g2; clear g1 g2))
              go_roundw
              case rel => exact ⟨i + 1, _, rfl, by rw [HA.out]; simp, by rw [HN.out]; simp, by go_num, hlt, by rw [hnx.out]; exact G1, hch.out.trans (H5.out.no.trans G2.out (fun b hb _ => hb)) (fun b hb hlt => by have := (hown.out.mine b hb).1; omega)⟩
              case measure => simp [intOf]; omega
          · have ht : ks.take i = ks := List.take_of_length_le (by omega)
            rw [ht] at hown ⊢
            have HEE0 := HE.out
            clear HE
            first
              | (have HEE : ans = ks.all tr := by simpa using HEE0
                 clear HEE0; subst HEE)
              | (have HEE : ans = ks.any tr := by simpa using HEE0
                 clear HEE0; subst HEE)
            clear HI HK HNX HLT
            have hs3 : Hid (w3.heap.size ≤ wr.heap.size) := hch.out.size
            have hLE := Lib.hid HLE.out
            clear HLE
            obtain ⟨m, hm⟩ : ∃ m, ∀ b : Bool, m = ((ks.map td).flatten ++ [b]).length := ⟨_, fun b => by rw [List.length_append, List.length_singleton]⟩
            have HM := Lib.hid hm
            clear hm
            go_wp2_with (at_builtin; refine wpList_push_bool boolsTy rfl (.tmp 83) (.tmp 85) rfl (M := fun b => w3.heap.size ≤ b) (fun b hb => Nat.le_trans hs3.out hb) hown.out rfl rfl (by have := hLE.out; omega) ?_; intro v7 w7 g1 g2; obtain ⟨A3, cap3, e, hB3⟩ := g1.bools (by rw [List.length_append, List.length_singleton]; unfold big; have := hLE.out; omega); rw [← HM.out] at e; subst e; have G1 := Lib.hid hB3; have G2 := Lib.hid g2; clear g1 g2 hB3)
            go_ret2
            exact ⟨A3, cap3, by rw [← HM.out]; rfl, G1.out.mono boolE_good (fun q _ hq => Nat.le_trans hsz.out hq), h3.out.1.thenNo (hch.out.trans (Chg.trans ((Chg.refl No wr)).no G2.out (fun b hb _ => hb)) (fun b hb hlt => by have := (hown.out.mine b hb).1; omega))⟩
theorem told_any : ∀ n, ToldOk n
  | 0 => fun _ _ _ _ _ _ _ _ h => h.elim
  | n + 1 => told_step n (Lib.hid (told_any n))
end Go.Proofs.Ytlejcnbpodmleaa
/- CnfR -/
namespace Go.Proofs.Ytlejcnbpodmleaa
open Go Go.RowKit

theorem fine_var {n : Nat} {f : FT (n + 1)} (h : fineF (n + 1) f = true) : ∀ m ∈ (Node.lin f).2, ∃ k : Nat, m.1 = (k : Int) ∧ k < 1048576 := by
  obtain ⟨hok, _⟩ := fine_kidsQ h
  have key : noneB (Node.lin f).1 (Node.lin f).2.length = true → ∀ m ∈ (Node.lin f).2, ∃ k : Nat, m.1 = (k : Int) ∧ k < 1048576 := fun hn m hm => by
    have h0 := (noneB_eqQ hn).2
    rw [List.eq_nil_of_length_eq_zero h0] at hm
    cases hm
  rcases okS_casesQ hok with ⟨_, hn, _⟩ | ⟨_, hl, _⟩ | ⟨_, hn, _⟩ | ⟨_, hn⟩
  · exact key hn
  · have V := valWay (vs := []) hl
    intro m hm
    obtain ⟨i, hi, rfl⟩ := List.getElem_of_mem hm
    exact V.var i hi
  · exact key hn
  · exact key hn
def RefFarOk (n : Nat) : Prop := ∀ (f : FT n) (vs : List Int) (R R' : Nat → Prop) (w : World) (cs : List Value) (A' : Option Addr) (cap' : Nat), (formV n) R w cs f → Ints R' w A' vs cap' → fineF n f = true →
    Calls Try.prog 34 #[.agg cs.toArray, .slice A' vs.length cap'] w fun e w' => e = .returned (.bool (!nearF n vs f)) ∧ Chg No w w'
set_option maxRecDepth 100000 in
set_option maxHeartbeats 4000000 in
theorem refFar_step (n : Nat) (IH : Hid (RefFarOk n)) : RefFarOk (n + 1) := by
    rintro f vs R R' w cs A' cap' h hvs hfine
    obtain ⟨A, cap, B, capk, rfl, i1, i2, hm, hk⟩ := node_cells h
    obtain ⟨hok, hks⟩ := fine_kidsQ hfine
    have hb1 := hm.big
    have hb2 := hk.big
    have hb3 := hvs.big
    unfold big at hb1 hb2 hb3
    obtain ⟨w3, hw3⟩ : ∃ w3, w3 = (w.alloc (.cells #[.int .i64 (Node.kind f), .int .i64 (Node.lin f).1, .slice A (Node.lin f).2.length cap, .slice B (Node.kids f).length capk] 27)) := ⟨_, rfl⟩
    have h3 : Hid (Chg No w w3 ∧ w3.heap[w.heap.size]? = some (.cells #[.int .i64 (Node.kind f), .int .i64 (Node.lin f).1, .slice A (Node.lin f).2.length cap, .slice B (Node.kids f).length capk] 27 (0, 0))) := by
      rw [hw3]; exact ⟨(Chg.refl _ _).alloc _, heap_alloc_new _ _⟩
    obtain ⟨p0, p1, p2, p3⟩ := obj_four h3.out.2
    have HM := Lib.hid (fun W (h : Chg No w3 W) => hm.no monoE_good (h3.out.1.thenNo h))
    have HK := Lib.hid (fun W (h : Chg No w3 W) => hk.no (formE_good n) (h3.out.1.thenNo h))
    have HO := Lib.hid (fun m hm => ref01Of_any (hvs.no intE_good h3.out.1) m hm)
    have HVR := Lib.hid (fine_var hfine)
    have HI := Lib.hid (fun W (hW : Chg No w3 W) i (hi : i < (Node.kids f).length) cs (hcs : (formV n) R W cs (Node.kids f)[i]) => IH.out _ vs R R' W cs A' cap' hcs (hvs.no intE_good (h3.out.1.thenNo hW)) (hks _ (List.getElem_mem hi)))
    obtain ⟨ans, hans⟩ : ∃ ans, ans = !nearF (n + 1) vs f := ⟨_, rfl⟩
    rw [← hans]
    have hans2 : ans = (farAny vs (Node.lin f).2 || (Node.kids f).any (fun k => !nearF n vs k)) := by
      have e : nearF (n + 1) vs f = (!farAny vs (Node.lin f).2 && (Node.kids f).all (nearF n vs)) := rfl
      rw [hans, e, Bool.not_and, Bool.not_not]
      congr 1
      induction Node.kids f with
      | nil => rfl
      | cons k ks ih => simp only [List.any_cons, List.all_cons, Bool.not_and, ih]
    have HT : Hid (∀ i (h : i < (Node.lin f).2.length), farB (valOf vs (Node.lin f).2[i].1) = true → ans = true) := fun i h hf => by
      rw [hans2, farAny_bad i h hf]; rfl
    have HF : Hid (∀ i (h : i < (Node.kids f).length), nearF n vs (Node.kids f)[i] = false → ans = true) := fun i h hf => by
      have : (Node.kids f).any (fun k => !nearF n vs k) = true := by rw [List.any_eq_true]; exact ⟨_, List.getElem_mem h, by rw [hf]; rfl⟩
      rw [hans2, this, Bool.or_true]
    have HN : Hid ((∀ i (h : i < (Node.lin f).2.length), farB (valOf vs (Node.lin f).2[i].1) = false) → (∀ i (h : i < (Node.kids f).length), nearF n vs (Node.kids f)[i] = true) → ans = false) := fun h1 h2 => by
      have : (Node.kids f).any (fun k => !nearF n vs k) = false := by
        rw [List.any_eq_false]
        intro k hk
        obtain ⟨i, hi, rfl⟩ := List.getElem_of_mem hk
        rw [h2 i hi]; decide
      rw [hans2, this, farAny_good h1]; rfl
    have RET : Hid (∀ (q : Bool) (W : World), ans = q → Chg No w W → Ending.returned (.bool q) = Ending.returned (.bool ans) ∧ Chg No w W) := fun q W h g => ⟨by rw [h], g⟩
    generalize nearF n vs = nr at *
    generalize Node.kind f = kd at *
    generalize Node.lin f = lin at *
    generalize Node.kids f = ks at *
    obtain ⟨c, t⟩ := lin
    simp only at *
    clear h hm hk hvs hans hans2 IH hok hks hfine
    go_enter Try.func34, Try.ntmps34
    go_upto_region 1 with fail
    rw [← hw3]
    clear hw3
    go_wp2_with fail
    go_loopw [5] (fun s5 wr => ∃ i : Nat, s5 = .int .i64 i ∧ i ≤ t.length ∧ wr = w3 ∧ Hid (∀ j (h : j < t.length), j < i → farB (valOf vs t[j].1) = false)) (fun s5 _ => t.length - (intOf s5).toNat)
    case atStart => exact ⟨0, rfl, Nat.zero_le _, rfl, fun j h hk => absurd hk (by omega)⟩
    case round =>
      obtain ⟨i, rfl, gi, rfl, hall⟩ := hrel
      by_cases hlt : i < t.length
      · obtain ⟨b, o, rfl, hv, hk⟩ := (HM.out wr (Chg.refl _ _)).mono_at i hlt
        obtain ⟨m, hm, hm2⟩ := HVR.out _ (List.getElem_mem hlt)
        have HOm := Lib.hid (HO.out m (by omega))
        have hT := Lib.hid (HT.out i hlt)
        have hNX : Hid (farB (valOf vs t[i].1) = false → ∀ j (h : j < t.length), j < i + 1 → farB (valOf vs t[j].1) = false) := fun hf j h hj => by
          rcases Nat.lt_or_ge j i with q | q
          · exact hall.out j h q
          · obtain rfl : j = i := by omega
            exact hf
        rw [hm] at hv hT hNX
        generalize valOf vs (m : Int) = x at *
        generalize t[i].2 = kk at *
        have i0 : (0 : Int) ≤ (i : Int) := by omega
        have i1 : (i : Int) < (t.length : Int) := by omega
        clear hm hall HT HF HN HVR HO
        rcases farB_cases x with ⟨f1, f2⟩ | ⟨f1, f2, f3⟩ | ⟨f1, f2, f3, _, _⟩
        · have HE := Lib.hid (hT.out f1)
          clear hT hNX
          go_wp2_with (go_at_call 57; refine HOm.out.mono ?_; rintro e w5 ⟨rfl, rfl⟩)
          go_ret
          exact RET.out _ _ HE.out h3.out.1
        · have HE := Lib.hid (hT.out f1)
          clear hT hNX
          go_wp2_with (go_at_call 57; refine HOm.out.mono ?_; rintro e w5 ⟨rfl, rfl⟩)
          go_ret
          exact RET.out _ _ HE.out h3.out.1
        · have HX := Lib.hid (hNX.out f1)
          clear hT hNX
          go_wp2_with (go_at_call 57; refine HOm.out.mono ?_; rintro e w5 ⟨rfl, rfl⟩)
          go_roundw
          case rel => exact ⟨i + 1, by go_num, hlt, by first | rfl | trivial, HX.out⟩
          case measure => simp [intOf]; omega
      · have hall2 : Hid (∀ j (h : j < t.length), farB (valOf vs t[j].1) = false) := fun j h => hall.out j h (by omega)
        clear hall HT HVR HO HM
        go_wp2_with fail
        go_loopw [7] (fun s7 wx => ∃ i : Nat, s7 = .int .i64 i ∧ i ≤ ks.length ∧ Hid (Chg No wr wx) ∧ Hid (∀ j (h : j < ks.length), j < i → nr ks[j] = true)) (fun s7 _ => ks.length - (intOf s7).toNat)
        case atStart => exact ⟨0, rfl, Nat.zero_le _, Chg.refl _ _, fun j h hk => absurd hk (by omega)⟩
        case round =>
          obtain ⟨i, rfl, gi, hch, hallk⟩ := hrel
          obtain ⟨p0, p1, p2, p3⟩ := obj_four (hch.out.obj h3.out.2 id)
          by_cases hlt : i < ks.length
          · obtain ⟨b, o, v0, v1, v2, v3, rfl, hv, x0, x1, x2, x3⟩ := forms_at (HK.out _ hch.out) i hlt
            have HJ := Lib.hid (HI.out _ hch.out i hlt _ hv)
            have hF := Lib.hid (HF.out i hlt)
            have hNX : Hid (nr ks[i] = true → ∀ j (h : j < ks.length), j < i + 1 → nr ks[j] = true) := fun hf j h hj => by
              rcases Nat.lt_or_ge j i with q | q
              · exact hallk.out j h q
              · obtain rfl : j = i := by omega
                exact hf
            generalize nr ks[i] = t1 at *
            have i0 : (0 : Int) ≤ (i : Int) := by omega
            have i1 : (i : Int) < (ks.length : Int) := by omega
            clear hv HK HI HF HN hallk
            cases t1
            · have HE := Lib.hid (hF.out rfl)
              clear hF hNX
              go_wp2_with (go_at_call 34; refine HJ.out.mono ?_; rintro e w5 ⟨rfl, h5⟩; have H5 := Lib.hid (hch.out.thenNo h5); clear h5)
              go_ret
              exact RET.out _ _ HE.out (h3.out.1.thenNo H5.out)
            · have HX := Lib.hid (hNX.out rfl)
              clear hF hNX
              go_wp2_with (go_at_call 34; refine HJ.out.mono ?_; rintro e w5 ⟨rfl, h5⟩; have H5 := Lib.hid (hch.out.thenNo h5); clear h5)
              go_roundw
              case rel => exact ⟨i + 1, by go_num, hlt, H5.out, HX.out⟩
              case measure => simp [intOf]; omega
          · have HE := Lib.hid (HN.out hall2.out (fun j h => hallk.out j h (by omega)))
            clear HN HF HI HK hallk
            go_wp2_with fail
            go_ret
            exact RET.out _ _ HE.out (h3.out.1.thenNo hch.out)
theorem refFar_any : ∀ n, RefFarOk n
  | 0 => fun _ _ _ _ _ _ _ _ h => h.elim
  | n + 1 => refFar_step n (Lib.hid (refFar_any n))
/-- ref02.Value's answer. -/
def valQ (n : Nat) (f : FT n) (vs : List Int) : Bool × Int := if chkF n f = 0 then (if nearF n vs f = true then (truF n (valOf vs) f, 0) else (false, 1)) else (false, chkF n f)
theorem valQ_zero {n : Nat} {f : FT n} {vs : List Int} (h : (valQ n f vs).2 = 0) : nearF n vs f = true ∧ (valQ n f vs).1 = truF n (valOf vs) f := by
  unfold valQ at h ⊢
  split
  · rename_i hc
    rw [if_pos hc] at h
    split
    · rename_i hn; exact ⟨hn, rfl⟩
    · rename_i hn; rw [if_neg hn] at h; cases h
  · rename_i hc
    rw [if_neg hc] at h
    exact absurd h hc
set_option maxRecDepth 100000 in
set_option maxHeartbeats 2000000 in
theorem refValue2_any {n : Nat} {f : FT n} {vs : List Int} {R R' : Nat → Prop} {w : World} {cs : List Value} {A' : Option Addr} {cap' : Nat} (h : (formV n) R w cs f) (hvs : Ints R' w A' vs cap') :
    Calls Try.prog 17 #[.agg cs.toArray, .slice A' vs.length cap'] w fun e w' => e = .returned (.tuple #[.bool (valQ n f vs).1, .int .i64 (valQ n f vs).2]) ∧ Chg No w w' := by
  have hg := formV_good n
  have HC := Lib.hid (fun W (hW : Chg No w W) => refFormCheck_any (hg.no h hW))
  have HX := Lib.hid (fun (h1 : fineF n f = true) W (hW : Chg No w W) => refFar_any n f vs R R' W cs A' cap' (hg.no h hW) (hvs.no intE_good hW) h1)
  have HY := Lib.hid (fun (h1 : fineF n f = true) (h2 : nearF n vs f = true) W (hW : Chg No w W) => refIs_any n f vs R R' W cs A' cap' (hg.no h hW) (hvs.no intE_good hW) h1 h2)
  obtain ⟨kd, c, A, tl, cap, B, kl, capk, rfl⟩ := shape4 h
  have hcw : Hid (Chg No w (w.alloc (.cells #[.int .i64 kd, .int .i64 c, .slice A tl cap, .slice B kl capk] 27)) ∧ (w.alloc (.cells #[.int .i64 kd, .int .i64 c, .slice A tl cap, .slice B kl capk] 27)).heap[w.heap.size]? = some (.cells #[.int .i64 kd, .int .i64 c, .slice A tl cap, .slice B kl capk] 27 (0, 0))) := ⟨(Chg.refl _ _).alloc _, heap_alloc_new _ _⟩
  have ST : Hid (∀ W W', (Chg No w W ∧ W.heap[w.heap.size]? = some (.cells #[.int .i64 kd, .int .i64 c, .slice A tl cap, .slice B kl capk] 27 (0, 0))) → Chg No W W' → (Chg No w W' ∧ W'.heap[w.heap.size]? = some (.cells #[.int .i64 kd, .int .i64 c, .slice A tl cap, .slice B kl capk] 27 (0, 0)))) := fun W W' h h' => ⟨h.1.thenNo h', h'.obj h.2 id⟩
  have hz := Lib.hid (fun h => chkF_zero (n := n) (f := f) h)
  unfold valQ
  clear h hvs hg
  generalize chkF n f = ck at *
  by_cases hc : ck = 0
  · subst hc
    obtain ⟨_, _, z3⟩ := hz.out rfl
    have HX1 := Lib.hid (HX.out z3)
    have HY1 := Lib.hid (HY.out z3)
    rw [if_pos rfl]
    clear hz HX HY z3
    generalize truF n (valOf vs) f = tr at *
    generalize nearF n vs f = nr at *
    cases nr
    · rw [if_neg (by decide)]
      clear HY1
      go_enter Try.func17, Try.ntmps17
      go_wp2_with (first
        | (go_at_call 33; refine (HC.out _ hcw.out.1).mono ?_; rintro e w1 ⟨rfl, h1⟩; have H1 := Lib.hid (ST.out _ _ hcw.out h1); obtain ⟨p0, p1, p2, p3⟩ := obj_four H1.out.2; clear h1)
        | (go_at_call 34; refine (HX1.out _ H1.out.1).mono ?_; rintro e w2 ⟨rfl, h2⟩; have H2 := Lib.hid (ST.out _ _ H1.out h2); clear h2))
      go_ret2
      exact ⟨rfl, H2.out.1⟩
    · rw [if_pos rfl]
      have HY2 := Lib.hid (HY1.out rfl)
      clear HY1
      go_enter Try.func17, Try.ntmps17
      go_wp2_with (first
        | (go_at_call 33; refine (HC.out _ hcw.out.1).mono ?_; rintro e w1 ⟨rfl, h1⟩; have H1 := Lib.hid (ST.out _ _ hcw.out h1); obtain ⟨p0, p1, p2, p3⟩ := obj_four H1.out.2; clear h1)
        | (go_at_call 34; refine (HX1.out _ H1.out.1).mono ?_; rintro e w2 ⟨rfl, h2⟩; have H2 := Lib.hid (ST.out _ _ H1.out h2); clear h2; obtain ⟨q0, q1, q2, q3⟩ := obj_four H2.out.2)
        | (go_at_call 35; refine (HY2.out _ H2.out.1).mono ?_; rintro e w3 ⟨rfl, h3⟩; have H3 := Lib.hid (H2.out.1.thenNo h3); clear h3))
      go_ret2
      exact ⟨rfl, H3.out⟩
  · rw [if_neg hc]
    have e1 : (ck != 0) = true := by simp [hc]
    clear HX HY hz
    go_enter Try.func17, Try.ntmps17
    go_wp2_with (go_at_call 33; refine (HC.out _ hcw.out.1).mono ?_; rintro e w1 ⟨rfl, h1⟩; have H1 := Lib.hid (ST.out _ _ hcw.out h1); clear h1)
    go_ret2
    exact ⟨rfl, H1.out.1⟩
end Go.Proofs.Ytlejcnbpodmleaa
/- CnfT -/
namespace Go.Proofs.Ytlejcnbpodmleaa
open Go Go.RowKit

set_option maxRecDepth 100000 in
set_option maxHeartbeats 4000000 in
theorem values9_any {n : Nat} {f : FT n} {vs : List Int} {l : List Lin} {R R' RA : Nat → Prop} {w : World} {cs : List Value} {A' AL : Option Addr} {cap' capl : Nat} (h : (formV n) R w cs f) (hl : Lins RA w AL l capl) (hvs : Ints R' w A' vs cap')
    (honly : onlyF n f = true) (hfine : fineF n f = true) (hnear : nearF n vs f = true) (hcnt : cntF n f ≤ 100000) (hgood : ∀ a ∈ l, linB a.1 a.2 = true ∧ farAny vs a.2 = false) (hlen : l.length ≤ 100000) :
    Calls Try.prog 18 #[.agg cs.toArray, .slice AL l.length capl, .slice A' vs.length cap'] w fun e w' => ∃ A cap, e = .returned (.slice A (l.map (fun a => decide (a.1 + val (valOf vs) a.2 ≤ 0)) ++ toldL n (valOf vs) f).length cap) ∧ Bools (fun k => w.heap.size ≤ k) w' A (l.map (fun a => decide (a.1 + val (valOf vs) a.2 ≤ 0)) ++ toldL n (valOf vs) f) cap ∧ Chg No w w' := by
  have hg := formV_good n
  have HT := Lib.hid (fun W (hW : Chg No w W) => told_any n f vs R R' W cs A' cap' (hg.no h hW) (hvs.no intE_good hW) honly hfine hnear hcnt)
  have htl := told_len n f (valOf vs)
  have HL := Lib.hid (fun W (hW : Chg No w W) => hl.no linE_good hW)
  have HV := Lib.hid (fun W (hW : Chg No w W) (c : Int) (t : List Mono) (R : Nat → Prop) (A : Option Addr) (cap : Nat) (ht : Monos R W A t cap) => ref01Value_any c ht (hvs.no intE_good hW))
  have HG := Lib.hid (fun a ha => val_near2 (hgood a ha).1 (hgood a ha).2)
  have hb3 := hvs.big
  unfold big at hb3
  obtain ⟨kd, c, A, tl, cap, B, kl, capk, rfl⟩ := shape4 h
  have hb4 := hl.big
  unfold big at hb4
  clear h hl hvs honly hfine hnear hgood hg
  unfold ToldRet at HT
  generalize truF n (valOf vs) f = tr at *
  generalize toldL n (valOf vs) f = td at *
  have htd : Hid (td.length ≤ 100000) := by unfold Hid; omega
  clear hcnt htl
  obtain ⟨w3, hw3⟩ : ∃ w3, w3 = (w.alloc (.cells #[.int .i64 kd, .int .i64 c, .slice A tl cap, .slice B kl capk] 27)) := ⟨_, rfl⟩
  have h3 : Hid (Chg No w w3 ∧ w3.heap[w.heap.size]? = some (.cells #[.int .i64 kd, .int .i64 c, .slice A tl cap, .slice B kl capk] 27 (0, 0))) := by
    rw [hw3]; exact ⟨(Chg.refl _ _).alloc _, heap_alloc_new _ _⟩
  have hsz : Hid (w.heap.size ≤ w3.heap.size) := h3.out.1.size
  obtain ⟨mm, hmm⟩ : ∃ mm, mm = (l.map (fun a => decide (a.1 + val (valOf vs) a.2 ≤ 0)) ++ td).length := ⟨_, rfl⟩
  rw [← hmm]
  have HMM := Lib.hid hmm
  clear hmm
  obtain ⟨dec, hdec⟩ : ∃ d, d = (fun a : Lin => decide (a.1 + val (valOf vs) a.2 ≤ 0)) := ⟨_, rfl⟩
  rw [← hdec] at HMM ⊢
  have HD := Lib.hid hdec
  clear hdec
  go_enter Try.func18, Try.ntmps18
  go_upto_region 1 with fail
  rw [← hw3]
  clear hw3
  go_wp2_with fail
  go_loopw [7, 8] (fun s7 s8 wr => ∃ (i : Nat) (v : Value), v = s7 ∧ s8 = .int .i64 i ∧ i ≤ l.length ∧ Hid (OBools 4 (fun b => w3.heap.size ≤ b) wr v ((l.take i).map dec)) ∧ Hid (Chg No w3 wr)) (fun _ s8 _ => l.length - (intOf s8).toNat)
  case atStart => exact ⟨0, _, rfl, rfl, Nat.zero_le _, OBools.nil _ _ _, Chg.refl _ _⟩
  case round =>
    obtain ⟨i, v, rfl, rfl, gi, hown, hch⟩ := hrel
    by_cases hlt : i < l.length
    · obtain ⟨b, o, Ai, ci, rfl, _, x0, x1, _, hmo⟩ := lins_at (HL.out wr (h3.out.1.thenNo hch.out)) i hlt
      have HJ := Lib.hid (HV.out wr (h3.out.1.thenNo hch.out) l[i].1 l[i].2 _ _ _ hmo)
      rw [HG.out _ (List.getElem_mem hlt)] at HJ
      simp only at HJ
      have hnx : Hid ((l.take (i + 1)).map dec = (l.take i).map dec ++ [decide (l[i].1 + val (valOf vs) l[i].2 ≤ 0)]) := by
        unfold Hid; rw [List.take_add_one, List.getElem?_eq_getElem hlt, List.map_append, HD.out]; rfl
      have hul : Hid (((l.take i).map dec).length = i) := by unfold Hid; rw [List.length_map, List.length_take]; omega
      generalize l[i].1 + val (valOf vs) l[i].2 = V at *
      generalize l[i].2.length = ttl at *
      generalize l[i].1 = cc at *
      generalize (l.take i).map dec = g0 at *
      have i0 : (0 : Int) ≤ (i : Int) := by omega
      have i1 : (i : Int) < (l.length : Int) := by omega
      have hs3 : Hid (w3.heap.size ≤ wr.heap.size) := hch.out.size
      clear hmo HV HG HL HT
      go_wp2_with (first
        | (go_at_call 36; refine HJ.out.mono ?_; rintro e w5 ⟨rfl, h5⟩; have H5 := Lib.hid h5; clear h5)
        | (at_builtin; refine wpList_push_bool boolsTy rfl (.tmp 28) (.tmp 31) rfl (M := fun b => w3.heap.size ≤ b) (fun b hb => Nat.le_trans hs3.out (Nat.le_trans H5.out.size hb)) (hown.out.no H5.out) rfl rfl (by rw [hul.out]; omega) ?_; intro v7 w7 g1 g2; have G1 := Lib.hid g1; have G2 := Lib.hid g2; clear g1 g2))
      go_roundw
      case rel => exact ⟨i + 1, _, rfl, by go_num, hlt, by rw [hnx.out]; exact G1, hch.out.trans (H5.out.no.trans G2.out (fun b hb _ => hb)) (fun b hb hlt => by have := (hown.out.mine b hb).1; omega)⟩
      case measure => simp [intOf]; omega
    · have ht : l.take i = l := List.take_of_length_le (by omega)
      rw [ht] at hown
      obtain ⟨p0, p1, p2, p3⟩ := obj_four (hch.out.obj h3.out.2 id)
      have HTT := Lib.hid (HT.out wr (h3.out.1.thenNo hch.out))
      have hs3 : Hid (w3.heap.size ≤ wr.heap.size) := hch.out.size
      have hul : Hid ((l.map dec).length = l.length) := by unfold Hid; rw [List.length_map]

      clear HV HG HL HT HD
      go_wp2_with (first
        | (go_at_call 37; refine HTT.out.mono ?_; rintro e w5 ⟨A5, cap5, rfl, hB, h5⟩; have HB := Lib.hid hB; have H5 := Lib.hid h5; clear h5 hB)
        | (at_builtin; refine wpList_extend_bools boolsTy rfl (.tmp 39) (.tmp 40) rfl (M := fun b => w3.heap.size ≤ b) (fun b hb => Nat.le_trans hs3.out (Nat.le_trans H5.out.size hb)) (hown.out.no H5.out) rfl rfl HB.out rfl (by rw [hul.out]; have := htd.out; omega) ?_; intro v7 w7 g1 g2; obtain ⟨A3, cap3, e, hB3⟩ := g1.bools (by rw [List.length_append, hul.out]; unfold big; have := htd.out; omega); rw [← HMM.out] at e; subst e; have G1 := Lib.hid hB3; have G2 := Lib.hid g2; clear g1 g2 hB3))
      go_ret
      exact ⟨A3, cap3, rfl, G1.out.mono boolE_good (fun q _ hq => Nat.le_trans hsz.out hq), h3.out.1.thenNo (hch.out.trans (H5.out.no.trans G2.out (fun b hb _ => hb)) (fun b hb hlt => by have := (hown.out.mine b hb).1; omega))⟩
end Go.Proofs.Ytlejcnbpodmleaa
/- CnfU -/
namespace Go.Proofs.Ytlejcnbpodmleaa
open Go Go.RowKit

theorem Sl.dropN {α : Type} {E : Elem α} {sz cap : Nat} {R : Nat → Prop} {w : World} {A : Option Addr} {l : List α} (h : Sl E sz R w A l cap) (k : Nat) (hk : k < l.length) : ∃ b o, A = some ⟨b, o, none⟩ ∧ Sl E sz R w (some ⟨b, o + k * sz, none⟩) (l.drop k) (cap - k) := by
  obtain ⟨b, o, e, _⟩ := h.at_ k hk
  refine ⟨b, o, e, by rw [List.length_drop]; have := h.le; omega, by have := h.max; omega, ?_, (fun h => by cases h), fun i hi => ?_⟩
  · have := h.room
    rw [List.length_drop]
    exact Nat.le_trans (Nat.mul_le_mul_right _ (by omega)) this
  · rw [List.length_drop] at hi
    obtain ⟨b', o', e', x⟩ := h.at_ (k + i) (by omega)
    rw [e] at e'
    injection e' with e'
    injection e' with e1 e2
    subst e1; subst e2
    refine ⟨b, o + k * sz, rfl, ?_⟩
    rw [List.getElem_drop, Nat.add_assoc, ← Nat.add_mul]
    exact x
theorem Sl.takeQ {α : Type} {E : Elem α} {sz cap : Nat} {R : Nat → Prop} {w : World} {A : Option Addr} {l : List α} (h : Sl E sz R w A l cap) (k : Nat) : Sl E sz R w A (l.take k) cap :=
  ⟨Nat.le_trans (by simp; omega) h.le, h.max, Nat.le_trans (Nat.mul_le_mul_right _ (by simp; omega)) h.room, h.nil, fun i hi => by
    obtain ⟨b, o, e, x⟩ := h.at_ i (by simp at hi; omega)
    refine ⟨b, o, e, ?_⟩
    rw [List.getElem_take]
    exact x⟩
theorem only_fineQ : ∀ (N : Nat) (x : FT N), onlyF N x = true → fineF N x = true
  | 0, _, h => by cases h
  | N + 1, (⟨kd, l, ks⟩ : Node (FT N)), h => by
    obtain ⟨hok, hks⟩ := only_parts h
    have e : fineF (N + 1) (⟨kd, l, ks⟩ : Node (FT N)) = (okS kd (noneB l.1 l.2.length) (linB l.1 l.2) ks.length && ks.all (fineF N)) := rfl
    have e2 : ks.all (fineF N) = true := by
      rw [List.all_eq_true]
      exact fun k hk => only_fineQ N k (hks k hk)
    rw [e, e2, Bool.and_true]
    simp only at hok
    rcases okB_cases hok with ⟨hkd, hnb, hkl⟩ | ⟨hkd, hcn, hkl⟩ | ⟨hkd, hnb, hkl, hk0⟩ | ⟨hkd, hnb⟩
    · rw [hnb, hkl]; rcases hkd with rfl | rfl <;> simp [okS]
    · rw [(canon_parts hcn).1, hkl, hkd]; simp [okS]
    · rw [hnb, hkl, hkd]; simp [okS]
    · rw [hnb]; rcases hkd with rfl | rfl <;> simp [okS]
/-- All that the walk asks of the clauses that were made, by near values. -/
theorem cnf_all {n : Nat} {x : FT n} {vs : List Int} (he : cnfErr n x = 0) (hn : nearF n vs x = true) :
    onlyF n x = true ∧ fineF n x = true ∧ cntF n x ≤ 100000 ∧ (∀ a ∈ (cnfOut n x).2.1, linB a.1 a.2 = true ∧ farAny vs a.2 = false) ∧
      ((((cnfOut n x).2.1.map (fun a => decide (a.1 + val (valOf vs) a.2 ≤ 0)) ++ toldL n (valOf vs) x).length : Nat) : Int) = (cnfOut n x).1 ∧
      ∃ C o, (cnfOut n x).2.2 = C ++ [[o]] ∧ allB C ((cnfOut n x).2.1.map (fun a => decide (a.1 + val (valOf vs) a.2 ≤ 0)) ++ toldL n (valOf vs) x) = true ∧
        allB [[o]] ((cnfOut n x).2.1.map (fun a => decide (a.1 + val (valOf vs) a.2 ≤ 0)) ++ toldL n (valOf vs) x) = truF n (valOf vs) x := by
  have hB : isB n x = true := by
    cases hB : isB n x with
    | true => rfl
    | false => unfold cnfErr at he; rw [hB] at he; simp at he
  obtain ⟨ho, hc⟩ := is_only hB
  have hf := only_fineQ n x ho
  have e : cnfOut n x = ((cnfAll n x).1, atomsF n x [], (cnfAll n x).2) := by unfold cnfOut; rw [if_pos he]
  obtain ⟨a1, a2, a3⟩ := cnf_right (valOf vs) ho
  rw [e]
  refine ⟨ho, hf, by omega, atoms_all n x hf hn [] (fun a ha => by cases ha), a1, _, _, rfl, a2, ?_⟩
  unfold allB
  simp only [List.all_cons, List.all_nil, Bool.and_true, List.any_cons, List.any_nil, Bool.or_false]
  exact a3
theorem errV_zeroQ {T : TypeId} {c : Int} (h : c = 0) : errV T c = .nilIface := by rw [h]; exact errV_zero T
set_option maxRecDepth 100000 in
set_option maxHeartbeats 8000000 in
theorem cnfRight_walk {n : Nat} {f : FT n} {vs : List Int} {R R' : Nat → Prop} {w : World} {cs : List Value} {A' : Option Addr} {cap' : Nat} (h : (formV n) R w cs f) (hvs : Ints R' w A' vs cap') :
    Calls Try.prog 6 #[.agg cs.toArray, .slice A' vs.length cap'] w fun e w' => e = .returned (.bool true) ∧ Chg No w w' := by
  have hg := formV_good n
  obtain ⟨kd, c, A, tl, cap, B, kl, capk, rfl⟩ := shape4 h
  have HU := Lib.hid (fun W => up9_any W)
  have HS := Lib.hid (fun W (hc : Chg No w W) => small_any (hg.no h hc))
  have HN := Lib.hid (fun W (hc : Chg No w W) => (normNorm_any (hg.no h hc)).mono (fun _ _ g => g.shape))
  have HV := Lib.hid (fun W (hc : Chg No w W) => refValue2_any (hg.no h hc) (hvs.no intE_good hc))
  have HVS := Lib.hid (fun W (hc : Chg No w W) => hvs.no intE_good hc)
  have hb3 := hvs.big
  unfold big at hb3
  obtain ⟨xf, hxf⟩ : ∃ xf, xf = resF n f := ⟨_, rfl⟩
  have HM := Lib.hid (fun W R cs (hx : (formV (3 + n)) R W cs xf) => make9_any hx)
  obtain ⟨hlA, hlC⟩ := cnfOut_len (3 + n) xf
  have HALL : Hid (resE n f = 0 → (valQ n f vs).2 = 0 → cnfErr (3 + n) xf = 0 → nearF (3 + n) vs xf = true ∧ truF (3 + n) (valOf vs) xf = (valQ n f vs).1) := fun he hv _ => by
    obtain ⟨v1, v2⟩ := valQ_zero hv
    obtain ⟨g1, g2⟩ := (norm_right he).2 vs v1
    rw [v2, hxf]
    exact ⟨g2, g1⟩
  have HCN := Lib.hid (fun he hn => cnf_all (n := 3 + n) (x := xf) (vs := vs) he hn)
  rw [← hxf] at HN
  clear h hvs hxf hg
  generalize resE n f = er at *
  generalize valQ n f vs = vr at *
  generalize cnfErr (3 + n) xf = ec at *
  generalize cnfOut (3 + n) xf = oo at *
  obtain ⟨vb, vg⟩ := vr
  obtain ⟨oN, oA, oC⟩ := oo
  simp only at HV HALL hlA hlC HCN
  obtain ⟨w0, hw0⟩ : ∃ w0, w0 = (w.alloc (.cells #[.int .i64 kd, .int .i64 c, .slice A tl cap, .slice B kl capk] 27)) := ⟨_, rfl⟩
  have h0 : Hid (Chg No w w0 ∧ w0.heap[w.heap.size]? = some (.cells #[.int .i64 kd, .int .i64 c, .slice A tl cap, .slice B kl capk] 27 (0, 0))) := by
    rw [hw0]; exact ⟨(Chg.refl _ _).alloc _, heap_alloc_new _ _⟩
  have ST : Hid (∀ W W', (Chg No w W ∧ W.heap[w.heap.size]? = some (.cells #[.int .i64 kd, .int .i64 c, .slice A tl cap, .slice B kl capk] 27 (0, 0))) → Chg No W W' → (Chg No w W' ∧ W'.heap[w.heap.size]? = some (.cells #[.int .i64 kd, .int .i64 c, .slice A tl cap, .slice B kl capk] 27 (0, 0)))) := fun W W' h h' => ⟨h.1.thenNo h', h'.obj h.2 id⟩
  go_enter Try.func6, Try.ntmps6
  go_upto_region 1 with fail
  rw [← hw0]
  clear hw0
  go_upto_region 3 with (first
    | (go_at_call 7; refine (HU.out _).mono ?_; rintro e w1 ⟨rfl, h1⟩; have H1 := Lib.hid (ST.out _ _ h0.out h1); obtain ⟨p0, p1, p2, p3⟩ := obj_four H1.out.2; clear h1)
    | (go_at_call 8; refine (HS.out _ H1.out.1).mono ?_; rintro e w2 ⟨q, rfl, h2⟩; have H2 := Lib.hid (ST.out _ _ H1.out h2); clear p0 p1 p2 p3; obtain ⟨p0, p1, p2, p3⟩ := obj_four H2.out.2; clear h2))
  have N1 := Lib.hid (HN.out w2 H2.out.1)
  go_upto_region 4 with (go_at_call 16; (with_reducible refine N1.out.mono ?_); rintro e w3 ⟨k1, c1, A1, l1, a1, B1, m1, b1, rfl, g_, h_⟩; have G1 := Lib.hid g_; have I1 := Lib.hid h_; clear g_ h_)
  have K1 : Hid (Chg No w2 (w3.alloc (.cells #[.int .i64 k1, .int .i64 c1, .slice A1 l1 a1, .slice B1 m1 b1] 27)) ∧ (w3.alloc (.cells #[.int .i64 k1, .int .i64 c1, .slice A1 l1 a1, .slice B1 m1 b1] 27)).heap[w3.heap.size]? = some (.cells #[.int .i64 k1, .int .i64 c1, .slice A1 l1 a1, .slice B1 m1 b1] 27 (0, 0)) ∧ (formV (3 + n)) (fun k => R k ∨ w2.heap.size ≤ k) (w3.alloc (.cells #[.int .i64 k1, .int .i64 c1, .slice A1 l1 a1, .slice B1 m1 b1] 27)) [.int .i64 k1, .int .i64 c1, .slice A1 l1 a1, .slice B1 m1 b1] xf) := ⟨I1.out.alloc _, heap_alloc_new _ _, (formV_good _).no G1.out ((Chg.refl _ _).alloc _)⟩
  generalize w3.alloc (.cells #[.int .i64 k1, .int .i64 c1, .slice A1 l1 a1, .slice B1 m1 b1] 27) = w4 at *
  clear p0 p1 p2 p3 G1 I1
  have H4 := Lib.hid (ST.out _ _ H2.out K1.out.1)
  cases q
  · go_wp2_with fail
    go_ret
    exact ⟨rfl, H4.out.1⟩
  by_cases he : er = 0
  · rw [errV_zeroQ he]
    obtain ⟨p0, p1, p2, p3⟩ := obj_four H4.out.2
    go_upto_region 7 with (go_at_call 17; (with_reducible refine (HV.out w4 H4.out.1).mono ?_); rintro e w5 ⟨rfl, h5⟩; have H5 := Lib.hid (ST.out _ _ H4.out h5); have K5 := Lib.hid (And.intro (h5.obj K1.out.2.1 id) ((formV_good _).no K1.out.2.2 h5)); clear h5)
    clear p0 p1 p2 p3
    obtain ⟨p0, p1, p2, p3⟩ := obj_four K5.out.1
    have M1 := Lib.hid (HM.out w5 _ _ K5.out.2)
    go_upto_region 8 with (go_at_call 9; (with_reducible refine M1.out.mono ?_); rintro e w6 ⟨A2, c2, B2, d2, Z, rfl, _, g1, g2, h6⟩; have G1 := Lib.hid (own_rows g1 hlC).2; have G2 := Lib.hid (own_lins g2 hlA).2; have C6 := Lib.hid h6; clear g1 g2 h6)
    have K7 : Hid (Chg No w5 (w6.alloc (.cells #[.int .i64 oN, .slice A2 oA.length c2, .slice B2 oC.length d2] 33)) ∧ (w6.alloc (.cells #[.int .i64 oN, .slice A2 oA.length c2, .slice B2 oC.length d2] 33)).heap[w6.heap.size]? = some (.cells #[.int .i64 oN, .slice A2 oA.length c2, .slice B2 oC.length d2] 33 (0, 0)) ∧ Rows2 Any (w6.alloc (.cells #[.int .i64 oN, .slice A2 oA.length c2, .slice B2 oC.length d2] 33)) B2 oC d2 ∧ Lins Any (w6.alloc (.cells #[.int .i64 oN, .slice A2 oA.length c2, .slice B2 oC.length d2] 33)) A2 oA c2) :=
      ⟨C6.out.alloc _, heap_alloc_new _ _, G1.out.no rowE_good ((Chg.refl _ _).alloc _), G2.out.no linE_good ((Chg.refl _ _).alloc _)⟩
    generalize w6.alloc (.cells #[.int .i64 oN, .slice A2 oA.length c2, .slice B2 oC.length d2] 33) = w7 at *
    clear p0 p1 p2 p3 G1 G2 C6
    have H7 := Lib.hid (ST.out _ _ H5.out K7.out.1)
    by_cases hec : ec = 0
    · rw [errV_zeroQ hec]
      by_cases hvg : vg = 0
      · subst hvg
        obtain ⟨hnr, htr⟩ := HALL.out he rfl hec
        obtain ⟨q1, q2, q3, q4, q5, C, o, q6, q7, q8⟩ := HCN.out hec hnr
        have F7 := (formV_good _).no K5.out.2 K7.out.1
        have HVAL := Lib.hid (values9_any F7 K7.out.2.2.2 (HVS.out _ H7.out.1) q1 q2 hnr q3 q4 hlA)
        have hlen : oC.length = C.length + 1 := by rw [q6]; simp
        have hR1 := K7.out.2.2.1.takeQ C.length
        obtain ⟨bb, ob, hB2, hR2⟩ := K7.out.2.2.1.dropN C.length (by omega)
        have ht1 : oC.take C.length = C := by rw [q6]; simp
        have ht2 : oC.drop C.length = [[o]] := by rw [q6]; simp
        rw [ht1] at hR1
        rw [ht2] at hR2
        rw [htr] at q8
        have hd2 : C.length + 1 ≤ d2 := by have := K7.out.2.2.1.le; omega
        have hd3 := K7.out.2.2.1.max
        subst hB2
        generalize (oA.map (fun a => decide (a.1 + val (valOf vs) a.2 ≤ 0)) ++ toldL (3 + n) (valOf vs) xf) = V at *
        have HV1 := Lib.hid (fun W (hW : Chg No w7 W) A5 cap5 (hB : Bools (fun k => w7.heap.size ≤ k) W A5 V cap5) => value_any (hR1.no rowE_good hW) hB)
        have HV2 := Lib.hid (fun W (hW : Chg No w7 W) A5 cap5 (hB : Bools (fun k => w7.heap.size ≤ k) W A5 V cap5) => value_any (hR2.no rowE_good hW) hB)
        rw [q7] at HV1
        rw [q8] at HV2
        have K72 := K7.out.2.1
        rw [hlen] at K72 ⊢
        have K73 := Lib.hid (And.intro K7.out.1 K72)
        have hcl : C.length ≤ 1000000 := by omega
        generalize C.length = cl at *
        rw [show ([[o]] : List (List Int)).length = 1 from rfl, Nat.mul_one] at HV2
        clear HALL HCN hnr htr q1 q2 q3 q4 q6 q7 q8 F7 hlen hR1 hR2 ht1 ht2 K7 hec he hlC K72
        obtain ⟨p0, p1, p2, p3⟩ := obj_four (K73.out.1.obj K5.out.1 id)
        obtain ⟨r0, r1, r2, _, _, _⟩ := obj_three K73.out.2
        go_upto_region 11 with (go_at_call 18; (with_reducible refine HVAL.out.mono ?_); rintro e w8 ⟨A5, cap5, rfl, hB, h8⟩; have HB := Lib.hid hB; have H8 := Lib.hid h8; have R8 := Lib.hid (h8.obj K73.out.2 id); clear hB h8)
        clear p0 p1 p2 p3 r0 r1 r2
        obtain ⟨r0, r1, r2, _, _, _⟩ := obj_three R8.out
        have e2 : ((V.length : Int) != oN) = false := by simp [q5]
        have c0 : (0 : Int) ≤ (cl : Int) := by omega
        have c1 : (cl : Int) ≤ 1000000 := by omega
        have c2' : ((cl + 1 : Nat) : Int) - 1 = (cl : Int) := by omega
        generalize V.length = vl at *
        cases vb
        all_goals
          go_wp2_with (go_at_call 19; first | ((with_reducible refine (HV1.out _ H8.out _ _ HB.out).mono ?_); rintro e w9 ⟨rfl, h9⟩; have s2 := h9.cell r2 id; have H9 := Lib.hid h9; clear h9) | ((with_reducible refine (HV2.out _ (H8.out.thenNo H9.out) _ _ (HB.out.no boolE_good H9.out)).mono ?_); rintro e wa ⟨rfl, ha⟩; have Ha := Lib.hid ha; clear ha))
          go_ret
          exact ⟨rfl, ((H7.out.1.thenNo H8.out).thenNo H9.out).thenNo Ha.out⟩
      · have e1 : (vg != 0) = true := by simp [hvg]
        clear HALL HCN hvg he hec
        go_wp2_with fail
        go_ret
        exact ⟨rfl, H7.out.1⟩
    · rw [errV_of _ hec]
      clear HALL HCN
      go_wp2_with fail
      go_ret
      exact ⟨rfl, H7.out.1⟩
  · rw [errV_of _ he]
    go_wp2_with fail
    go_ret
    exact ⟨rfl, H4.out.1⟩
end Go.Proofs.Ytlejcnbpodmleaa
