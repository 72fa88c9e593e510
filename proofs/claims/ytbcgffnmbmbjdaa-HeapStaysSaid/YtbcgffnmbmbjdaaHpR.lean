/-
  Chapter 17: trammelref17's Stands, Check, Fresh walked.
-/
import Derived.Test.YtbcgffnmbmbjdaaHpQ
namespace Go.Proofs.Ytbcgffnmbmbjdaa
open Go Go.RowKit

theorem strict_of_adj : ∀ {l : List Tri}, (∀ j (h : j + 1 < l.length), ltT l[j] l[j + 1] = true) → Strict l
  | [], _ => List.Pairwise.nil
  | [x], _ => by simp
  | x :: y :: t, h => by
    have ih := strict_of_adj (l := y :: t) (fun j hj => h (j + 1) (by simpa using hj))
    have hxy : ltT x y = true := h 0 (by simp)
    refine List.pairwise_cons.2 ⟨fun z hz => ?_, ih⟩
    rcases List.mem_cons.1 hz with rfl | hz
    · exact hxy
    · exact ltT_trans hxy ((List.pairwise_cons.1 ih).1 z hz)
theorem adj_of_strict {l : List Tri} (h : Strict l) (j : Nat) (hj : j + 1 < l.length) : ltT l[j] l[j + 1] = true :=
  (List.pairwise_iff_getElem.1 h) j (j + 1) (by omega) hj (by omega)
/-- Do cells stand as they should? -/
def standsB (l : List Tri) : Bool := decide (Strict l)
theorem standsB_no {l : List Tri} {j : Nat} (hj : j + 1 < l.length) (h : ltT l[j] l[j + 1] = false) : standsB l = false :=
  decide_eq_false (fun hs => by rw [adj_of_strict hs j hj] at h; cases h)
theorem standsB_yes {l : List Tri} (h : ∀ j (h : j + 1 < l.length), ltT l[j] l[j + 1] = true) : standsB l = true := decide_eq_true (strict_of_adj h)

set_option maxRecDepth 100000 in
set_option maxHeartbeats 4000000 in
theorem refStands_any {R : Nat → Prop} {w : World} {A : Option Addr} {l : List Tri} {cap : Nat} (hl : Tris R w A l cap) :
    Calls Try.prog 14 #[.slice A l.length cap] w fun e w' => e = .returned (.bool (standsB l)) ∧ Chg No w w' := by
  have HL := Lib.hid (fun W (h : Chg No w W) => hl.no triE_good h)
  have HB := Lib.hid below_any
  have hb := hl.big
  unfold big at hb
  clear hl
  have HNO := Lib.hid (fun (j : Nat) (hj : j + 1 < l.length) h => standsB_no hj h)
  have HYE := Lib.hid (fun h => standsB_yes (l := l) h)
  generalize standsB l = ans at *
  go_enter Try.func14, Try.ntmps14
  go_wp2_with fail
  go_loopw [3] (fun s3 wr => ∃ k : Nat, k + 1 ≤ l.length + 1 ∧ s3 = .int .i64 ((k + 1 : Nat) : Int) ∧ Hid (Chg No w wr) ∧ Hid (∀ j (h : j + 1 < l.length), j < k → ltT l[j] l[j + 1] = true)) (fun s3 _ => l.length + 1 - (intOf s3).toNat)
  case atStart => exact ⟨0, by omega, rfl, Chg.refl _ _, fun j _ h => absurd h (Nat.not_lt_zero j)⟩
  case round =>
    obtain ⟨k, hk, rfl, hch, hI⟩ := hrel
    by_cases hlt : k + 1 < l.length
    · obtain ⟨b, off, hA, c0, c1, c2⟩ := (HL.out wr hch.out).tri_at k (by omega)
      obtain ⟨b', off', hA', d0, d1, d2⟩ := (HL.out wr hch.out).tri_at (k + 1) hlt
      rw [hA] at hA'
      simp only [Option.some.injEq, Addr.mk.injEq, and_true] at hA'
      obtain ⟨rfl, rfl⟩ := hA'
      have HN := Lib.hid (HNO.out k hlt)
      have HX : Hid (ltT l[k] l[k + 1] = true → ∀ j (h : j + 1 < l.length), j < k + 1 → ltT l[j] l[j + 1] = true) := fun h j hj hj2 => by
        rcases Nat.lt_or_ge j k with g1 | g1
        · exact hI.out j hj g1
        · obtain rfl : j = k := by omega
          exact h
      subst hA
      have hk0 : k < l.length := by omega
      generalize l[k + 1] = m' at *
      generalize l[k] = m at *
      obtain ⟨x, f, z⟩ := m
      obtain ⟨x', f', z'⟩ := m'
      dsimp only at c0 c1 c2 d0 d1 d2
      have HBQ : Hid (∀ W, Calls Try.prog 32 #[.int .i64 x, .string f, .int .i64 x', .string f'] W fun e w' => e = .returned (.bool (ltT (x, f, z) (x', f', z'))) ∧ w' = W) := fun W => (HB.out x f x' f' W).mono (fun e w' h => ⟨h.1, h.2.symm⟩)
      have HBX : Hid (∀ m, _) := fun m => Calls.quiet_of_same (HBQ.out (wr.drewN m))
      have hcb : (k + 1 : Nat) ≤ 140737488355328 := by omega
      go_upto_region 4 with fail
      cases hlt2 : ltT (x, f, z) (x', f', z')
      · obtain rfl := HN.out hlt2
        rw [hlt2] at HBX
        clear HN HX hlt2
        go_quiet ((go_at_call 32; exact HBX.out _))
        go_wp2_with fail
        go_ret
        exact ⟨rfl, hch.out.drewN _⟩
      · have HR := Lib.hid (HX.out hlt2)
        rw [hlt2] at HBX
        clear HN HX hlt2
        go_quiet ((go_at_call 32; exact HBX.out _))
        go_wp2_with fail
        go_roundw
        case rel => exact ⟨k + 1, by omega, by go_num, hch.out.drewN _, HR.out⟩
        case measure => simp [intOf]; omega
    · obtain rfl := HYE.out (fun j hj => hI.out j hj (by omega))
      go_wp2_with fail
      go_ret
      exact ⟨rfl, hch.out⟩

set_option maxRecDepth 100000 in
set_option maxHeartbeats 4000000 in
theorem refFresh_any {R : Nat → Prop} {w : World} {A : Option Addr} {l : List Tri} {cap : Nat} (hl : Tris R w A l cap) (hs : Strict l) :
    Calls Try.prog 23 #[.slice A l.length cap] w fun e w' => e = .returned (.int .i64 (freshP l)) ∧ Chg No w w' := by
  have HL := Lib.hid (fun W (h : Chg No w W) => hl.no triE_good h)
  have hb := hl.big
  unfold big at hb
  clear hl
  have HS := Lib.hid hs
  clear hs
  go_enter Try.func23, Try.ntmps23
  go_wp2_with fail
  go_loopw [3, 4] (fun s3 s4 wr => ∃ (k : Nat) (t : Int), k ≤ l.length ∧ s4 = .int .i64 k ∧ s3 = .int .i64 t ∧ Hid (Chg No w wr) ∧ Hid ((k = 0 → t = 0) ∧ ∀ j (h : j < l.length), k = j + 1 → t = l[j].1)) (fun _ s4 _ => l.length - (intOf s4).toNat)
  case atStart => exact ⟨0, 0, Nat.zero_le _, rfl, rfl, Chg.refl _ _, fun _ => rfl, fun j _ h => by omega⟩
  case round =>
    obtain ⟨k, t, hk, rfl, rfl, hch, hI⟩ := hrel
    by_cases hlt : k < l.length
    · obtain ⟨b, off, hA, c0, c1, c2⟩ := (HL.out wr hch.out).tri_at k hlt
      have HNX : Hid ((k + 1 = 0 → l[k].1 = 0) ∧ ∀ j (h : j < l.length), k + 1 = j + 1 → l[k].1 = l[j].1) := ⟨fun h => by omega, fun j _ h => by
        obtain rfl : j = k := by omega
        rfl⟩
      have HGE : Hid (k ≠ 0 → ¬ t < l[k].1 → t = l[k].1) := fun h0 hn => by
        obtain ⟨j, rfl⟩ : ∃ j, k = j + 1 := ⟨k - 1, by omega⟩
        have e := hI.out.2 j (by omega) rfl
        have h1 := adj_of_strict HS.out j hlt
        unfold ltT ltK at h1
        simp only [Bool.or_eq_true, decide_eq_true_eq, Bool.and_eq_true] at h1
        rcases h1 with h1 | ⟨h1, _⟩ <;> omega
      subst hA
      generalize l[k].1 = x at *
      clear c1 c2
      by_cases h0 : k = 0
      · subst h0
        clear HGE
        rw [Nat.zero_mul, Nat.add_zero] at c0
        go_wp2_with fail
        go_roundw
        case rel => exact ⟨0 + 1, x, hlt, by go_num, rfl, hch.out, HNX.out⟩
        case measure => simp [intOf]; omega
      · have hd0 : ((k : Int) == 0) = false := by simpa using h0
        by_cases hgt : t < x
        · have hd1 : decide (t < x) = true := decide_eq_true hgt
          go_wp2_with fail
          go_roundw
          case rel => exact ⟨k + 1, x, hlt, by go_num, rfl, hch.out, HNX.out⟩
          case measure => simp [intOf]; omega
        · have hd1 : decide (t < x) = false := decide_eq_false hgt
          obtain rfl := HGE.out h0 hgt
          go_wp2_with fail
          go_roundw
          case rel => exact ⟨k + 1, t, hlt, by go_num, rfl, hch.out, HNX.out⟩
          case measure => simp [intOf]; omega
    · have HF : Hid (wrap64 (t + 1) = freshP l) := by
        have hk2 : k = l.length := by omega
        unfold Hid freshP
        by_cases h0 : l = []
        · rw [h0] at hk2
          rw [hI.out.1 (by simpa using hk2), h0]
          show wrap64 (0 + 1) = 1
          unfold wrap64
          omega
        · obtain ⟨j, hj⟩ : ∃ j, l.length = j + 1 := ⟨l.length - 1, by have := List.length_pos_iff.2 h0; omega⟩
          have e : l.getLast? = some l[j] := by
            rw [List.getLast?_eq_getElem?, show l.length - 1 = j by omega]
            exact List.getElem?_eq_getElem (by omega)
          rw [e, hI.out.2 j (by omega) (by omega)]
      obtain ⟨z, hz⟩ : ∃ z, wrap64 (t + 1) = z := ⟨_, rfl⟩
      have HZ : Hid (z = freshP l) := by rw [← hz]; exact HF.out
      go_wp2_with fail
      go_ret
      exact ⟨by rw [← HF.out]; rfl, hch.out⟩

theorem heapB_eq (l : List Tri) : heapB l = (standsB l && l.all okT) := by
  rw [Bool.eq_iff_iff, Bool.and_eq_true]
  constructor
  · intro h
    have hf : ∀ i, i < l.length → fineT l i = true := fun i hi => by
      cases hfi : fineT l i
      · rw [heapB_no hi hfi] at h; cases h
      · rfl
    refine ⟨standsB_yes (fun j hj => ?_), ?_⟩
    · have := hf (j + 1) hj
      unfold fineT at this
      rw [getD_at hj, Nat.add_sub_cancel, getD_at (by omega)] at this
      simp only [Bool.and_eq_true, Bool.or_eq_true, decide_eq_true_eq] at this
      rcases this.2 with h0 | h0
      · omega
      · exact h0
    · rw [List.all_eq_true]
      intro x hx
      obtain ⟨i, hi, rfl⟩ := List.getElem_of_mem hx
      have := hf i hi
      unfold fineT at this
      rw [getD_at hi, Bool.and_eq_true] at this
      exact this.1
  · rintro ⟨h1, h2⟩
    have hs : Strict l := of_decide_eq_true h1
    refine heapB_yes (fun i hi => ?_)
    unfold fineT
    rw [getD_at hi, Bool.and_eq_true]
    refine ⟨List.all_eq_true.1 h2 _ (List.getElem_mem hi), ?_⟩
    rw [Bool.or_eq_true, decide_eq_true_eq]
    by_cases h0 : i = 0
    · exact .inl h0
    · right
      obtain ⟨j, rfl⟩ : ∃ j, i = j + 1 := ⟨i - 1, by omega⟩
      rw [Nat.add_sub_cancel, getD_at (by omega)]
      exact adj_of_strict hs j hi

set_option maxRecDepth 100000 in
set_option maxHeartbeats 8000000 in
theorem refCheck_any {R : Nat → Prop} {w : World} {A : Option Addr} {l : List Tri} {cap : Nat} (hl : Tris R w A l cap) :
    Calls Try.prog 13 #[.slice A l.length cap] w fun e w' => e = .returned (.bool (heapB l)) ∧ Chg No w w' := by
  have HST := Lib.hid (refStands_any hl)
  have HL := Lib.hid (fun W (h : Chg No w W) => hl.no triE_good h)
  have hb := hl.big
  unfold big at hb
  clear hl
  rw [heapB_eq]
  cases hst : standsB l
  · rw [hst] at HST
    rw [Bool.false_and]
    clear hst
    go_enter Try.func13, Try.ntmps13
    go_wp2_with (go_at_call 14; refine HST.out.mono ?_; rintro e w1 ⟨rfl, h1⟩; have H1 := Lib.hid h1; clear h1)
    go_ret
    exact ⟨rfl, H1.out⟩
  · rw [hst] at HST
    rw [Bool.true_and]
    clear hst
    have HNO : Hid (∀ j (h : j < l.length), okT l[j] = false → l.all okT = false) := fun j hj h => by
      rw [List.all_eq_false]
      exact ⟨_, List.getElem_mem hj, by rw [h]; simp⟩
    have HYE : Hid ((∀ j (h : j < l.length), okT l[j] = true) → l.all okT = true) := fun h => by
      rw [List.all_eq_true]
      intro x hx
      obtain ⟨i, hi, rfl⟩ := List.getElem_of_mem hx
      exact h i hi
    generalize l.all okT = ans at *
    go_enter Try.func13, Try.ntmps13
    go_wp2_with (go_at_call 14; refine HST.out.mono ?_; rintro e w1 ⟨rfl, h1⟩; have H1 := Lib.hid h1; clear h1)
    go_loopw [4] (fun s4 wr => ∃ k : Nat, k ≤ l.length ∧ s4 = .int .i64 k ∧ Hid (Chg No w wr) ∧ Hid (∀ j (h : j < l.length), j < k → okT l[j] = true)) (fun s4 _ => l.length - (intOf s4).toNat)
    case atStart => exact ⟨0, Nat.zero_le _, rfl, H1.out, fun j _ h => absurd h (Nat.not_lt_zero j)⟩
    case round =>
      clear H1
      obtain ⟨k, hk, rfl, hch, hI⟩ := hrel
      by_cases hlt : k < l.length
      · obtain ⟨b, off, hA, c0, c1, c2⟩ := (HL.out wr hch.out).tri_at k hlt
        have HN := Lib.hid (HNO.out k hlt)
        have HX : Hid (okT l[k] = true → ∀ j (h : j < l.length), j < k + 1 → okT l[j] = true) := fun h j hj hj2 => by
          rcases Nat.lt_or_ge j k with g1 | g1
          · exact hI.out j hj g1
          · obtain rfl : j = k := by omega
            exact h
        subst hA
        generalize l[k] = m at *
        obtain ⟨x, f, z⟩ := m
        dsimp only at c0 c1 c2
        by_cases h1 : x < 1
        · obtain rfl := HN.out (okT_no (.inl h1))
          have e1 : decide (x < 1) = true := decide_eq_true h1
          clear HN HX
          go_wp2_with fail
          go_ret
          exact ⟨rfl, hch.out⟩
        by_cases h2 : (4294967296 : Int) < x
        · obtain rfl := HN.out (okT_no (.inr (.inl h2)))
          have e1 : decide (x < 1) = false := decide_eq_false h1
          have e2 : decide ((4294967296 : Int) < x) = true := decide_eq_true h2
          clear HN HX
          go_wp2_with fail
          go_ret
          exact ⟨rfl, hch.out⟩
        by_cases h3 : z < -4294967296
        · obtain rfl := HN.out (okT_no (.inr (.inr (.inl h3))))
          have e1 : decide (x < 1) = false := decide_eq_false h1
          have e2 : decide ((4294967296 : Int) < x) = false := decide_eq_false h2
          have e3 : decide (z < -4294967296) = true := decide_eq_true h3
          clear HN HX
          go_wp2_with fail
          go_ret
          exact ⟨rfl, hch.out⟩
        by_cases h4 : (4294967296 : Int) < z
        · obtain rfl := HN.out (okT_no (.inr (.inr (.inr h4))))
          have e1 : decide (x < 1) = false := decide_eq_false h1
          have e2 : decide ((4294967296 : Int) < x) = false := decide_eq_false h2
          have e3 : decide (z < -4294967296) = false := decide_eq_false h3
          have e4 : decide ((4294967296 : Int) < z) = true := decide_eq_true h4
          clear HN HX
          go_wp2_with fail
          go_ret
          exact ⟨rfl, hch.out⟩
        have HR := Lib.hid (HX.out (okT_yes h1 h2 h3 h4))
        have e1 : decide (x < 1) = false := decide_eq_false h1
        have e2 : decide ((4294967296 : Int) < x) = false := decide_eq_false h2
        have e3 : decide (z < -4294967296) = false := decide_eq_false h3
        have e4 : decide ((4294967296 : Int) < z) = false := decide_eq_false h4
        clear HN HX
        go_wp2_with fail
        go_roundw
        case rel => exact ⟨k + 1, hlt, by go_num, hch.out, HR.out⟩
        case measure => simp [intOf]; omega
      · obtain rfl := HYE.out (fun j hj => hI.out j hj (by omega))
        go_wp2_with fail
        go_ret
        exact ⟨rfl, hch.out⟩
end Go.Proofs.Ytbcgffnmbmbjdaa
