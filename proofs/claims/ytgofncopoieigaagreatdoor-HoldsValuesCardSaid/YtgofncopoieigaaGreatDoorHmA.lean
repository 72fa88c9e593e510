/-
  The reference's Name.
-/
import Derived.Test.YtgofncopoieigaaGreatDoorShN
namespace Go.Proofs.YtgofncopoieigaaGreatDoor
open Go Go.RowKit

def lttI (z : Int) : Bool := decide (z = 95) || (decide (97 ≤ z) && decide (z ≤ 122)) || (decide (65 ≤ z) && decide (z ≤ 90))
def dgtI (z : Int) : Bool := decide (48 ≤ z) && decide (z ≤ 57)
theorem letB_I (c : UInt8) : letB c = lttI (c.toNat : Int) := by
  unfold letB lttI
  rw [show decide (c = 95) = decide ((c.toNat : Int) = 95) from by rw [decide_eq_decide, ← UInt8.toNat_inj]; exact ⟨fun h => by have h : c.toNat = 95 := h; omega, fun h => show c.toNat = 95 by omega⟩]
  simp only [UInt8.le_iff_toNat_le]
  have e : ∀ (a b : Nat), decide (a ≤ b) = decide ((a : Int) ≤ (b : Int)) := fun a b => by rw [decide_eq_decide]; omega
  simp only [e]
  rfl
theorem digB_I (c : UInt8) : digB c = dgtI (c.toNat : Int) := by
  unfold digB dgtI
  simp only [UInt8.le_iff_toNat_le]
  have e : ∀ (a b : Nat), decide (a ≤ b) = decide ((a : Int) ≤ (b : Int)) := fun a b => by rw [decide_eq_decide]; omega
  simp only [e]
  rfl
theorem letter13_any (z : Int) (w : World) : Calls Tryz.prog 120 #[.int .u8 z] w fun e w' => e = .returned (.bool (lttI z)) ∧ w = w' := by
  obtain ⟨ans, hans⟩ : ∃ ans, ans = lttI z := ⟨_, rfl⟩
  rw [← hans]
  unfold lttI at hans
  have HA := Lib.hid hans
  clear hans
  by_cases h0 : z = 95
  · have f0 : (z == 95) = true := by simpa using h0
    obtain rfl : ans = true := by rw [HA.out]; simp [h0]
    clear HA h0
    go_enter Tryz.func120, Tryz.ntmps120
    go_wp2_with fail
    go_ret
    exact ⟨rfl, rfl⟩
  have f0 : (z == 95) = false := by simpa using h0
  have HB : Hid (ans = ((decide (97 ≤ z) && decide (z ≤ 122)) || (decide (65 ≤ z) && decide (z ≤ 90)))) := by unfold Hid; rw [HA.out]; simp [h0]
  clear HA h0
  cases h1 : decide (97 ≤ z) <;> cases h2 : decide (z ≤ 122) <;> cases h3 : decide (65 ≤ z) <;> cases h4 : decide (z ≤ 90) <;>
    (rw [h1, h2, h3, h4] at HB
     have HB2 := HB.out
     subst HB2
     clear HB
     go_enter Tryz.func120, Tryz.ntmps120
     go_wp2_with fail
     go_ret
     exact ⟨rfl, rfl⟩)
theorem digit13_any (z : Int) (w : World) : Calls Tryz.prog 121 #[.int .u8 z] w fun e w' => e = .returned (.bool (dgtI z)) ∧ w = w' := by
  obtain ⟨ans, hans⟩ : ∃ ans, ans = dgtI z := ⟨_, rfl⟩
  rw [← hans]
  unfold dgtI at hans
  have HB := Lib.hid hans
  clear hans
  cases h1 : decide (48 ≤ z) <;> cases h2 : decide (z ≤ 57) <;>
    (rw [h1, h2] at HB
     have HB2 := HB.out
     subst HB2
     clear HB
     go_enter Tryz.func121, Tryz.ntmps121
     go_wp2_with fail
     go_ret
     exact ⟨rfl, rfl⟩)
/-- How many bytes of a name stand at the head. -/
def wordN (l : List UInt8) : Nat := match l with
  | [] => 0
  | c :: t => if letB c then runN wrdB (c :: t) else 0
theorem wordN_0 {l : List UInt8} (h : 0 < l.length) (hb : letB l[0] = false) : wordN l = 0 := by
  match l, h with
  | c :: t, _ =>
    show (if letB c then _ else 0) = 0
    rw [if_neg (by rw [show letB c = false from hb]; decide)]
theorem wordN_1 {l : List UInt8} (h : 0 < l.length) (hb : letB l[0] = true) : wordN l = runN wrdB l := by
  match l, h with
  | c :: t, _ =>
    show (if letB c then _ else 0) = _
    rw [if_pos (show letB c = true from hb)]

set_option maxRecDepth 100000 in
set_option maxHeartbeats 2000000 in
theorem word13_any (s : ByteArray) (hs : s.size ≤ maxLen) (w : World) : Calls Tryz.prog 99 #[.string s, .int .i64 0] w fun e w' => e = .returned (.int .i64 (wordN s.data.toList)) ∧ w = w' := by
  obtain ⟨ans, hans⟩ : ∃ ans, ans = wordN s.data.toList := ⟨_, rfl⟩
  rw [← hans]
  have HA := Lib.hid hans
  clear hans
  unfold maxLen at hs
  have hlen : s.data.toList.length = s.size := Array.length_toList
  have HLEN := Lib.hid hlen
  have HX : Hid (∀ k (h : k < s.size), (k = 0 → letB s[k] = false → ans = 0) ∧ (k = 0 → letB s[k] = true → ans = runN wrdB s.data.toList) ∧ (ans = runN wrdB s.data.toList → runN wrdB (s.data.toList.drop k) + k = runN wrdB s.data.toList → (wrdB s[k] = true → runN wrdB (s.data.toList.drop (k + 1)) + (k + 1) = runN wrdB s.data.toList) ∧ (wrdB s[k] = false → ans = k))) := fun k h => by
    have h' : k < s.data.toList.length := by omega
    refine ⟨fun e hb => ?_, fun e hb => ?_, fun h1 h2 => ⟨fun hb => ?_, fun hb => ?_⟩⟩
    · subst e; rw [HA.out]; exact wordN_0 h' hb
    · subst e; rw [HA.out]; exact wordN_1 h' hb
    · exact runN_step h' hb h2
    · rw [h1]; exact runN_stop h' hb h2
  have HEND : Hid (s.size = 0 → ans = 0) := fun h => by
    rw [HA.out]
    have : s.data.toList = [] := List.eq_nil_of_length_eq_zero (by omega)
    rw [this]; rfl
  have HEN2 : Hid (ans = runN wrdB s.data.toList → runN wrdB (s.data.toList.drop s.size) + s.size = runN wrdB s.data.toList → ans = s.size) := fun h1 h2 => by
    rw [h1, runN_end (by omega) h2 (by omega), hlen]
  clear hlen HA
  go_enter Tryz.func99, Tryz.ntmps99
  go_wp2_with fail
  go_loopw [5] (fun s5 wr => ∃ k : Nat, s5 = .int .i64 k ∧ k ≤ s.size ∧ wr = w ∧ Hid (0 < k → ans = runN wrdB s.data.toList ∧ runN wrdB (s.data.toList.drop k) + k = runN wrdB s.data.toList)) (fun s5 _ => s.size - (intOf s5).toNat)
  case atStart => exact ⟨0, rfl, Nat.zero_le _, rfl, fun h => absurd h (by decide)⟩
  case round =>
    obtain ⟨k, rfl, gk, rfl, hk⟩ := hrel
    by_cases hlt : k < s.size
    · have i0 : (0 : Int) ≤ (k : Int) := by omega
      have i1 : (k : Int) < (s.size : Int) := by omega
      obtain ⟨hx1, hx2, hx3⟩ := HX.out k hlt
      have HX1 := Lib.hid hx1
      have HX2 := Lib.hid hx2
      have HX3 := Lib.hid hx3
      have HLT := Lib.hid (fun W => letter13_any ((s[k]'hlt).toNat : Int) W)
      have HDG := Lib.hid (fun W => digit13_any ((s[k]'hlt).toNat : Int) W)
      rw [← letB_I] at HLT
      rw [← digB_I] at HDG
      clear hx1 hx2 hx3
      have HWD : Hid (wrdB (s[k]'hlt) = (letB (s[k]'hlt) || digB (s[k]'hlt))) := rfl
      by_cases hb1 : letB (s[k]'hlt) = true
      · rw [hb1] at HLT
        have HR : Hid (ans = runN wrdB s.data.toList ∧ runN wrdB (s.data.toList.drop (k + 1)) + (k + 1) = runN wrdB s.data.toList) := by
          have hwb : wrdB (s[k]'hlt) = true := by rw [HWD.out, hb1]; rfl
          by_cases h0 : k = 0
          · have h1 := HX2.out h0 hb1
            refine ⟨h1, (HX3.out h1 ?_).1 hwb⟩
            rw [h0]; simp
          · obtain ⟨h1, h2⟩ := hk.out (by omega)
            exact ⟨h1, (HX3.out h1 h2).1 hwb⟩
        clear hk HX1 HX2 HX3 HWD HDG hb1
        go_wp2_with (go_at_call 120; refine (HLT.out _).mono ?_; rintro e w1 ⟨rfl, rfl⟩)
        go_roundw
        case rel => exact ⟨k + 1, by go_num, hlt, by trivial, fun _ => HR.out⟩
        case measure => simp [intOf]; omega
      · have hb1' : letB (s[k]'hlt) = false := by simpa using hb1
        rw [hb1'] at HLT
        by_cases h0 : k = 0
        · subst h0
          obtain rfl : ans = 0 := HX1.out rfl hb1'
          clear hk HX1 HX2 HX3 HWD HDG hb1 hb1'
          go_wp2_with (go_at_call 120; refine (HLT.out _).mono ?_; rintro e w1 ⟨rfl, rfl⟩)
          go_ret
          exact ⟨rfl, rfl⟩
        · obtain ⟨h1, h2⟩ := hk.out (by omega)
          have k0 : (0 : Int) < (k : Int) := by omega
          by_cases hb2 : digB (s[k]'hlt) = true
          · rw [hb2] at HDG
            have HR : Hid (ans = runN wrdB s.data.toList ∧ runN wrdB (s.data.toList.drop (k + 1)) + (k + 1) = runN wrdB s.data.toList) :=
              ⟨h1, (HX3.out h1 h2).1 (by rw [HWD.out, hb2]; simp)⟩
            clear hk HX1 HX2 HX3 HWD hb1 hb1' hb2 h1 h2
            go_wp2_with (first
              | (go_at_call 120; refine (HLT.out _).mono ?_; rintro e w1 ⟨rfl, rfl⟩)
              | (go_at_call 121; refine (HDG.out _).mono ?_; rintro e w2 ⟨rfl, rfl⟩))
            go_roundw
            case rel => exact ⟨k + 1, by go_num, hlt, by trivial, fun _ => HR.out⟩
            case measure => simp [intOf]; omega
          · have hb2' : digB (s[k]'hlt) = false := by simpa using hb2
            rw [hb2'] at HDG
            obtain rfl : ans = k := (HX3.out h1 h2).2 (by rw [HWD.out, hb1', hb2']; rfl)
            clear hk HX1 HX2 HX3 HWD hb1 hb1' hb2 hb2' h1 h2
            go_wp2_with (first
              | (go_at_call 120; refine (HLT.out _).mono ?_; rintro e w1 ⟨rfl, rfl⟩)
              | (go_at_call 121; refine (HDG.out _).mono ?_; rintro e w2 ⟨rfl, rfl⟩))
            go_ret
            exact ⟨rfl, rfl⟩
    · obtain rfl : k = s.size := by omega
      have HR : Hid (ans = s.size) := by
        by_cases h0 : s.size = 0
        · unfold Hid; rw [HEND.out h0, h0]
        · obtain ⟨h1, h2⟩ := hk.out (by omega)
          exact HEN2.out h1 h2
      clear hk
      go_wp2_with fail
      go_ret
      exact ⟨by rw [HR.out]; rfl, rfl⟩

set_option maxRecDepth 100000 in
set_option maxHeartbeats 2000000 in
theorem key13_any (s : ByteArray) (w : World) : Calls Tryz.prog 98 #[.string s] w fun e w' => e = .returned (.bool (keyB s)) ∧ Chg No w w' := by
  obtain ⟨ans, hans⟩ : ∃ ans, ans = keyB s := ⟨_, rfl⟩
  rw [← hans]
  obtain ⟨L, hL⟩ : ∃ L, L = keyL := ⟨_, rfl⟩
  have hlen : L.length = 19 := by rw [hL]; rfl
  have HA : Hid (ans = L.any fun k => s.toList == k.toList) := by rw [hL]; exact hans
  clear hans
  obtain ⟨w3, hw3⟩ : ∃ w3, w3 = w.alloc (.cells (keyL.map Value.string).toArray 9) := ⟨_, rfl⟩
  have h3 : Hid (Chg No w w3 ∧ ∀ k (h : k < L.length), w3.cell? ⟨w.heap.size, k, none⟩ = some (.string L[k])) := by
    subst hL
    rw [hw3]
    refine ⟨(Chg.refl _ _).alloc _, fun k h => ?_⟩
    have := heap_alloc_new w (.cells (keyL.map Value.string).toArray 9)
    simp only [World.cell?, this]
    rw [List.getElem?_toArray, List.getElem?_map, List.getElem?_eq_getElem h]
    rfl
  clear hL
  go_enter Tryz.func98, Tryz.ntmps98
  go_upto_region 2 with fail
  change Code.wp _ _ _ _ (w.alloc (.cells (keyL.map Value.string).toArray 9))
  rw [← hw3]
  clear hw3
  go_wp2_with fail
  go_loopw [4] (fun s4 wr => ∃ k : Nat, s4 = .int .i64 k ∧ k ≤ 19 ∧ wr = w3 ∧ Hid (∀ j (h : j < L.length), j < k → (s.toList == L[j].toList) = false)) (fun s4 _ => 19 - (intOf s4).toNat)
  case atStart => exact ⟨0, rfl, by decide, rfl, fun j _ h => absurd h (by omega)⟩
  case round =>
    obtain ⟨k, rfl, gk, rfl, hall⟩ := hrel
    by_cases hlt : k < 19
    · have hk : k < L.length := by omega
      have x0 := h3.out.2 k hk
      have i0 : (0 : Int) ≤ (k : Int) := by omega
      have i1 : (k : Int) < 19 := by omega
      have HT : Hid ((s.toList == L[k].toList) = true → ans = true) := fun h => by rw [HA.out, List.any_eq_true]; exact ⟨_, List.getElem_mem hk, h⟩
      have HF : Hid ((s.toList == L[k].toList) = false → ∀ j (h : j < L.length), j < k + 1 → (s.toList == L[j].toList) = false) := fun h j hj hjk => by
        rcases Nat.lt_or_ge j k with g | g
        · exact hall.out j hj g
        · obtain rfl : j = k := by omega
          exact h
      clear hall
      generalize L[k] = key at *
      by_cases hb : (s.toList == key.toList) = true
      · have hb' : (key.toList == s.toList) = true := by simpa using (by simpa using hb : s.toList = key.toList).symm
        obtain rfl : ans = true := HT.out hb
        clear HT HF hb
        go_wp2_with fail
        go_ret
        exact ⟨rfl, h3.out.1⟩
      · have hb2 : (s.toList == key.toList) = false := by simpa using hb
        have hb' : (key.toList == s.toList) = false := by
          have h : s.toList ≠ key.toList := by simpa using hb
          simpa using Ne.symm h
        have HR := Lib.hid (HF.out hb2)
        clear HT HF hb hb2
        go_wp2_with fail
        go_roundw
        case rel => exact ⟨k + 1, by go_num, hlt, by trivial, HR.out⟩
        case measure => simp [intOf]; omega
    · obtain rfl : ans = false := by
        rw [HA.out, List.any_eq_false]
        intro x hx
        obtain ⟨j, hj, rfl⟩ := List.getElem_of_mem hx
        rw [hall.out j hj (by omega)]
        decide
      clear hall
      go_wp2_with fail
      go_ret
      exact ⟨rfl, h3.out.1⟩
theorem name_word (s : ByteArray) : nameB s = (decide (0 < s.size) && decide (s.size ≤ 32) && decide (wordN s.data.toList = s.size) && !keyB s) := by
  have hlen : s.data.toList.length = s.size := Array.length_toList
  unfold nameB
  rw [← hlen]
  generalize keyB s = kb
  generalize s.data.toList = l
  match l with
  | [] => simp [runN, wordN]
  | c :: t =>
    cases hc : letB c with
    | true =>
      have h1 : wordN (c :: t) = runN wrdB (c :: t) := wordN_1 (l := c :: t) (by simp) hc
      have h2 : 0 < runN letB (c :: t) := by unfold runN; rw [List.takeWhile_cons, if_pos hc]; simp
      rw [h1]; simp [h2]
    | false =>
      have h1 : wordN (c :: t) = 0 := wordN_0 (l := c :: t) (by simp) hc
      have h2 : runN letB (c :: t) = 0 := by unfold runN; rw [List.takeWhile_cons, if_neg (by rw [hc]; decide)]; rfl
      rw [h1, h2]; simp
set_option maxHeartbeats 1000000 in
theorem name13_any {w : World} (s : ByteArray) (hs : s.size ≤ maxLen) : Calls Tryz.prog 64 #[.string s] w fun e w' => e = .returned (.bool (nameB s)) ∧ Chg No w w' := by
  have HK := Lib.hid (key13_any s w)
  have HW := Lib.hid (fun W => word13_any s hs W)
  have hsm : s.size ≤ 9223372036854775807 := by unfold maxLen at hs; omega
  have HN := Lib.hid (name_word s)
  generalize nameB s = ans at *
  generalize keyB s = kb at *
  generalize wordN s.data.toList = n at *
  by_cases c1 : 0 < s.size
  rotate_left
  · obtain rfl : ans = false := by rw [HN.out]; simp; omega
    have c1' : decide (0 < (s.size : Int)) = false := decide_eq_false (by omega)
    clear HN HW
    go_enter Tryz.func64, Tryz.ntmps64
    go_wp2_with (go_at_call 98; refine HK.out.mono ?_; rintro e w1 ⟨rfl, h1⟩)
    go_ret
    exact ⟨rfl, h1⟩
  have c1' : decide (0 < (s.size : Int)) = true := decide_eq_true (by omega)
  by_cases c2 : s.size ≤ 32
  rotate_left
  · obtain rfl : ans = false := by rw [HN.out]; simp [c2]
    have c2' : decide ((s.size : Int) ≤ 32) = false := decide_eq_false (by omega)
    clear HN HW
    go_enter Tryz.func64, Tryz.ntmps64
    go_wp2_with (go_at_call 98; refine HK.out.mono ?_; rintro e w1 ⟨rfl, h1⟩)
    go_ret
    exact ⟨rfl, h1⟩
  have c2' : decide ((s.size : Int) ≤ 32) = true := decide_eq_true (by omega)
  by_cases c3 : n = s.size
  rotate_left
  · obtain rfl : ans = false := by rw [HN.out]; simp [c3]
    have c3' : ((n : Int) == (s.size : Int)) = false := by simp; omega
    clear HN
    go_enter Tryz.func64, Tryz.ntmps64
    go_wp2_with (first
      | (go_at_call 98; refine HK.out.mono ?_; rintro e w1 ⟨rfl, h1⟩)
      | (go_at_call 99; refine (HW.out _).mono ?_; rintro e w2 ⟨rfl, rfl⟩))
    go_ret
    exact ⟨rfl, h1⟩
  · obtain rfl : ans = !kb := by rw [HN.out]; simp [c1, c2, c3]
    have c3' : ((n : Int) == (s.size : Int)) = true := by simp; omega
    clear HN c3
    go_enter Tryz.func64, Tryz.ntmps64
    go_wp2_with (first
      | (go_at_call 98; refine HK.out.mono ?_; rintro e w1 ⟨rfl, h1⟩)
      | (go_at_call 99; refine (HW.out _).mono ?_; rintro e w2 ⟨rfl, rfl⟩))
    go_ret
    exact ⟨rfl, h1⟩
end Go.Proofs.YtgofncopoieigaaGreatDoor
