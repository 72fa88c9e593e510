/-
  scan.run, scan.Key, scan.Name: what is a name. (Keys w: the variable scan.keys reads as its initialiser lays it.)
-/
import Derived.Test.YtpmndblakmobdaaGreatDoorMB
import Derived.Test.YtpmndblakmobdaaGreatDoorMA
import Derived.Lib.OthersKept
import Derived.Lib.Bytealg
import Derived.Deep.LoopGhost
import Derived.Deep.QuietTactic
import Derived.BigQuiet
namespace Go.Proofs.YtpmndblakmobdaaGreatDoor
open Go Go.RowKit

/-- The variable scan.keys holds the words that mean something. -/
def Keys (w : World) : Prop := ∃ A cap, w.cell? ⟨0, 0, none⟩ = some (.slice A 19 cap) ∧ Sl StrE 1 (fun _ => True) w A keyL cap
theorem Keys.no {w w' : World} (h : Keys w) (c : Chg No w w') : Keys w' := by
  obtain ⟨A, cap, h1, h2⟩ := h
  exact ⟨A, cap, c.cell h1 id, h2.no strE_good c⟩

theorem chg_below {w w' : World} (h : Below w.heap.size w w') : Chg No w w' := ⟨h.os, h.tape, h.output, h.size, fun k hk _ => h.block k hk⟩

theorem sIndexByte_any (s : ByteArray) (c : Int) (w : World) : Calls Tryz.prog 109 #[.string s, .int .u8 c] w fun e w' => e = .returned (.int .i64 (Lib.indexByte s.data.toList c.toNat.toUInt8)) ∧ w = w' := by
  have hx : ∀ w, (callFunc 124 #[.string s, .int .u8 c]).run Tryz.prog w = .ok (.value (.int .i64 (Lib.indexByte s.data.toList c.toNat.toUInt8))) w := fun w => by
    rw [run_callFunc_extern Tryz.func124 (by kernel_rfl) (by kernel_rfl) (e := Extern.BytealgIndexByte.indexByte) (by kernel_rfl) (by kernel_rfl), Lib.run_indexByteString]
    simp only [Result.andThen]
  go_enter Tryz.func109, Tryz.ntmps109
  go_wp2
  go_ret
  exact ⟨rfl, rfl⟩

theorem runN_step {p : UInt8 → Bool} {l : List UInt8} {k : Nat} (hk : k < l.length) (h : p l[k] = true) (hall : runN p (l.drop k) + k = runN p l) : runN p (l.drop (k + 1)) + (k + 1) = runN p l := by
  rw [List.drop_eq_getElem_cons hk] at hall
  unfold runN at hall ⊢
  rw [List.takeWhile_cons, if_pos h, List.length_cons] at hall
  omega
theorem runN_stop {p : UInt8 → Bool} {l : List UInt8} {k : Nat} (hk : k < l.length) (h : p l[k] = false) (hall : runN p (l.drop k) + k = runN p l) : runN p l = k := by
  rw [List.drop_eq_getElem_cons hk] at hall
  unfold runN at hall ⊢
  rw [List.takeWhile_cons, if_neg (by simp [h]), List.length_nil] at hall
  omega
theorem runN_end {p : UInt8 → Bool} {l : List UInt8} {k : Nat} (hk : l.length ≤ k) (hall : runN p (l.drop k) + k = runN p l) (hk' : k ≤ l.length) : runN p l = l.length := by
  rw [List.drop_eq_nil_of_le hk] at hall
  unfold runN at hall ⊢
  simp at hall
  omega

set_option maxRecDepth 100000 in
set_option maxHeartbeats 2000000 in
theorem run_any (s some' : ByteArray) (p : UInt8 → Bool) (hs : s.size ≤ maxLen) (hp : ∀ c : UInt8, c.toNat < 128 → decide (Lib.indexByte some'.data.toList c < 0) = !p c) (hq : ∀ c : UInt8, 128 ≤ c.toNat → p c = false) (w : World) :
    Calls Tryz.prog 89 #[.string s, .int .i64 0, .string some'] w fun e w' => e = .returned (.int .i64 (runN p s.data.toList)) ∧ Chg No w w' := by
  have hl : s.data.toList.length = s.size := by rw [← Lib.size_eq]
  have hsm : s.size ≤ 9223372036854775807 := by unfold maxLen at hs; omega
  obtain ⟨ans, hans⟩ : ∃ ans, ans = runN p s.data.toList := ⟨_, rfl⟩
  rw [← hans]
  have HA := Lib.hid hans
  clear hans
  have HP := Lib.hid hp
  have HQ := Lib.hid hq
  clear hp hq
  have HIB := Lib.hid (fun c W => sIndexByte_any some' c W)
  have hlt0 : ∀ (k : Nat) (hk : k < s.size) (hk' : k < s.data.toList.length), s.data.toList[k]'hk' = s[k]'hk := fun k hk hk' => rfl
  have HL := Lib.hid hlt0
  have HLEN := Lib.hid hl
  clear hlt0 hl
  go_enter Tryz.func89, Tryz.ntmps89
  go_wp2_with fail
  go_loopg [] s.size (fun g wx => ∃ pos : Nat, wx.heap[w.heap.size]? = some (.stringIter s pos) ∧ Hid (Below w.heap.size w wx) ∧ Hid (runN p (s.data.toList.drop pos) + pos = ans) ∧ pos ≤ s.size ∧ s.size ≤ pos + g)
  case atStart => exact ⟨0, World.iter_heap w s 0, (Below.refl _ w).alloc (Nat.le_refl _) _, HA.out.symm, Nat.zero_le _, by omega⟩
  case round =>
    obtain ⟨pos, hit, hbw, hrun, hpl, hfu⟩ := hrel
    by_cases hp : pos < s.size
    · obtain ⟨g, rfl⟩ : ∃ g, gk = g + 1 := ⟨gk - 1, by omega⟩
      have hnx : ∀ ty, (Instr.next (.pointer (some ⟨w.heap.size, 0, none⟩)) true ty).run Tryz.prog wr = _ := fun ty => Lib.run_next_any_at wr w.heap.size s pos ty hit hp
      by_cases hc : (s[pos]'hp).toNat < 128
      · rw [decode_ascii s pos hp hc] at hnx
        have hit2 := Lib.iterAt_heap wr w.heap.size s pos (pos + 1) hit
        have hbw2 := Lib.hid (Lib.below_iterAt hbw.out (k := w.heap.size) (Nat.le_refl _) s (pos + 1))
        have HT := Lib.hid (fun (h : p (s[pos]'hp) = true) => (runN_step (p := p) (l := s.data.toList) (k := pos) (by have := HLEN.out; omega) (by rw [HL.out pos hp]; exact h) (hrun.out.trans HA.out)).trans HA.out.symm)
        have HF := Lib.hid (fun (h : p (s[pos]'hp) = false) => HA.out.trans (runN_stop (p := p) (l := s.data.toList) (k := pos) (by have := HLEN.out; omega) (by rw [HL.out pos hp]; exact h) (hrun.out.trans HA.out)))
        have HPC := HP.out (s[pos]'hp) hc
        generalize s[pos]'hp = c at *
        obtain ⟨W, hWd⟩ : ∃ W, wr.iterAt w.heap.size s (pos + 1) = W := ⟨_, rfl⟩
        simp only at hnx
        rw [hWd] at hnx hit2 hbw2
        have hc0 : ¬ (127 : Int) < (c.toNat : Int) := by omega
        have e8 : (((c.toNat : Int)).toNat).toUInt8 = c := by
          rw [Int.toNat_natCast]
          exact UInt8.ofNat_toNat
        have HIC := Lib.hid (fun W => HIB.out (c.toNat : Int) W)
        rw [e8] at HIC
        generalize Lib.indexByte some'.data.toList c = q at *
        clear hWd hit hbw hrun HL HP HQ HIB
        have hwu : IntKind.u8.wrap (c.toNat : Int) = (c.toNat : Int) := by
          simp [IntKind.wrap, IntKind.bits, IntKind.signed]; omega
        cases hpc : p c with
        | true =>
          have HR := Lib.hid (HT.out hpc)
          rw [hpc] at HPC
          clear hpc HT HF
          go_wp2_with (go_at_call 109; refine (HIC.out _).mono ?_; rintro e w1 ⟨rfl, rfl⟩)
          go_roundg g
          case measure => omega
          case rel => exact ⟨pos + 1, hit2, hbw2.out, HR.out, by omega, by omega⟩
        | false =>
          have HR := Lib.hid (HF.out hpc)
          rw [hpc] at HPC
          clear hpc HT HF
          go_wp2_with (go_at_call 109; refine (HIC.out _).mono ?_; rintro e w1 ⟨rfl, rfl⟩)
          go_ret
          exact ⟨by rw [HR.out]; rfl, chg_below hbw2.out⟩
      · have hc' : 128 ≤ (s[pos]'hp).toNat := by omega
        obtain ⟨d1, d2⟩ := decode_high s pos hp hc'
        have d3 := decode_le s pos
        have HR := Lib.hid (HA.out.trans (runN_stop (p := p) (l := s.data.toList) (k := pos) (by have := HLEN.out; omega) (by rw [HL.out pos hp]; exact HQ.out _ hc') (hrun.out.trans HA.out)))
        generalize (Utf8.decode s pos).1 = rn at *
        generalize (Utf8.decode s pos).2 = rw' at *
        have hbw2 := Lib.hid (Lib.below_iterAt hbw.out (k := w.heap.size) (Nat.le_refl _) s (pos + rw'))
        obtain ⟨W, hWd⟩ : ∃ W, wr.iterAt w.heap.size s (pos + rw') = W := ⟨_, rfl⟩
        rw [hWd] at hnx hbw2
        have hc0 : (127 : Int) < (rn : Int) := by omega
        clear hWd hit hbw hrun HL HP HQ HIB hc hc'
        go_wp2_with fail
        go_ret
        exact ⟨by rw [HR.out]; rfl, chg_below hbw2.out⟩
    · have hnx : ∀ ty, (Instr.next (.pointer (some ⟨w.heap.size, 0, none⟩)) true ty).run Tryz.prog wr = _ := fun ty => Lib.run_next_end_at wr w.heap.size s pos ty hit hp
      have HR := Lib.hid (HA.out.trans (runN_end (p := p) (l := s.data.toList) (k := pos) (by have := HLEN.out; omega) (hrun.out.trans HA.out) (by have := HLEN.out; omega)))
      rw [HLEN.out] at HR
      clear HL HP HQ HIB hrun
      go_wp2_with fail
      go_ret
      exact ⟨by rw [HR.out]; rfl, chg_below hbw.out⟩

set_option maxHeartbeats 400000 in
theorem indexStr_any {R : Nat → Prop} {w : World} {A : Option Addr} {l : List ByteArray} {cap : Nat} (hl : Sl StrE 1 R w A l cap) (s : ByteArray) :
    Calls Tryz.prog 120 #[.slice A l.length cap, .string s] w fun e w' => e = .returned (.int .i64 (findI (fun k => s.toList == k.toList) l)) ∧ w = w' := by
  have hb := hl.big
  unfold big at hb
  have HL := Lib.hid hl
  clear hl
  go_enter Tryz.func120, Tryz.ntmps120
  go_wp2
  go_loop [8] (fun i => ∃ k : Nat, k ≤ l.length ∧ i = .int .i64 k ∧ Hid (∀ j (h : j < l.length), j < k → (s.toList == l[j].toList) = false)) (fun i => l.length - (intOf i).toNat)
  case atStart => exact ⟨0, Nat.zero_le _, rfl, fun j h hk => absurd hk (by omega)⟩
  case round =>
    obtain ⟨kk, hkk, rfl, hall⟩ := hrel
    by_cases hlt : kk < l.length
    · obtain ⟨b, o, rfl, _, x0, _⟩ := HL.out.at_ kk hlt
      have e1 : o + kk * 1 = o + kk := by omega
      rw [e1] at x0
      have i0 : (0 : Int) ≤ (kk : Int) := by omega
      have i1 : (kk : Int) < (l.length : Int) := by omega
      have Hhit : Hid ((s.toList == l[kk].toList) = true → findI (fun k => s.toList == k.toList) l = kk) := fun h => findI_hit hlt h hall.out
      have Hmiss : Hid ((s.toList == l[kk].toList) = false → ∀ j (h : j < l.length), j < kk + 1 → (s.toList == l[j].toList) = false) := fun hpk j h hj => by
        rcases Nat.lt_or_ge j kk with g | g
        · exact hall.out j h g
        · obtain rfl : j = kk := by omega
          exact hpk
      generalize l[kk] = kx at *
      cases hpk : (s.toList == kx.toList) with
      | true =>
        have HE := Lib.hid (Hhit.out hpk)
        clear Hmiss Hhit
        go_wp2
        go_ret
        exact ⟨ret_int HE.out.symm, rfl⟩
      | false =>
        have HM := Lib.hid (Hmiss.out hpk)
        clear Hmiss Hhit
        go_wp2
        go_round
        case rel => exact ⟨kk + 1, hlt, by go_num, HM.out⟩
        case measure => simp [intOf]; omega
    · go_wp2
      go_ret
      exact ⟨ret_int (findI_miss (fun j h => hall.out j h (by omega))).symm, rfl⟩

theorem containsStr_any {R : Nat → Prop} {w : World} {A : Option Addr} {l : List ByteArray} {cap : Nat} (hl : Sl StrE 1 R w A l cap) (s : ByteArray) :
    Calls Tryz.prog 110 #[.slice A l.length cap, .string s] w fun e w' => e = .returned (.bool (l.any (fun k => s.toList == k.toList))) ∧ w = w' := by
  have HX := Lib.hid (indexStr_any hl s)
  clear hl
  have HGE : Hid (decide (0 ≤ findI (fun k => s.toList == k.toList) l) = l.any (fun k => s.toList == k.toList)) := findI_ge _ _
  generalize findI (fun k => s.toList == k.toList) l = ix at *
  go_enter Tryz.func110, Tryz.ntmps110
  go_wp2_with (go_at_call 120; refine HX.out.mono ?_; rintro e w1 ⟨rfl, rfl⟩)
  go_ret
  exact ⟨ret_bool HGE.out, rfl⟩

theorem key_any {w : World} (s : ByteArray) (hK : Keys w) : Calls Tryz.prog 90 #[.string s] w fun e w' => e = .returned (.bool (keyB s)) ∧ w = w' := by
  obtain ⟨A, cap, h1, h2⟩ := hK
  have HX := Lib.hid (containsStr_any h2 s)
  rw [show keyL.length = 19 from rfl, show keyL.any (fun k => s.toList == k.toList) = keyB s from rfl] at HX
  generalize keyB s = q at *
  clear h2
  go_enter Tryz.func90, Tryz.ntmps90
  go_wp2_with (go_at_call 110; refine HX.out.mono ?_; rintro e w1 ⟨rfl, rfl⟩)
  go_ret
  exact ⟨rfl, rfl⟩

def lettersA : ByteArray := ⟨#[65, 66, 67, 68, 69, 70, 71, 72, 73, 74, 75, 76, 77, 78, 79, 80, 81, 82, 83, 84, 85, 86, 87, 88, 89, 90, 97, 98, 99, 100, 101, 102, 103, 104, 105, 106, 107, 108, 109, 110, 111, 112, 113, 114, 115, 116, 117, 118, 119, 120, 121, 122, 95]⟩
def wordsA : ByteArray := ⟨#[65, 66, 67, 68, 69, 70, 71, 72, 73, 74, 75, 76, 77, 78, 79, 80, 81, 82, 83, 84, 85, 86, 87, 88, 89, 90, 97, 98, 99, 100, 101, 102, 103, 104, 105, 106, 107, 108, 109, 110, 111, 112, 113, 114, 115, 116, 117, 118, 119, 120, 121, 122, 95, 48, 49, 50, 51, 52, 53, 54, 55, 56, 57]⟩
theorem letters_all : (List.range 256).all (fun n => (decide (128 ≤ n) || (decide (Lib.indexByte lettersA.data.toList (UInt8.ofNat n) < 0) == !letB (UInt8.ofNat n))) && (decide (n < 128) || !letB (UInt8.ofNat n))) = true := by kernel_rfl
theorem words_all : (List.range 256).all (fun n => (decide (128 ≤ n) || (decide (Lib.indexByte wordsA.data.toList (UInt8.ofNat n) < 0) == !wrdB (UInt8.ofNat n))) && (decide (n < 128) || !wrdB (UInt8.ofNat n))) = true := by kernel_rfl
theorem bytes_all {f : UInt8 → Bool} {l : List UInt8} (h : (List.range 256).all (fun n => (decide (128 ≤ n) || (decide (Lib.indexByte l (UInt8.ofNat n) < 0) == !f (UInt8.ofNat n))) && (decide (n < 128) || !f (UInt8.ofNat n))) = true) :
    (∀ c : UInt8, c.toNat < 128 → decide (Lib.indexByte l c < 0) = !f c) ∧ ∀ c : UInt8, 128 ≤ c.toNat → f c = false := by
  have hc : ∀ c : UInt8, ((decide (128 ≤ c.toNat) || (decide (Lib.indexByte l c < 0) == !f c)) && (decide (c.toNat < 128) || !f c)) = true := fun c => by
    have := List.all_eq_true.1 h c.toNat (List.mem_range.2 c.toNat_lt)
    rw [UInt8.ofNat_toNat] at this
    exact this
  refine ⟨fun c h1 => ?_, fun c h1 => ?_⟩
  · have := hc c
    have e : decide (128 ≤ c.toNat) = false := by simp; omega
    rw [e, Bool.false_or, Bool.and_eq_true] at this
    exact eq_of_beq this.1
  · have := hc c
    have e : decide (c.toNat < 128) = false := by simp; omega
    rw [e, Bool.false_or, Bool.and_eq_true] at this
    simpa using this.2

set_option maxRecDepth 100000 in
set_option maxHeartbeats 1000000 in
theorem name_any {w : World} (s : ByteArray) (hs : s.size ≤ maxLen) (hK : Keys w) : Calls Tryz.prog 71 #[.string s] w fun e w' => e = .returned (.bool (nameB s)) ∧ Chg No w w' := by
  have HL := Lib.hid (fun W => run_any s lettersA letB hs (bytes_all letters_all).1 (bytes_all letters_all).2 W)
  have HW := Lib.hid (fun W => run_any s wordsA wrdB hs (bytes_all words_all).1 (bytes_all words_all).2 W)
  have HKE := Lib.hid (fun W (hW : Chg No w W) => key_any s (hK.no hW))
  clear hK
  have hsm : s.size ≤ 9223372036854775807 := by unfold maxLen at hs; omega
  obtain ⟨ans, hans⟩ : ∃ ans, ans = nameB s := ⟨_, rfl⟩
  rw [← hans]
  unfold nameB at hans
  have HA := Lib.hid hans
  clear hans
  unfold lettersA at HL
  unfold wordsA at HW
  generalize runN letB s.data.toList = n1 at *
  generalize runN wrdB s.data.toList = n2 at *
  generalize keyB s = kb at *
  by_cases c1 : s.size ≤ 32
  rotate_left
  · obtain rfl : ans = false := by rw [HA.out]; simp [c1]
    have c1' : ¬ (s.size : Int) ≤ 32 := by omega
    clear HL HW HKE
    go_enter Tryz.func71, Tryz.ntmps71
    go_wp2_with fail
    go_ret
    exact ⟨rfl, Chg.refl _ _⟩
  have c1' : (s.size : Int) ≤ 32 := by omega
  by_cases c2 : 0 < n1
  rotate_left
  · obtain rfl : ans = false := by rw [HA.out]; simp [c2]
    have c2' : ¬ 0 < (n1 : Int) := by omega
    clear HW HKE
    go_enter Tryz.func71, Tryz.ntmps71
    go_wp2_with (go_at_call 89; refine (HL.out _).mono ?_; rintro e w1 ⟨rfl, h1⟩)
    go_ret
    exact ⟨rfl, h1⟩
  have c2' : 0 < (n1 : Int) := by omega
  by_cases c3 : n2 = s.size
  rotate_left
  · obtain rfl : ans = false := by rw [HA.out]; simp [c3]
    have c3' : ((n2 : Int) == (s.size : Int)) = false := by simp; omega
    clear HKE
    go_enter Tryz.func71, Tryz.ntmps71
    go_wp2_with (first | (go_at_call 89; with_reducible refine (HL.out _).mono ?_; rintro e w1 ⟨rfl, h1⟩; have H1 := Lib.hid h1; clear h1 HL) | (go_at_call 89; with_reducible refine (HW.out _).mono ?_; rintro e w2 ⟨rfl, h2⟩))
    go_ret
    exact ⟨rfl, H1.out.thenNo h2⟩
  · obtain rfl : ans = !kb := by rw [HA.out]; simp [c1, c2, c3]
    have c3' : ((n2 : Int) == (s.size : Int)) = true := by simp [c3]
    clear HA
    go_enter Tryz.func71, Tryz.ntmps71
    go_wp2_with (first
      | (go_at_call 89; with_reducible refine (HL.out _).mono ?_; rintro e w1 ⟨rfl, h1⟩; have H1 := Lib.hid h1; clear h1 HL)
      | (go_at_call 89; with_reducible refine (HW.out _).mono ?_; rintro e w2 ⟨rfl, h2⟩; have H2 := Lib.hid (H1.out.thenNo h2); clear h2)
      | (go_at_call 90; refine (HKE.out _ H2.out).mono ?_; rintro e w3 ⟨rfl, rfl⟩))
    go_ret
    exact ⟨rfl, H2.out⟩
end Go.Proofs.YtpmndblakmobdaaGreatDoor
