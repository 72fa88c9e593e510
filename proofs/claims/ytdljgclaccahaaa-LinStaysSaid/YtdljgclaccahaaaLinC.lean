/-
  The reference's Make; the walk over LinMakes.
-/
import Derived.Test.YtdljgclaccahaaaLinB
import Derived.Test.YtdljgclaccahaaaLinUp
namespace Go.Proofs.Ytdljgclaccahaaa
open Go Go.RowKit

theorem makeErr_range (c : Int) (t : List Mono) : 0 ≤ makeErr c t ∧ makeErr c t ≤ 16 := by
  unfold makeErr
  split
  · unfold sumErr
    split
    · split <;> omega
    · omega
  · omega

set_option maxRecDepth 100000 in
set_option maxHeartbeats 2000000 in
theorem ref01Make_any {R : Nat → Prop} {w : World} (c : Int) {A : Option Addr} {t : List Mono} {cap : Nat} (ht : Monos R w A t cap) :
    Calls Try.prog 11 #[.int .i64 c, .slice A t.length cap] w (LinRet w (makeLin c t) (.int .i64 (makeErr c t))) := by
  have HT := Lib.hid (fun W (h : Chg No w W) => ht.no monoE_good h)
  have HCc := Lib.hid (fun k W => refCoef_any k W)
  have HS : makeOk c t = true → Hid (∀ W, Chg No w W → Calls Try.prog 29 #[.int .i64 c, .slice A t.length cap] W (LinRet W (sumLin c t) (.int .i64 (sumErr c t)))) := fun h W hW =>
    ref01Sum_any c (ht.no monoE_good hW) (makeOk_ok h).2.1 (makeOk_ok h).2.2
  have hb := ht.big
  unfold big at hb
  have h4 : Hid ((w.alloc (.cells #[.int .i64 0, .slice none 0 0] 25)).heap[w.heap.size]? = some (.cells #[.int .i64 0, .slice none 0 0] 25 (0, 0))) := heap_alloc_new w _
  have hcw : Hid (Chg No w (w.alloc (.cells #[.int .i64 0, .slice none 0 0] 25))) := (Chg.refl _ _).alloc _
  clear ht
  have hbad : makeOk c t = false → Hid (∀ w', Chg No w w' → LinRet w (makeLin c t) (.int .i64 (makeErr c t)) (.returned (.tuple #[.agg #[.int .i64 0, .slice none 0 0], .int .i64 1])) w') := fun h w' hw' => by
    unfold makeLin makeErr
    rw [h, if_neg (by decide), if_neg (by decide)]
    exact LinRet.none hw'
  obtain ⟨hr0, hr1, hrf0, hrf1⟩ := obj_two h4.out
  cases h1 : coefB c
  · have HP := hbad (by unfold makeOk; rw [h1]; rfl)
    have HC0 := Lib.hid (fun W => HCc.out c W)
    rw [h1] at HC0
    clear hbad h1 HS
    go_enter Try.func11, Try.ntmps11
    go_wp2_with (go_at_call 28; refine (HC0.out _).mono ?_; rintro e w5 ⟨rfl, rfl⟩)
    exact bodyPost_ret (v := .tuple #[.agg #[.int .i64 0, .slice none 0 0], .int .i64 1]) (by simp [results, Try.results11, go_sem]) rfl (HP.out _ hcw.out)
  have HC0 := Lib.hid (fun W => HCc.out c W)
  rw [h1] at HC0
  by_cases h2 : t.length ≤ 4096
  case neg =>
    have HP := hbad (by unfold makeOk; rw [h1, decide_eq_false h2]; rfl)
    have hd : decide ((4096 : Int) < (t.length : Int)) = true := decide_eq_true (by omega)
    clear hbad h1 HS
    go_enter Try.func11, Try.ntmps11
    go_wp2_with (go_at_call 28; refine (HC0.out _).mono ?_; rintro e w5 ⟨rfl, rfl⟩)
    exact bodyPost_ret (v := .tuple #[.agg #[.int .i64 0, .slice none 0 0], .int .i64 1]) (by simp [results, Try.results11, go_sem]) rfl (HP.out _ hcw.out)
  have hd : decide ((4096 : Int) < (t.length : Int)) = false := decide_eq_false (by omega)
  have HB : Hid (∀ i (h : i < t.length), (!coefB t[i].2 || !varB t[i].1) = true → ∀ w', Chg No w w' → LinRet w (makeLin c t) (.int .i64 (makeErr c t)) (.returned (.tuple #[.agg #[.int .i64 0, .slice none 0 0], .int .i64 1])) w') := fun i h hx =>
    (hbad (by
      unfold makeOk
      rw [List.any_eq_true.2 ⟨t[i], List.getElem_mem h, hx⟩, Bool.not_true, Bool.and_false])).out
  have HG : Hid ((∀ i (h : i < t.length), (!coefB t[i].2 || !varB t[i].1) = false) → ∀ W, Chg No w W → Calls Try.prog 29 #[.int .i64 c, .slice A t.length cap] W (LinRet W (makeLin c t) (.int .i64 (makeErr c t)))) := fun h W hW => by
    have hok : makeOk c t = true := by
      unfold makeOk
      rw [h1, decide_eq_true h2, Bool.true_and, Bool.true_and, Bool.not_eq_true', List.any_eq_false]
      intro m hm
      obtain ⟨i, hi, rfl⟩ := List.getElem_of_mem hm
      rw [h i hi]
      decide
    unfold makeLin makeErr
    rw [hok, if_pos rfl, if_pos rfl]
    exact (HS hok).out W hW
  clear hbad h1 HS h2
  generalize Value.int .i64 (makeErr c t) = E at *
  generalize makeLin c t = r at *
  go_enter Try.func11, Try.ntmps11
  go_wp2_with (go_at_call 28; refine (HC0.out _).mono ?_; rintro e w5 ⟨rfl, rfl⟩)
  generalize w.alloc (.cells #[.int .i64 0, .slice none 0 0] 25) = w4 at *
  go_loop [6] (fun s6 => ∃ i : Nat, s6 = .int .i64 i ∧ i ≤ t.length ∧ Hid (∀ j (h : j < t.length), j < i → (!coefB t[j].2 || !varB t[j].1) = false)) (fun s6 => t.length - (intOf s6).toNat)
  case atStart => exact ⟨0, rfl, Nat.zero_le _, fun j _ h => absurd h (Nat.not_lt_zero j)⟩
  case round =>
    obtain ⟨i, rfl, hil, hgd⟩ := hrel
    by_cases hlt : i < t.length
    · obtain ⟨b, off, rfl, hx0, hx1⟩ := (HT.out w4 hcw.out).mono_at i hlt
      have i0 : (0 : Int) ≤ (i : Int) := by omega
      have i1 : (i : Int) < (t.length : Int) := by omega
      have Hb := Lib.hid (HB.out i hlt)
      have Hn : Hid ((!coefB t[i].2 || !varB t[i].1) = false → ∀ j (h : j < t.length), j < i + 1 → (!coefB t[j].2 || !varB t[j].1) = false) := fun e j h hj => by
        rcases Nat.lt_succ_iff_lt_or_eq.1 hj with g | rfl
        · exact hgd.out j h g
        · exact e
      generalize t[i].1 = v at *
      generalize t[i].2 = k at *
      have HC1 := Lib.hid (fun W => HCc.out k W)
      cases hck : coefB k
      · have HP := Lib.hid (Hb.out (by rw [hck]; rfl))
        rw [hck] at HC1
        clear Hb Hn hck
        go_wp2_with (go_at_call 28; refine (HC1.out _).mono ?_; rintro e w5 ⟨rfl, rfl⟩)
        exact bodyPost_ret (v := .tuple #[.agg #[.int .i64 0, .slice none 0 0], .int .i64 1]) (by simp [results, Try.results11, go_sem, hr0, hr1]) rfl (HP.out _ ((hcw.out.setCell _ _ (fun h => absurd h (Nat.lt_irrefl _))).setCell _ _ (fun h => absurd h (Nat.lt_irrefl _))))
      · rw [hck] at HC1 Hb Hn
        by_cases h1 : v < 0
        · have HP := Lib.hid (Hb.out (by unfold varB; rw [decide_eq_false (by omega)]; rfl))
          have d1 : decide (v < 0) = true := decide_eq_true h1
          clear Hb Hn hck
          go_wp2_with (go_at_call 28; refine (HC1.out _).mono ?_; rintro e w5 ⟨rfl, rfl⟩)
          exact bodyPost_ret (v := .tuple #[.agg #[.int .i64 0, .slice none 0 0], .int .i64 1]) (by simp [results, Try.results11, go_sem, hr0, hr1]) rfl (HP.out _ ((hcw.out.setCell _ _ (fun h => absurd h (Nat.lt_irrefl _))).setCell _ _ (fun h => absurd h (Nat.lt_irrefl _))))
        · have d1 : decide (v < 0) = false := decide_eq_false h1
          by_cases h2 : 1048576 ≤ v
          · have HP := Lib.hid (Hb.out (by unfold varB; rw [decide_eq_false (show ¬ v < 1048576 by omega)]; simp))
            have d2 : decide (1048576 ≤ v) = true := decide_eq_true h2
            clear Hb Hn hck
            go_wp2_with (go_at_call 28; refine (HC1.out _).mono ?_; rintro e w5 ⟨rfl, rfl⟩)
            exact bodyPost_ret (v := .tuple #[.agg #[.int .i64 0, .slice none 0 0], .int .i64 1]) (by simp [results, Try.results11, go_sem, hr0, hr1]) rfl (HP.out _ ((hcw.out.setCell _ _ (fun h => absurd h (Nat.lt_irrefl _))).setCell _ _ (fun h => absurd h (Nat.lt_irrefl _))))
          · have d2 : decide (1048576 ≤ v) = false := decide_eq_false h2
            have HN := Lib.hid (Hn.out (by unfold varB; rw [decide_eq_true (by omega), decide_eq_true (by omega)]; rfl))
            clear Hb Hn hck
            go_wp2_with (go_at_call 28; refine (HC1.out _).mono ?_; rintro e w5 ⟨rfl, rfl⟩)
            go_round
            case rel => exact ⟨i + 1, by go_num, hlt, HN⟩
            case measure => simp [intOf]; omega
    · have HS' := Lib.hid (HG.out (fun j h => hgd.out j h (by omega)))
      clear hgd hr0 hr1 hrf0 hrf1
      go_wp2_with (go_at_call 29; refine (HS'.out _ hcw.out).mono ?_; rintro e w6 ⟨A1, cap1, rfl, h6, h7⟩; have H6 := Lib.hid h6; have H7 := Lib.hid h7; obtain ⟨hq0, hq1, hqf0, hqf1⟩ := obj_two (h7.obj h4.out id); clear h6 h7)
      refine bodyPost_ret (v := .tuple #[.agg #[.int .i64 r.1, .slice A1 r.2.length cap1], E]) (by simp [results, Try.results11, go_sem, hq0, hq1]) rfl ⟨A1, cap1, rfl, ?_, ?_⟩
      · have hlt : w.heap.size < w4.heap.size := (Array.getElem?_eq_some_iff.1 h4.out).1
        exact (H6.out.chg monoE_good (S := fun q => q = w.heap.size) (((Chg.refl (fun q => q = w.heap.size) _).setCell _ _ (fun _ => rfl)).setCell _ _ (fun _ => rfl)) (fun q h e => by omega)).mono monoE_good (fun q _ h => by omega)
      · exact (((hcw.out.thenNo H7.out).setCell _ _ (fun h => absurd h (Nat.lt_irrefl _))).setCell _ _ (fun h => absurd h (Nat.lt_irrefl _)))
end Go.Proofs.Ytdljgclaccahaaa
