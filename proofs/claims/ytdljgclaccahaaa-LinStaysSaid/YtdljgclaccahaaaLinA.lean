/-
  lin.Make.
-/
import Derived.Test.YtdljgclaccahaaaLin9
import Derived.Test.YtdljgclaccahaaaLin6
namespace Go.Proofs.Ytdljgclaccahaaa
open Go Go.RowKit

/-- May a constant and terms be taken? -/
def makeOk (c : Int) (t : List Mono) : Bool := coefB c && decide (t.length ≤ 4096) && !(t.any fun m => !coefB m.2 || !varB m.1)
noncomputable def makeErr (c : Int) (t : List Mono) : Int := if makeOk c t = true then sumErr c t else 1
noncomputable def makeLin (c : Int) (t : List Mono) : Lin := if makeOk c t = true then sumLin c t else (0, [])

theorem makeOk_ok {c : Int} {t : List Mono} (h : makeOk c t = true) : t.length ≤ 4096 ∧ (∀ m ∈ t, 0 ≤ m.1 ∧ m.1 < 1048576) ∧ ∀ v, absAt t v ≤ 4611686018427387904 := by
  unfold makeOk at h
  rw [Bool.and_eq_true, Bool.and_eq_true, decide_eq_true_iff, Bool.not_eq_true', List.any_eq_false] at h
  obtain ⟨⟨_, h1⟩, h2⟩ := h
  have h3 : ∀ m ∈ t, coefB m.2 = true ∧ varB m.1 = true := fun m hm => by
    have := h2 m hm
    simp only [Bool.or_eq_true, Bool.not_eq_true', not_or, Bool.not_eq_false] at this
    exact this
  refine ⟨h1, fun m hm => varB_le (h3 m hm).2, fun v => ?_⟩
  have := absAt_le (t := t) (K := 1073741824) (fun m hm => by have := coefB_le (h3 m hm).1; omega) (by decide) v
  omega

set_option maxRecDepth 100000 in
set_option maxHeartbeats 2000000 in
theorem linMake_any {R : Nat → Prop} {w : World} (c : Int) {A : Option Addr} {t : List Mono} {cap : Nat} (ht : Monos R w A t cap) :
    Calls Try.prog 10 #[.int .i64 c, .slice A t.length cap] w (LinRet w (makeLin c t) (errV 43 (makeErr c t))) := by
  have HCc := Lib.hid (fun W => coef_any c W)
  have HCf : Hid (∀ W, Chg No w W → Calls Try.prog 24 #[.slice A t.length cap, .func (.func 25) #[] #[]] W fun e w' => e = .returned (.bool (t.any fun m => !coefB m.2 || !varB m.1)) ∧ Chg No W w') := fun W h =>
    containsFunc_monos (ht.no monoE_good h) _ entered_make1 (fun m => !coefB m.2 || !varB m.1) (fun w' _ i h => make1_any _ _ _)
  have HS : makeOk c t = true → Hid (∀ W, Chg No w W → Calls Try.prog 27 #[.int .i64 c, .slice A t.length cap] W (LinRet W (sumLin c t) (errV 43 (sumErr c t)))) := fun h W hW =>
    linSum_any c (ht.no monoE_good hW) (by have := (makeOk_ok h).1; omega) (makeOk_ok h).2.1 (makeOk_ok h).2.2
  have hb := ht.big
  unfold big at hb
  have h4 : Hid ((w.alloc (.cells #[.int .i64 0, .slice none 0 0] 25)).heap[w.heap.size]? = some (.cells #[.int .i64 0, .slice none 0 0] 25 (0, 0))) := heap_alloc_new w _
  have hcw : Hid (Chg No w (w.alloc (.cells #[.int .i64 0, .slice none 0 0] 25))) := (Chg.refl _ _).alloc _
  clear ht
  have hbad : makeOk c t = false → Hid (∀ w', Chg No w w' → LinRet w (makeLin c t) (errV 43 (makeErr c t)) (.returned (.tuple #[.agg #[.int .i64 0, .slice none 0 0], .iface 43 (.int .i64 1)])) w') := fun h w' hw' => by
    unfold makeLin makeErr
    rw [h, if_neg (by decide), if_neg (by decide), errV_of _ (by decide)]
    exact LinRet.none hw'
  by_cases hok : makeOk c t = true
  · have HS' := HS hok
    have e1 : makeLin c t = sumLin c t := by unfold makeLin; rw [if_pos hok]
    have e2 : makeErr c t = sumErr c t := by unfold makeErr; rw [if_pos hok]
    rw [e1, e2]
    generalize errV 43 (sumErr c t) = E at *
    generalize sumLin c t = r at *
    unfold makeOk at hok
    rw [Bool.and_eq_true, Bool.and_eq_true, decide_eq_true_iff, Bool.not_eq_true'] at hok
    obtain ⟨⟨h1, h2⟩, h3⟩ := hok
    rw [h1] at HCc
    rw [h3] at HCf
    have hd : decide ((4096 : Int) < (t.length : Int)) = false := decide_eq_false (by omega)
    clear e1 e2 HS hbad h1 h3
    go_enter Try.func10, Try.ntmps10
    go_wp2_with (first
      | (go_at_call 23; refine (HCc.out _).mono ?_; rintro e w5 ⟨rfl, rfl⟩)
      | (go_at_call 24; refine (HCf.out _ hcw.out).mono ?_; rintro e w5 ⟨rfl, h5⟩; have H5 := Lib.hid (hcw.out.thenNo h5); have H4 := Lib.hid (h5.obj h4.out id); clear h5)
      | (go_at_call 27; refine (HS'.out _ H5.out).mono ?_; rintro e w6 ⟨A1, cap1, rfl, h6, h7⟩; have H6 := Lib.hid h6; have H7 := Lib.hid h7; obtain ⟨hr0, hr1, hrf0, hrf1⟩ := obj_two (h7.obj H4.out id); clear h6 h7))
    refine bodyPost_ret (v := .tuple #[.agg #[.int .i64 r.1, .slice A1 r.2.length cap1], E]) (by simp [results, Try.results10, go_sem, hr0, hr1]) rfl ⟨A1, cap1, rfl, ?_, ?_⟩
    · have hs5 := H5.out.size
      have hlt : w.heap.size < w5.heap.size := (Array.getElem?_eq_some_iff.1 H4.out).1
      exact (H6.out.chg monoE_good (S := fun q => q = w.heap.size) (((Chg.refl (fun q => q = w.heap.size) _).setCell _ _ (fun _ => rfl)).setCell _ _ (fun _ => rfl)) (fun q h e => by omega)).mono monoE_good (fun q _ h => by omega)
    · exact (((H5.out.thenNo H7.out).setCell _ _ (fun h => absurd h (Nat.lt_irrefl _))).setCell _ _ (fun h => absurd h (Nat.lt_irrefl _)))
  · have hok' : makeOk c t = false := by simpa using hok
    have HP := hbad hok'
    clear HS hbad hok
    obtain ⟨hr0, hr1, hrf0, hrf1⟩ := obj_two h4.out
    unfold makeOk at hok'
    cases h1 : coefB c
    · rw [h1] at HCc
      clear hok' HCf h1
      go_enter Try.func10, Try.ntmps10
      go_wp2_with (go_at_call 23; refine (HCc.out _).mono ?_; rintro e w5 ⟨rfl, rfl⟩)
      exact bodyPost_ret (v := .tuple #[.agg #[.int .i64 0, .slice none 0 0], .iface 43 (.int .i64 1)]) (by simp [results, Try.results10, go_sem]) rfl (HP.out _ hcw.out)
    · rw [h1] at HCc hok'
      by_cases h2 : t.length ≤ 4096
      · rw [decide_eq_true h2, Bool.true_and, Bool.true_and, Bool.not_eq_false'] at hok'
        rw [hok'] at HCf
        have hd : decide ((4096 : Int) < (t.length : Int)) = false := decide_eq_false (by omega)
        clear hok' h1
        go_enter Try.func10, Try.ntmps10
        go_wp2_with (first
          | (go_at_call 23; refine (HCc.out _).mono ?_; rintro e w5 ⟨rfl, rfl⟩)
          | (go_at_call 24; refine (HCf.out _ hcw.out).mono ?_; rintro e w5 ⟨rfl, h5⟩; have H5 := Lib.hid (hcw.out.thenNo h5); obtain ⟨hq0, hq1, hqf0, hqf1⟩ := obj_two (h5.obj h4.out id); clear h5))
        exact bodyPost_ret (v := .tuple #[.agg #[.int .i64 0, .slice none 0 0], .iface 43 (.int .i64 1)]) (by simp [results, Try.results10, go_sem, hq0, hq1]) rfl (HP.out _ (H5.out.setCell _ _ (fun h => absurd h (Nat.lt_irrefl _)) |>.setCell _ _ (fun h => absurd h (Nat.lt_irrefl _))))
      · have hd : decide ((4096 : Int) < (t.length : Int)) = true := decide_eq_true (by omega)
        clear hok' h1 HCf
        go_enter Try.func10, Try.ntmps10
        go_wp2_with (go_at_call 23; refine (HCc.out _).mono ?_; rintro e w5 ⟨rfl, rfl⟩)
        exact bodyPost_ret (v := .tuple #[.agg #[.int .i64 0, .slice none 0 0], .iface 43 (.int .i64 1)]) (by simp [results, Try.results10, go_sem]) rfl (HP.out _ hcw.out)
end Go.Proofs.Ytdljgclaccahaaa
