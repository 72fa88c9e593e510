/-
  norm.Literal of any form; the walk over NormLiterals.
-/
import Derived.Test.YtlejcnbpodmleaaNrmF
import Derived.Test.YtlejcnbpodmleaaFrmB
import Derived.Test.YtlejcnbpodmleaaCode
namespace Go.Proofs.Ytlejcnbpodmleaa
open Go Go.RowKit

set_option maxRecDepth 100000 in
set_option maxHeartbeats 2000000 in
theorem normLiteral_any {R : Nat → Prop} {w : World} (c : Int) {A : Option Addr} {t : List Mono} {cap : Nat} (ht : Monos R w A t cap) :
    Calls Try.prog 70 #[.agg #[.int .i64 c, .slice A t.length cap]] w (LitRet w (litForm c t) (errV 43 (litErr c t))) := by
  have HC := Lib.hid (fun W (h : Chg No w W) => linCheck_any c (ht.no monoE_good h))
  obtain ⟨w3, hw3⟩ : ∃ w3, w3 = (w.alloc (.cells #[.int .i64 c, .slice A t.length cap] 24)).alloc (.cells #[.int .i64 0, .int .i64 0, .slice none 0 0, .slice none 0 0] 27) := ⟨_, rfl⟩
  have h3 : Hid (Chg No w w3 ∧ w3.heap[w.heap.size]? = some (.cells #[.int .i64 c, .slice A t.length cap] 24 (0, 0)) ∧ w3.heap[w.heap.size + 1]? = some (.cells #[.int .i64 0, .int .i64 0, .slice none 0 0, .slice none 0 0] 27 (0, 0)) ∧ w3.heap.size = w.heap.size + 2) := by
    rw [hw3]; exact ⟨((Chg.refl _ _).alloc _).alloc _, at_old (heap_alloc_new _ _), at_new (by simp), by simp⟩
  have HSET : Hid (∀ W u0 u1 u2 u3, Chg No w3 W → Chg No w ((((W.setCell ⟨w.heap.size + 1, 0, none⟩ u0).setCell ⟨w.heap.size + 1, 1, none⟩ u1).setCell ⟨w.heap.size + 1, 2, none⟩ u2).setCell ⟨w.heap.size + 1, 3, none⟩ u3)) := fun W u0 u1 u2 u3 hW =>
    chgpast (h3.out.1.thenNo hW) (set4_chg _ W u0 u1 u2 u3) (fun k hk => by omega)
  cases hB : linB c t
  · rw [hB] at HC
    rw [show (if false = true then (0 : Int) else 5) = 5 from rfl, errV_of _ (by decide)] at HC
    have e1 : litErr c t = 5 := by unfold litErr; rw [hB]; rfl
    have e2 : litForm c t = leaf2 0 := by unfold litForm; rw [hB]; rfl
    rw [e1, e2, errV_of _ (by decide)]
    clear e1 e2 ht hB
    go_enter Try.func70, Try.ntmps70
    go_upto_region 1 with fail
    rw [← hw3]
    clear hw3
    obtain ⟨p0, p1⟩ := objtwo h3.out.2.1
    go_wp2_with (go_at_call 68; refine (HC.out _ h3.out.1).mono ?_; rintro e w4 ⟨rfl, h4⟩; have H4 := Lib.hid h4; obtain ⟨⟨r0, r1, r2, r3⟩, f0, f1, f2, f3⟩ := obj_frm (h4.obj h3.out.2.2.1 id); clear h4)
    refine bodyPost_ret (v := .tuple #[.agg #[.int .i64 0, .int .i64 0, .slice none 0 0, .slice none 0 0], .iface 43 (.int .i64 5)]) (by simp [results, Try.results70, go_sem, r0, r1, r2, r3]) rfl (leaf2_ret 0 _ (by unfold I64; decide) (HSET.out _ _ _ _ _ H4.out))
  rw [hB] at HC
  rw [show (if true = true then (0 : Int) else 5) = 0 from rfl, errV_zero] at HC
  by_cases hl : t.length = 0
  · have h0 : t = [] := List.eq_nil_of_length_eq_zero hl
    have e1 : litErr c t = 0 := by unfold litErr; rw [hB, if_pos rfl, if_pos hl]
    have e2 : litForm c t = if c ≤ 0 then leaf2 0 else leaf2 1 := by unfold litForm; rw [hB, if_pos rfl, if_pos hl]
    rw [e1, e2, errV_zero]
    subst h0
    clear e1 e2 ht hB hl
    simp only [List.length_nil] at hw3 h3
    by_cases hc : c ≤ 0
    · rw [if_pos hc]
      have hd : decide (c ≤ 0) = true := by simpa using hc
      clear hc
      go_enter Try.func70, Try.ntmps70
      go_upto_region 1 with fail
      rw [← hw3]
      clear hw3
      obtain ⟨p0, p1⟩ := objtwo h3.out.2.1
      go_wp2_with (go_at_call 68; refine (HC.out _ h3.out.1).mono ?_; rintro e w4 ⟨rfl, h4⟩; have H4 := Lib.hid h4; clear p0 p1; obtain ⟨p0, p1⟩ := objtwo (h4.obj h3.out.2.1 id); obtain ⟨⟨r0, r1, r2, r3⟩, f0, f1, f2, f3⟩ := obj_frm (h4.obj h3.out.2.2.1 id); clear h4)
      refine bodyPost_ret (v := .tuple #[.agg #[.int .i64 0, .int .i64 0, .slice none 0 0, .slice none 0 0], .nilIface]) (by simp [results, Try.results70, go_sem, r0, r1, r2, r3]) rfl (leaf2_ret 0 _ (by unfold I64; decide) (HSET.out _ _ _ _ _ H4.out))
    · rw [if_neg hc]
      have hd : decide (c ≤ 0) = false := by simpa using hc
      clear hc
      go_enter Try.func70, Try.ntmps70
      go_upto_region 1 with fail
      rw [← hw3]
      clear hw3
      obtain ⟨p0, p1⟩ := objtwo h3.out.2.1
      go_wp2_with (go_at_call 68; refine (HC.out _ h3.out.1).mono ?_; rintro e w4 ⟨rfl, h4⟩; have H4 := Lib.hid h4; clear p0 p1; obtain ⟨p0, p1⟩ := objtwo (h4.obj h3.out.2.1 id); obtain ⟨⟨r0, r1, r2, r3⟩, f0, f1, f2, f3⟩ := obj_frm (h4.obj h3.out.2.2.1 id); clear h4)
      refine bodyPost_ret (v := .tuple #[.agg #[.int .i64 1, .int .i64 0, .slice none 0 0, .slice none 0 0], .nilIface]) (by simp [results, Try.results70, go_sem, r0, r1, r2, r3]) rfl (leaf2_ret 1 _ (by unfold I64; decide) (HSET.out _ _ _ _ _ H4.out))
  have hne : 0 < t.length := by omega
  have hg := gcdN_pos hB hne
  obtain ⟨hcB, _, _⟩ := linB_sound hB
  obtain ⟨c1, c2⟩ := coefB_le hcB
  obtain ⟨u1, u2⟩ := up_coef (c := c) (g := (gcdN t : Int)) (by omega) c1 c2
  have hp0 : 0 < (divT t (gcdN t)).length := by rw [divT_len]; exact hne
  have hd0 : ((divT t (gcdN t)).getD 0 (0, 0)).2 = Int.tdiv t[0].2 (gcdN t) := by
    rw [List.getD_eq_getElem?_getD, List.getElem?_eq_getElem hp0, divT_get hp0]; rfl
  unfold litForm litErr
  rw [hB, if_pos rfl, if_pos rfl, if_neg hl, if_neg hl, hd0]
  by_cases hpos : (0 : Int) < Int.tdiv t[0].2 (gcdN t : Int)
  · rw [if_pos hpos, if_pos hpos, errV_zero]
    refine (literal_pos c ht hB hne (by simpa using hpos) hg).mono ?_
    rintro e w' ⟨A', cap', rfl, hm, hc⟩
    refine ⟨[.int .i64 2, .int .i64 (upI c (gcdN t)), .slice A' t.length cap', .slice none 0 0], rfl, ⟨A', cap', none, 0, ?_, by show I64 2; unfold I64; decide, I64.of (show -9000000000000000000 ≤ upI c (gcdN t) by omega) (show upI c (gcdN t) ≤ 9000000000000000000 by omega), hm, Sl.empty⟩, hc⟩
    show [Value.int .i64 2, .int .i64 (upI c (gcdN t)), .slice A' t.length cap', .slice none 0 0] = [Value.int .i64 2, .int .i64 (upI c (gcdN t)), .slice A' (divT t (gcdN t)).length cap', .slice none 0 0]
    rw [divT_len]
  · rw [if_neg hpos, if_neg hpos]
    exact literal_neg c ht hB hne (by simpa using hpos) hg
end Go.Proofs.Ytlejcnbpodmleaa
