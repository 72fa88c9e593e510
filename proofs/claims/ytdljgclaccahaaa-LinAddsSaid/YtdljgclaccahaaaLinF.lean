/-
  The reference's Add.
-/
import Derived.Test.YtdljgclaccahaaaLinE
import Derived.Test.YtdljgclaccahaaaLinC
import Derived.Deep.RegionHeldLaw
namespace Go.Proofs.Ytdljgclaccahaaa
open Go Go.RowKit

section
variable {ops : Array Oper} {o : Oper} {act : Act} {Q : Exit → Act → World → Prop} {K : Act → World → Prop} {F : Prop}
/-- append(s, terms...). -/
theorem step_append_monos (hgd : o.guard = none) (s x : Operand) (ho : o.op = .call { callee := .builtin .append, args := #[s, x], argTypes := #[22, 22] })
    {M R : Nat → Prop} {w : World} (hM : ∀ k, w.heap.size ≤ k → M k) {v : Value} {l l' : List Mono} (hown : OMonos M w v l) (hs : act.eval s = v) {A : Option Addr} {n cap : Nat} (hn : n = l'.length) (hl : Monos R w A l' cap) (hx : act.eval x = .slice A n cap) (hb : (l.length + l'.length) * 16 ≤ 140737488355328)
    (h : ∀ A' cap' w', OMonos M w' (.slice A' (l ++ l').length cap') (l ++ l') → Chg (fun k => v.ownBlock = some k) w w' → K (act.put o.dst (.slice A' (l ++ l').length cap')) w') :
    if Region.wanted o (yielded ops act.tmps) = true then Oper.wp Try.prog o act w K Q else F := by
  subst hn
  obtain ⟨C, ho1, hC1, hC2⟩ := hown
  have hlC : ∀ c ∈ C, c.length = 2 := fun c hc => by
    obtain ⟨i, hi, rfl⟩ := List.getElem_of_mem hc
    exact monoV_good.len (hC2 i (by omega) hi)
  cases A with
  | none =>
    have h0 : l' = [] := List.eq_nil_of_length_eq_zero (by have := hl.le; have := hl.nil rfl; omega)
    subst h0
    have hw : Region.wanted o (yielded ops act.tmps) = true := by simp [Region.wanted, hgd]
    rw [if_pos hw]
    have hrun := run_append_none (P := Try.prog) monosTy o.type ho1 cap
    obtain ⟨A', cap', rfl, _⟩ := ho1.value
    unfold Oper.wp execOp
    simp only [ho, resolve, invoke, builtin, Sem.run_bind, Sem.run_pure, Result.andThen_ok, List.map_toArray, List.map_cons, List.map_nil, hs, hx, List.length_nil, hrun]
    have := h A' cap' w (by rw [List.append_nil]; exact ⟨C, ho1, hC1, hC2⟩) (Chg.refl _ _)
    rw [List.append_nil] at this
    exact this
  | some a =>
    obtain ⟨D, hD1, hD2, hD3, hD4⟩ := hl.cellsOf
    refine step_append_Own monosTy hgd s x ho hM ho1 hs (a := a) (m := l'.length) (c := cap) (news := D.flatten) hx (by rw [flatten_length hD2, hD1]; rfl) (fun j u hj => ?_) (fun u hu => ?_) hb (fun A' cap' w' g1 g2 _ => ?_)
    · rcases hD4 with h0 | ⟨b, o, hA, hcell⟩
      · subst h0
        have : D = [] := List.eq_nil_of_length_eq_zero (by simpa using hD1)
        subst this; simp at hj
      · injection hA with hA
        rw [hA, addr_add]
        exact hcell j u hj
    · obtain ⟨c, hcC, huc⟩ := List.mem_flatten.1 hu
      obtain ⟨i, hi, rfl⟩ := List.getElem_of_mem hcC
      exact mono_one (hD3 i (by omega) hi) u huc
    · rw [← List.length_append] at g1 ⊢
      refine h A' cap' w' ⟨C ++ D, by rw [List.flatten_append]; exact g1, by simp [hC1, hD1], fun i h1 h2 => ?_⟩ g2
      by_cases hi : i < l.length
      · rw [List.getElem_append_left (by omega), List.getElem_append_left hi]; exact mono_any (hC2 i hi (by omega))
      · rw [List.getElem_append_right (by omega), List.getElem_append_right (by omega)]
        have := hD3 (i - l.length) (by rw [List.length_append] at h1; omega) (by rw [List.length_append] at h1; omega)
        simp only [hC1]
        exact mono_any this
end

theorem MonosRet.slice {w w' : World} {l : List Mono} {e : Ending} (h : MonosRet w l e w') : ∃ A cap, e = .returned (.slice A l.length cap) ∧ OMonos (fun k => w.heap.size ≤ k) w' (.slice A l.length cap) l ∧ Chg No w w' := by
  obtain ⟨v, rfl, h1, h2⟩ := h
  obtain ⟨A, cap, rfl, _⟩ := h1.value
  exact ⟨A, cap, rfl, h1, h2⟩

set_option maxRecDepth 100000 in
set_option maxHeartbeats 4000000 in
theorem ref01Add_any {R R' : Nat → Prop} {w : World} (a b : Lin) {A A' : Option Addr} {cap cap' : Nat} (ht : Monos R w A a.2 cap) (ht' : Monos R' w A' b.2 cap') (x y : Int) :
    Calls Try.prog 22 #[.agg #[.int .i64 a.1, .slice A a.2.length cap], .agg #[.int .i64 b.1, .slice A' b.2.length cap'], .int .i64 x, .int .i64 y] w (LinRet w (addLin a b x y) (.int .i64 (addErr a b x y))) := by
  obtain ⟨ca, ta⟩ := a
  obtain ⟨cb, tb⟩ := b
  simp only at ht ht' ⊢
  have HTa := Lib.hid (fun W (h : Chg No w W) => ht.no monoE_good h)
  have HTb := Lib.hid (fun W (h : Chg No w W) => ht'.no monoE_good h)
  have HCa := Lib.hid (fun W (h : Chg No w W) => ref01Check_any ca (ht.no monoE_good h))
  have HCb := Lib.hid (fun W (h : Chg No w W) => ref01Check_any cb (ht'.no monoE_good h))
  have hb1 := ht.big
  have hb2 := ht'.big
  unfold big at hb1 hb2
  clear ht ht'
  obtain ⟨w3, hw3⟩ : ∃ w3, w3 = ((w.alloc (.cells #[.int .i64 ca, .slice A ta.length cap] 25)).alloc (.cells #[.int .i64 cb, .slice A' tb.length cap'] 25)).alloc (.cells #[.int .i64 0, .slice none 0 0] 25) := ⟨_, rfl⟩
  have h3 : Hid (Chg No w w3 ∧ w3.heap[w.heap.size]? = some (.cells #[.int .i64 ca, .slice A ta.length cap] 25 (0, 0)) ∧ w3.heap[w.heap.size + 1]? = some (.cells #[.int .i64 cb, .slice A' tb.length cap'] 25 (0, 0)) ∧ w3.heap[w.heap.size + 1 + 1]? = some (.cells #[.int .i64 0, .slice none 0 0] 25 (0, 0)) ∧ w3.heap.size = w.heap.size + 1 + 1 + 1) := by
    rw [hw3]
    exact ⟨(((Chg.refl _ _).alloc _).alloc _).alloc _, at_old (at_old (heap_alloc_new _ _)), at_old (at_new (by simp)), at_new (by simp), by simp⟩
  have hbad : ∀ n : Int, addErr (ca, ta) (cb, tb) x y = n → addLin (ca, ta) (cb, tb) x y = (0, []) → Hid (∀ w', Chg No w w' → LinRet w (addLin (ca, ta) (cb, tb) x y) (.int .i64 (addErr (ca, ta) (cb, tb) x y)) (.returned (.tuple #[.agg #[.int .i64 0, .slice none 0 0], .int .i64 n])) w') := fun n he hl w' hw' => by
    rw [he, hl]
    exact LinRet.none hw'
  have hcw : Hid (∀ W u v, Chg No w W → Chg No w ((W.setCell ⟨w.heap.size + 1 + 1, 0, none⟩ u).setCell ⟨w.heap.size + 1 + 1, 1, none⟩ v)) := fun W u v h => (h.setCell _ _ (fun h => absurd h (by simp; omega))).setCell _ _ (fun h => absurd h (by simp; omega))
  have HB3 : Hid (∀ W, Chg No w3 W → W.heap[w.heap.size]? = some (.cells #[.int .i64 ca, .slice A ta.length cap] 25 (0, 0)) ∧ W.heap[w.heap.size + 1]? = some (.cells #[.int .i64 cb, .slice A' tb.length cap'] 25 (0, 0)) ∧ W.heap[w.heap.size + 1 + 1]? = some (.cells #[.int .i64 0, .slice none 0 0] 25 (0, 0))) := fun W h =>
    ⟨h.obj h3.out.2.1 id, h.obj h3.out.2.2.1 id, h.obj h3.out.2.2.2.1 id⟩
  cases hA : linB ca ta
  · have HP := hbad 5 (by unfold addErr; rw [hA]; rfl) (by unfold addLin; rw [hA]; rfl)
    rw [hA] at HCa
    clear hbad hA HTa HTb
    go_enter Try.func22, Try.ntmps22
    go_wp2_with fail
    rw [← hw3]
    clear hw3
    refine (HCa.out _ h3.out.1).mono ?_
    rintro e w4 ⟨rfl, h4⟩
    have H4 := Lib.hid h4
    clear h4
    obtain ⟨p0, p1, _, _⟩ := obj_two (HB3.out w4 H4.out).1; obtain ⟨q0, q1, _, _⟩ := obj_two (HB3.out w4 H4.out).2.1; obtain ⟨r0, r1, rf0, rf1⟩ := obj_two (HB3.out w4 H4.out).2.2
    go_wp2_with fail
    exact bodyPost_ret (v := .tuple #[.agg #[.int .i64 0, .slice none 0 0], .int .i64 5]) (by simp [results, Try.results22, go_sem, r0, r1]) rfl (HP.out _ (hcw.out _ _ _ (h3.out.1.thenNo H4.out)))
  rw [hA] at HCa
  cases hB : linB cb tb
  · have HP := hbad 5 (by unfold addErr; rw [hA, hB]; rfl) (by unfold addLin; rw [hA, hB]; rfl)
    rw [hB] at HCb
    clear hbad hA hB HTa HTb
    go_enter Try.func22, Try.ntmps22
    go_wp2_with fail
    rw [← hw3]
    clear hw3
    refine (HCa.out _ h3.out.1).mono ?_
    rintro e w4 ⟨rfl, h4⟩
    have H4 := Lib.hid h4
    clear h4
    obtain ⟨p0, p1, _, _⟩ := obj_two (HB3.out w4 H4.out).1; obtain ⟨q0, q1, _, _⟩ := obj_two (HB3.out w4 H4.out).2.1; obtain ⟨r0, r1, rf0, rf1⟩ := obj_two (HB3.out w4 H4.out).2.2
    go_wp2_with (go_at_call 18; refine (HCb.out _ (h3.out.1.thenNo H4.out)).mono ?_; rintro e w5 ⟨rfl, h5⟩; have H5 := Lib.hid (H4.out.thenNo h5); clear h5 p0 p1 q0 q1 r0 r1 rf0 rf1; obtain ⟨p0, p1, _, _⟩ := obj_two (HB3.out w5 H5.out).1; obtain ⟨q0, q1, _, _⟩ := obj_two (HB3.out w5 H5.out).2.1; obtain ⟨r0, r1, rf0, rf1⟩ := obj_two (HB3.out w5 H5.out).2.2)
    exact bodyPost_ret (v := .tuple #[.agg #[.int .i64 0, .slice none 0 0], .int .i64 5]) (by simp [results, Try.results22, go_sem, r0, r1]) rfl (HP.out _ (hcw.out _ _ _ (h3.out.1.thenNo H5.out)))
  rw [hB] at HCb
  by_cases h1 : x < -4096
  · have HP := hbad 1 (by unfold addErr timesB; rw [hA, hB, if_pos (by decide), if_neg (by simp; omega)]) (by unfold addLin timesB; rw [hA, hB, if_pos (by decide), if_neg (by simp; omega)])
    have d1 : decide (x < -4096) = true := decide_eq_true h1
    clear hbad hA hB HTa HTb h1
    go_enter Try.func22, Try.ntmps22
    go_wp2_with fail
    rw [← hw3]
    clear hw3
    refine (HCa.out _ h3.out.1).mono ?_
    rintro e w4 ⟨rfl, h4⟩
    have H4 := Lib.hid h4
    clear h4
    obtain ⟨p0, p1, _, _⟩ := obj_two (HB3.out w4 H4.out).1; obtain ⟨q0, q1, _, _⟩ := obj_two (HB3.out w4 H4.out).2.1; obtain ⟨r0, r1, rf0, rf1⟩ := obj_two (HB3.out w4 H4.out).2.2
    go_wp2_with (go_at_call 18; refine (HCb.out _ (h3.out.1.thenNo H4.out)).mono ?_; rintro e w5 ⟨rfl, h5⟩; have H5 := Lib.hid (H4.out.thenNo h5); clear h5 p0 p1 q0 q1 r0 r1 rf0 rf1; obtain ⟨p0, p1, _, _⟩ := obj_two (HB3.out w5 H5.out).1; obtain ⟨q0, q1, _, _⟩ := obj_two (HB3.out w5 H5.out).2.1; obtain ⟨r0, r1, rf0, rf1⟩ := obj_two (HB3.out w5 H5.out).2.2)
    exact bodyPost_ret (v := .tuple #[.agg #[.int .i64 0, .slice none 0 0], .int .i64 1]) (by simp [results, Try.results22, go_sem, r0, r1]) rfl (HP.out _ (hcw.out _ _ _ (h3.out.1.thenNo H5.out)))
  have d1 : decide (x < -4096) = false := decide_eq_false h1
  by_cases h2 : 4096 < x
  · have HP := hbad 1 (by unfold addErr timesB; rw [hA, hB, if_pos (by decide), if_neg (by simp; omega)]) (by unfold addLin timesB; rw [hA, hB, if_pos (by decide), if_neg (by simp; omega)])
    have d2 : decide (4096 < x) = true := decide_eq_true h2
    clear hbad hA hB HTa HTb h2
    go_enter Try.func22, Try.ntmps22
    go_wp2_with fail
    rw [← hw3]
    clear hw3
    refine (HCa.out _ h3.out.1).mono ?_
    rintro e w4 ⟨rfl, h4⟩
    have H4 := Lib.hid h4
    clear h4
    obtain ⟨p0, p1, _, _⟩ := obj_two (HB3.out w4 H4.out).1; obtain ⟨q0, q1, _, _⟩ := obj_two (HB3.out w4 H4.out).2.1; obtain ⟨r0, r1, rf0, rf1⟩ := obj_two (HB3.out w4 H4.out).2.2
    go_wp2_with (go_at_call 18; refine (HCb.out _ (h3.out.1.thenNo H4.out)).mono ?_; rintro e w5 ⟨rfl, h5⟩; have H5 := Lib.hid (H4.out.thenNo h5); clear h5 p0 p1 q0 q1 r0 r1 rf0 rf1; obtain ⟨p0, p1, _, _⟩ := obj_two (HB3.out w5 H5.out).1; obtain ⟨q0, q1, _, _⟩ := obj_two (HB3.out w5 H5.out).2.1; obtain ⟨r0, r1, rf0, rf1⟩ := obj_two (HB3.out w5 H5.out).2.2)
    exact bodyPost_ret (v := .tuple #[.agg #[.int .i64 0, .slice none 0 0], .int .i64 1]) (by simp [results, Try.results22, go_sem, r0, r1]) rfl (HP.out _ (hcw.out _ _ _ (h3.out.1.thenNo H5.out)))
  have d2 : decide (4096 < x) = false := decide_eq_false h2
  by_cases g3 : y < -4096
  · have HP := hbad 1 (by unfold addErr timesB; rw [hA, hB, if_pos (by decide), if_neg (by simp; omega)]) (by unfold addLin timesB; rw [hA, hB, if_pos (by decide), if_neg (by simp; omega)])
    have d3 : decide (y < -4096) = true := decide_eq_true g3
    clear hbad hA hB HTa HTb g3
    go_enter Try.func22, Try.ntmps22
    go_wp2_with fail
    rw [← hw3]
    clear hw3
    refine (HCa.out _ h3.out.1).mono ?_
    rintro e w4 ⟨rfl, h4⟩
    have H4 := Lib.hid h4
    clear h4
    obtain ⟨p0, p1, _, _⟩ := obj_two (HB3.out w4 H4.out).1; obtain ⟨q0, q1, _, _⟩ := obj_two (HB3.out w4 H4.out).2.1; obtain ⟨r0, r1, rf0, rf1⟩ := obj_two (HB3.out w4 H4.out).2.2
    go_wp2_with (go_at_call 18; refine (HCb.out _ (h3.out.1.thenNo H4.out)).mono ?_; rintro e w5 ⟨rfl, h5⟩; have H5 := Lib.hid (H4.out.thenNo h5); clear h5 p0 p1 q0 q1 r0 r1 rf0 rf1; obtain ⟨p0, p1, _, _⟩ := obj_two (HB3.out w5 H5.out).1; obtain ⟨q0, q1, _, _⟩ := obj_two (HB3.out w5 H5.out).2.1; obtain ⟨r0, r1, rf0, rf1⟩ := obj_two (HB3.out w5 H5.out).2.2)
    exact bodyPost_ret (v := .tuple #[.agg #[.int .i64 0, .slice none 0 0], .int .i64 1]) (by simp [results, Try.results22, go_sem, r0, r1]) rfl (HP.out _ (hcw.out _ _ _ (h3.out.1.thenNo H5.out)))
  have d3 : decide (y < -4096) = false := decide_eq_false g3
  by_cases g4 : 4096 < y
  · have HP := hbad 1 (by unfold addErr timesB; rw [hA, hB, if_pos (by decide), if_neg (by simp; omega)]) (by unfold addLin timesB; rw [hA, hB, if_pos (by decide), if_neg (by simp; omega)])
    have d4 : decide (4096 < y) = true := decide_eq_true g4
    clear hbad hA hB HTa HTb g4
    go_enter Try.func22, Try.ntmps22
    go_wp2_with fail
    rw [← hw3]
    clear hw3
    refine (HCa.out _ h3.out.1).mono ?_
    rintro e w4 ⟨rfl, h4⟩
    have H4 := Lib.hid h4
    clear h4
    obtain ⟨p0, p1, _, _⟩ := obj_two (HB3.out w4 H4.out).1; obtain ⟨q0, q1, _, _⟩ := obj_two (HB3.out w4 H4.out).2.1; obtain ⟨r0, r1, rf0, rf1⟩ := obj_two (HB3.out w4 H4.out).2.2
    go_wp2_with (go_at_call 18; refine (HCb.out _ (h3.out.1.thenNo H4.out)).mono ?_; rintro e w5 ⟨rfl, h5⟩; have H5 := Lib.hid (H4.out.thenNo h5); clear h5 p0 p1 q0 q1 r0 r1 rf0 rf1; obtain ⟨p0, p1, _, _⟩ := obj_two (HB3.out w5 H5.out).1; obtain ⟨q0, q1, _, _⟩ := obj_two (HB3.out w5 H5.out).2.1; obtain ⟨r0, r1, rf0, rf1⟩ := obj_two (HB3.out w5 H5.out).2.2)
    exact bodyPost_ret (v := .tuple #[.agg #[.int .i64 0, .slice none 0 0], .int .i64 1]) (by simp [results, Try.results22, go_sem, r0, r1]) rfl (HP.out _ (hcw.out _ _ _ (h3.out.1.thenNo H5.out)))
  have d4 : decide (4096 < y) = false := decide_eq_false g4
  have hx : timesB x = true := by unfold timesB; simp; omega
  have hy : timesB y = true := by unfold timesB; simp; omega
  have HOK := Lib.hid (scale_ok hA hB hx hy)
  have e1 : addLin (ca, ta) (cb, tb) x y = sumLin (x * ca + y * cb) (scale x ta ++ scale y tb) := by unfold addLin; rw [hA, hB, hx, hy]; rfl
  have e2 : addErr (ca, ta) (cb, tb) x y = sumErr (x * ca + y * cb) (scale x ta ++ scale y tb) := by unfold addErr; rw [hA, hB, hx, hy]; rfl
  rw [e1, e2]
  have hxl := timesB_le hx
  have hyl := timesB_le hy
  have hsa := linB_sound hA
  have hsb := linB_sound hB
  have hca := mulT hxl.1 hxl.2 (coefB_le hsa.1).1 (coefB_le hsa.1).2
  have hcb := mulT hyl.1 hyl.2 (coefB_le hsb.1).1 (coefB_le hsb.1).2
  obtain ⟨hca1, hca2⟩ := hca
  obtain ⟨hcb1, hcb2⟩ := hcb
  have hla : ta.length ≤ 64 := hsa.2.1
  have hlb : tb.length ≤ 64 := hsb.2.1
  have HMa : Hid (∀ W, Chg No w W → Calls Try.prog 34 #[.agg #[.int .i64 ca, .slice A ta.length cap], .int .i64 x] W fun e w' => ∃ A1 cap1, e = .returned (.slice A1 (scale x ta).length cap1) ∧ OMonos (fun k => W.heap.size ≤ k) w' (.slice A1 (scale x ta).length cap1) (scale x ta) ∧ Chg No W w') := fun W h => (ref01Times_any ca (HTa.out W h) x (by omega) (fun m hm => by
    have := linB_coef hA m hm
    have := mulT hxl.1 hxl.2 (show -1073741824 ≤ m.2 by omega) (by omega)
    omega)).mono fun _ _ h => h.slice
  have HMb : Hid (∀ W, Chg No w W → Calls Try.prog 34 #[.agg #[.int .i64 cb, .slice A' tb.length cap'], .int .i64 y] W fun e w' => ∃ A1 cap1, e = .returned (.slice A1 (scale y tb).length cap1) ∧ OMonos (fun k => W.heap.size ≤ k) w' (.slice A1 (scale y tb).length cap1) (scale y tb) ∧ Chg No W w') := fun W h => (ref01Times_any cb (HTb.out W h) y (by omega) (fun m hm => by
    have := linB_coef hB m hm
    have := mulT hyl.1 hyl.2 (show -1073741824 ≤ m.2 by omega) (by omega)
    omega)).mono fun _ _ h => h.slice
  have hwx : IntKind.i64.wrap (x * ca) = x * ca := by rw [IntKind.wrap_i64]; omega
  have hwy : IntKind.i64.wrap (y * cb) = y * cb := by rw [IntKind.wrap_i64]; omega
  have hws : IntKind.i64.wrap (x * ca + y * cb) = x * ca + y * cb := by rw [IntKind.wrap_i64]; omega
  have hsl1 := scale_len x ta
  have hsl2 := scale_len y tb
  have HSL1 : Hid ((scale x ta).length ≤ 64) := by unfold Hid; omega
  have HSL2 : Hid ((scale y tb).length ≤ 64) := by unfold Hid; omega
  generalize scale x ta = La at *
  generalize scale y tb = Lb at *
  clear hbad hx hy hA hB hsa hsb hxl hyl e1 e2 h1 h2 g3 g4 hsl1 hsl2 HTa HTb
  go_enter Try.func22, Try.ntmps22
  go_wp2_with fail
  rw [← hw3]
  clear hw3
  refine (HCa.out _ h3.out.1).mono ?_
  rintro e w4 ⟨rfl, h4⟩
  have H4 := Lib.hid h4
  clear h4
  obtain ⟨p0, p1, _, _⟩ := obj_two (HB3.out w4 H4.out).1; obtain ⟨q0, q1, _, _⟩ := obj_two (HB3.out w4 H4.out).2.1; obtain ⟨r0, r1, rf0, rf1⟩ := obj_two (HB3.out w4 H4.out).2.2
  go_wp2_with (go_at_call 18; refine (HCb.out _ (h3.out.1.thenNo H4.out)).mono ?_; rintro e w5 ⟨rfl, h5⟩; have H5 := Lib.hid (H4.out.thenNo h5); clear h5 p0 p1 q0 q1 r0 r1 rf0 rf1; obtain ⟨p0, p1, _, _⟩ := obj_two (HB3.out w5 H5.out).1; obtain ⟨q0, q1, _, _⟩ := obj_two (HB3.out w5 H5.out).2.1; obtain ⟨r0, r1, rf0, rf1⟩ := obj_two (HB3.out w5 H5.out).2.2)
  have hz5 : w3.heap.size ≤ w5.heap.size := H5.out.size
  have hs1 := HSL1.out
  have hs2 := HSL2.out
  have HSm : Hid (∀ W A8 cap8 (M : Nat → Prop), OMonos M W (.slice A8 (La ++ Lb).length cap8) (La ++ Lb) → Calls Try.prog 29 #[.int .i64 (x * ca + y * cb), .slice A8 (La.length + Lb.length) cap8] W (LinRet W (sumLin (x * ca + y * cb) (La ++ Lb)) (.int .i64 (sumErr (x * ca + y * cb) (La ++ Lb))))) := fun W A8 cap8 M h => by
    rw [← List.length_append]
    exact ref01Sum_any (x * ca + y * cb) (h.monos (by have := HOK.out.1; unfold big; omega)) HOK.out.2.1 HOK.out.2.2
  generalize Value.int .i64 (sumErr (x * ca + y * cb) (La ++ Lb)) = E at *
  generalize sumLin (x * ca + y * cb) (La ++ Lb) = r at *
  have HB7 : Hid (Lb.length * 16 ≤ big) := by unfold Hid big; omega
  have HL13 : Hid ((La.length + Lb.length) * 16 ≤ 140737488355328) := by unfold Hid; omega
  have HL12 : Hid ((La ++ Lb).length ≤ 128) := HOK.out.1
  go_region_held_law (fun W => W.cell? ⟨w.heap.size, 0, none⟩ = some (.int .i64 ca) ∧ W.cell? ⟨w.heap.size, 1, none⟩ = some (.slice A ta.length cap) ∧ W.cell? ⟨w.heap.size + 1, 0, none⟩ = some (.int .i64 cb) ∧ W.cell? ⟨w.heap.size + 1, 1, none⟩ = some (.slice A' tb.length cap'))
    (first | (refine ⟨?_, ?_, ?_, ?_⟩ <;> assumption) | (refine ⟨?_, ?_, ?_, ?_⟩ <;> (refine (World.cell?_setCell_far _ _ _ _ (by simp <;> omega)).trans ((World.cell?_setCell_far _ _ _ _ (by simp <;> omega)).trans ?_); assumption)) | go_keep)
    ((first
      | (go_at_call 34; with_reducible refine (HMa.out _ (h3.out.1.thenNo H5.out).drew).mono ?_; rintro e w6 ⟨A6, cap6, rfl, g6, c6⟩; have G6 := Lib.hid g6; have hz56 : w5.heap.size ≤ w6.heap.size := ((Chg.refl No w5).drew.thenNo c6).size; have C6 := Lib.hid (H5.out.drew.thenNo c6); clear g6 c6 p0 p1 q0 q1 r0 r1 rf0 rf1; obtain ⟨p0, p1, _, _⟩ := obj_two (HB3.out w6 C6.out).1; obtain ⟨q0, q1, _, _⟩ := obj_two (HB3.out w6 C6.out).2.1; obtain ⟨r0, r1, rf0, rf1⟩ := obj_two (HB3.out w6 C6.out).2.2)
      | (go_at_call 34; with_reducible refine (HMb.out _ (h3.out.1.thenNo C6.out)).mono ?_; rintro e w7 ⟨A7, cap7, rfl, g7, c7⟩; have G7 := Lib.hid g7; have C67 := Lib.hid c7; have HZ7 := Lib.hid (Nat.le_trans hz56 c7.size); have C7 := Lib.hid (C6.out.thenNo c7); clear g7 c7 p0 p1 q0 q1 r0 r1 rf0 rf1; obtain ⟨p0, p1, _, _⟩ := obj_two (HB3.out w7 C7.out).1; obtain ⟨q0, q1, _, _⟩ := obj_two (HB3.out w7 C7.out).2.1; obtain ⟨r0, r1, rf0, rf1⟩ := obj_two (HB3.out w7 C7.out).2.2)
      | (refine step_append_monos (by rfl) (.tmp 45) (.tmp 48) (by rfl) (M := fun q => w5.heap.size ≤ q) (w := w7) (v := .slice A6 La.length cap6) (l := La) (l' := Lb) (R := fun q => w6.heap.size ≤ q) (A := A7) (n := Lb.length) (cap := cap7) (fun q hq => Nat.le_trans HZ7.out hq) (G6.out.no monoV_good C67.out) (by rfl) (by rfl) (G7.out.monos HB7.out) (by rfl) HL13.out ?_; intro A8 cap8 w8 g8 c8; have G8 := Lib.hid g8; have C8 := Lib.hid (C7.out.trans (S := No) c8 (fun q hq hlt => absurd (Nat.lt_of_lt_of_le hlt hz5) (Nat.not_lt.2 (G6.out.mine q hq).1))); clear g8 c8 p0 p1 q0 q1 r0 r1 rf0 rf1; obtain ⟨p0, p1, _, _⟩ := obj_two (HB3.out w8 C8.out).1; obtain ⟨q0, q1, _, _⟩ := obj_two (HB3.out w8 C8.out).2.1; obtain ⟨r0, r1, rf0, rf1⟩ := obj_two (HB3.out w8 C8.out).2.2)
      | (go_at_call 29; (with_reducible refine (HSm.out _ _ _ _ G8.out).mono ?_); rintro e w9 ⟨A9, cap9, rfl, g9, c9⟩; have G9 := Lib.hid g9; have HZ9 := Lib.hid (h3.out.1.thenNo C8.out).size; have C9 := Lib.hid (C8.out.thenNo c9); clear g9 c9 p0 p1 q0 q1 r0 r1 rf0 rf1; obtain ⟨p0, p1, _, _⟩ := obj_two (HB3.out w9 C9.out).1; obtain ⟨q0, q1, _, _⟩ := obj_two (HB3.out w9 C9.out).2.1; obtain ⟨r0, r1, rf0, rf1⟩ := obj_two (HB3.out w9 C9.out).2.2)))
  go_wp2
  refine bodyPost_ret (v := .tuple #[.agg #[.int .i64 r.1, .slice A9 r.2.length cap9], E]) (by simp [results, Try.results22, go_sem, r0, r1]) rfl ⟨A9, cap9, rfl, ?_, hcw.out _ _ _ (h3.out.1.thenNo C9.out)⟩
  have hs1 := C8.out.size
  have hs3 := h3.out.2.2.2.2
  exact (G9.out.chg monoE_good (S := fun q => q = w.heap.size + 1 + 1) (((Chg.refl (fun q => q = w.heap.size + 1 + 1) _).setCell _ _ (fun _ => rfl)).setCell _ _ (fun _ => rfl)) (fun q h e => by omega)).mono monoE_good (fun q _ h => by omega)
end Go.Proofs.Ytdljgclaccahaaa
