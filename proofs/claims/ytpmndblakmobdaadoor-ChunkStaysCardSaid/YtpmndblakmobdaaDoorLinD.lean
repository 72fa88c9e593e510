/-
  lin.Add.
-/
import Derived.Test.YtpmndblakmobdaaDoorLin9
import Derived.Test.YtpmndblakmobdaaDoorLin4
namespace Go.Proofs.YtpmndblakmobdaaDoor
open Go Go.RowKit

def timesB (x : Int) : Bool := decide (-4096 ≤ x) && decide (x ≤ 4096)
/-- Terms so many times. -/
def scale (x : Int) (t : List Mono) : List Mono := t.map fun m => (m.1, x * m.2)
theorem scale_take {x : Int} {t : List Mono} {k : Nat} (h : k < t.length) : scale x (t.take (k + 1)) = scale x (t.take k) ++ [(t[k].1, x * t[k].2)] := by
  unfold scale
  rw [List.take_succ_eq_append_getElem h, List.map_append]
  rfl
theorem scale_len (x : Int) (t : List Mono) : (scale x t).length = t.length := by unfold scale; simp
theorem timesB_le {x : Int} (h : timesB x = true) : -4096 ≤ x ∧ x ≤ 4096 := by unfold timesB at h; simpa using h
theorem mulT {x k : Int} (h1 : -4096 ≤ x) (h2 : x ≤ 4096) (h3 : -1073741824 ≤ k) (h4 : k ≤ 1073741824) : -4398046511104 ≤ x * k ∧ x * k ≤ 4398046511104 := by
  have h : (x * k).natAbs ≤ 4096 * 1073741824 := by
    rw [Int.natAbs_mul]
    exact Nat.mul_le_mul (by omega) (by omega)
  omega

/-- What is amiss with multiples together, and what they are. -/
noncomputable def addErr (a b : Lin) (x y : Int) : Int :=
  if (linB a.1 a.2 && linB b.1 b.2) = true then (if (timesB x && timesB y) = true then sumErr (x * a.1 + y * b.1) (scale x a.2 ++ scale y b.2) else 1) else 5
noncomputable def addLin (a b : Lin) (x y : Int) : Lin :=
  if (linB a.1 a.2 && linB b.1 b.2) = true then (if (timesB x && timesB y) = true then sumLin (x * a.1 + y * b.1) (scale x a.2 ++ scale y b.2) else (0, [])) else (0, [])
theorem addErr_range (a b : Lin) (x y : Int) : 0 ≤ addErr a b x y ∧ addErr a b x y ≤ 16 := by
  unfold addErr
  split
  · split
    · unfold sumErr
      split
      · split <;> omega
      · omega
    · omega
  · omega

/-- What the terms of sound forms, so many times, are bounded by. -/
theorem scale_ok {c c' x y : Int} {s t : List Mono} (hs : linB c s = true) (ht : linB c' t = true) (hx : timesB x = true) (hy : timesB y = true) :
    (scale x s ++ scale y t).length ≤ 128 ∧ (∀ m ∈ scale x s ++ scale y t, 0 ≤ m.1 ∧ m.1 < 1048576) ∧ ∀ v, absAt (scale x s ++ scale y t) v ≤ 4611686018427387904 := by
  have h1 := linB_sound hs
  have h2 := linB_sound ht
  have hlen : (scale x s ++ scale y t).length ≤ 128 := by rw [List.length_append, scale_len, scale_len]; omega
  have hb : ∀ {c x : Int} {s : List Mono}, linB c s = true → timesB x = true → ∀ m ∈ scale x s, (0 ≤ m.1 ∧ m.1 < 1048576) ∧ (m.2.natAbs : Int) ≤ 4398046511104 := by
    intro c x s hs hx m hm
    unfold scale at hm
    obtain ⟨q, hq, rfl⟩ := List.mem_map.1 hm
    obtain ⟨i, hi, rfl⟩ := List.getElem_of_mem hq
    have h := (linB_sound hs).2.2 i hi
    have h3 := coefB_le h.2.1
    have h4 := timesB_le hx
    have h5 := mulT h4.1 h4.2 h3.1 h3.2
    exact ⟨varB_le h.1, by show ((x * s[i].2).natAbs : Int) ≤ 4398046511104; omega⟩
  have ha : ∀ m ∈ scale x s ++ scale y t, (0 ≤ m.1 ∧ m.1 < 1048576) ∧ (m.2.natAbs : Int) ≤ 4398046511104 := fun m hm => by
    rcases List.mem_append.1 hm with hm | hm
    · exact hb hs hx m hm
    · exact hb ht hy m hm
  refine ⟨hlen, fun m hm => (ha m hm).1, fun v => ?_⟩
  have := absAt_le (fun m hm => (ha m hm).2) (by decide) v
  omega

section
variable {P : Program} {α : Type} {V : ElV α} {t e : TypeId} {z : Value} {ops : Array Oper} {rest : List Oper} {o : Oper} {act : Act} {Q : Exit → Act → World → Prop}
/-- append(s, x), where the one element has just been laid in the block bk. -/
theorem wpList_pushLn (g : V.Good) (T : SliceTy P t e V.sz V.bytes z) (hgd : o.guard = none) (s xo : Operand)
    (ho : o.op = .call { callee := .builtin .append, args := #[s, xo], argTypes := #[t, t] })
    {M R : Nat → Prop} {w : World} (hM : ∀ k, w.heap.size ≤ k → M k) {v : Value} {l : List α} (hown : OwnL V e M R w v l) (hs : act.eval s = v)
    {x : α} {cs : List Value} (hx : V (fun k => R k ∧ v.ownBlock ≠ some k) w cs x) (h1 : ∀ u ∈ cs, u.oneCell' = true) {e' : TypeId} {bk : Nat} (hbk : bk = w.heap.size) (hxo : act.eval xo = .slice (some ⟨bk, 0, none⟩) 1 1) (hbytes : (l.length + 1) * V.bytes ≤ 140737488355328)
    (h : ∀ A cap w', OwnL V e M R w' (.slice A (l.length + 1) cap) (l ++ [x]) → Chg (fun k => v.ownBlock = some k) w w' → wpList P ops Q rest (act.put o.dst (.slice A (l.length + 1) cap)) w') :
    wpList P ops Q (o :: rest) act (w.alloc (.cells cs.toArray e')) := by
  subst hbk
  exact wpList_pushL g T hgd s xo ho hM hown hs hx h1 hxo hbytes h
end

theorem times_any (k : Int) (w : World) : Calls Tryd.prog 45 #[.int .i64 k] w fun e w' => e = .returned (.bool (timesB k)) ∧ w = w' := by
  unfold timesB
  by_cases h1 : -4096 ≤ k <;> by_cases h2 : k ≤ 4096
  all_goals
    first | rw [decide_eq_true h1] | rw [decide_eq_false h1]
    first | rw [decide_eq_true h2] | rw [decide_eq_false h2]
    go_enter Tryd.func45, Tryd.ntmps45
    go_wp2
    go_ret
    exact ⟨rfl, rfl⟩

set_option maxRecDepth 100000 in
set_option maxHeartbeats 4000000 in
theorem linAdd_any {R R' : Nat → Prop} {w : World} (a b : Lin) {A A' : Option Addr} {cap cap' : Nat} (ht : Monos R w A a.2 cap) (ht' : Monos R' w A' b.2 cap') (x y : Int) :
    Calls Tryd.prog 33 #[.agg #[.int .i64 a.1, .slice A a.2.length cap], .agg #[.int .i64 b.1, .slice A' b.2.length cap'], .int .i64 x, .int .i64 y] w (LinRet w (addLin a b x y) (errV 64 (addErr a b x y))) := by
  obtain ⟨ca, ta⟩ := a
  obtain ⟨cb, tb⟩ := b
  simp only at ht ht' ⊢
  have HTa := Lib.hid (fun W (h : Chg No w W) => ht.no monoE_good h)
  have HTb := Lib.hid (fun W (h : Chg No w W) => ht'.no monoE_good h)
  have HCa := Lib.hid (fun W (h : Chg No w W) => linCheck_any ca (ht.no monoE_good h))
  have HCb := Lib.hid (fun W (h : Chg No w W) => linCheck_any cb (ht'.no monoE_good h))
  have HX := Lib.hid (fun W => times_any x W)
  have HY := Lib.hid (fun W => times_any y W)
  have hb1 := ht.big
  have hb2 := ht'.big
  unfold big at hb1 hb2
  clear ht ht'
  obtain ⟨w3, hw3⟩ : ∃ w3, w3 = ((w.alloc (.cells #[.int .i64 ca, .slice A ta.length cap] 36)).alloc (.cells #[.int .i64 cb, .slice A' tb.length cap'] 36)).alloc (.cells #[.int .i64 0, .slice none 0 0] 36) := ⟨_, rfl⟩
  have h3 : Hid (Chg No w w3 ∧ w3.heap[w.heap.size]? = some (.cells #[.int .i64 ca, .slice A ta.length cap] 36 (0, 0)) ∧ w3.heap[w.heap.size + 1]? = some (.cells #[.int .i64 cb, .slice A' tb.length cap'] 36 (0, 0)) ∧ w3.heap[w.heap.size + 1 + 1]? = some (.cells #[.int .i64 0, .slice none 0 0] 36 (0, 0)) ∧ w3.heap.size = w.heap.size + 1 + 1 + 1) := by
    rw [hw3]
    exact ⟨(((Chg.refl _ _).alloc _).alloc _).alloc _, at_old (at_old (heap_alloc_new _ _)), at_old (at_new (by simp)), at_new (by simp), by simp⟩
  have hbad : ∀ n : Int, n ≠ 0 → addErr (ca, ta) (cb, tb) x y = n → addLin (ca, ta) (cb, tb) x y = (0, []) → Hid (∀ w', Chg No w w' → LinRet w (addLin (ca, ta) (cb, tb) x y) (errV 64 (addErr (ca, ta) (cb, tb) x y)) (.returned (.tuple #[.agg #[.int .i64 0, .slice none 0 0], .iface 64 (.int .i64 n)])) w') := fun n hn he hl w' hw' => by
    rw [he, hl, errV_of _ hn]
    exact LinRet.none hw'
  have hcw : Hid (∀ W u v, Chg No w W → Chg No w ((W.setCell ⟨w.heap.size + 1 + 1, 0, none⟩ u).setCell ⟨w.heap.size + 1 + 1, 1, none⟩ v)) := fun W u v h => (h.setCell _ _ (fun h => absurd h (by simp; omega))).setCell _ _ (fun h => absurd h (by simp; omega))
  have HB3 : Hid (∀ W, Chg No w3 W → W.heap[w.heap.size]? = some (.cells #[.int .i64 ca, .slice A ta.length cap] 36 (0, 0)) ∧ W.heap[w.heap.size + 1]? = some (.cells #[.int .i64 cb, .slice A' tb.length cap'] 36 (0, 0)) ∧ W.heap[w.heap.size + 1 + 1]? = some (.cells #[.int .i64 0, .slice none 0 0] 36 (0, 0))) := fun W h =>
    ⟨h.obj h3.out.2.1 id, h.obj h3.out.2.2.1 id, h.obj h3.out.2.2.2.1 id⟩
  cases hA : linB ca ta
  · have HP := hbad 5 (by decide) (by unfold addErr; rw [hA]; rfl) (by unfold addLin; rw [hA]; rfl)
    rw [hA] at HCa
    rw [show (if false = true then (0 : Int) else 5) = 5 from rfl, errV_of _ (by decide)] at HCa
    clear hbad hA HTa HTb
    go_enter Tryd.func33, Tryd.ntmps33
    go_wp2_with fail
    rw [← hw3]
    clear hw3
    refine (HCa.out _ h3.out.1).mono ?_
    rintro e w4 ⟨rfl, h4⟩
    have H4 := Lib.hid h4
    clear h4
    obtain ⟨p0, p1, _, _⟩ := obj_two (HB3.out w4 H4.out).1; obtain ⟨q0, q1, _, _⟩ := obj_two (HB3.out w4 H4.out).2.1; obtain ⟨r0, r1, rf0, rf1⟩ := obj_two (HB3.out w4 H4.out).2.2
    go_wp2_with fail
    exact bodyPost_ret (v := .tuple #[.agg #[.int .i64 0, .slice none 0 0], .iface 64 (.int .i64 5)]) (by simp [results, Tryd.results33, go_sem, r0, r1]) rfl (HP.out _ (hcw.out _ _ _ (h3.out.1.thenNo H4.out)))
  rw [hA] at HCa
  rw [show (if true = true then (0 : Int) else 5) = 0 from rfl, errV_zero] at HCa
  cases hB : linB cb tb
  · have HP := hbad 5 (by decide) (by unfold addErr; rw [hA, hB]; rfl) (by unfold addLin; rw [hA, hB]; rfl)
    rw [hB] at HCb
    rw [show (if false = true then (0 : Int) else 5) = 5 from rfl, errV_of _ (by decide)] at HCb
    clear hbad hA hB HTa HTb
    go_enter Tryd.func33, Tryd.ntmps33
    go_wp2_with fail
    rw [← hw3]
    clear hw3
    refine (HCa.out _ h3.out.1).mono ?_
    rintro e w4 ⟨rfl, h4⟩
    have H4 := Lib.hid h4
    clear h4
    obtain ⟨p0, p1, _, _⟩ := obj_two (HB3.out w4 H4.out).1; obtain ⟨q0, q1, _, _⟩ := obj_two (HB3.out w4 H4.out).2.1; obtain ⟨r0, r1, rf0, rf1⟩ := obj_two (HB3.out w4 H4.out).2.2
    go_wp2_with (go_at_call 29; refine (HCb.out _ (h3.out.1.thenNo H4.out)).mono ?_; rintro e w5 ⟨rfl, h5⟩; have H5 := Lib.hid (H4.out.thenNo h5); clear h5 p0 p1 q0 q1 r0 r1 rf0 rf1; obtain ⟨p0, p1, _, _⟩ := obj_two (HB3.out w5 H5.out).1; obtain ⟨q0, q1, _, _⟩ := obj_two (HB3.out w5 H5.out).2.1; obtain ⟨r0, r1, rf0, rf1⟩ := obj_two (HB3.out w5 H5.out).2.2)
    exact bodyPost_ret (v := .tuple #[.agg #[.int .i64 0, .slice none 0 0], .iface 64 (.int .i64 5)]) (by simp [results, Tryd.results33, go_sem, r0, r1]) rfl (HP.out _ (hcw.out _ _ _ (h3.out.1.thenNo H5.out)))
  rw [hB] at HCb
  rw [show (if true = true then (0 : Int) else 5) = 0 from rfl, errV_zero] at HCb
  cases hx : timesB x
  · have HP := hbad 1 (by decide) (by unfold addErr; rw [hA, hB, hx]; rfl) (by unfold addLin; rw [hA, hB, hx]; rfl)
    rw [hx] at HX
    clear hbad hA hB HTa HTb hx
    go_enter Tryd.func33, Tryd.ntmps33
    go_wp2_with fail
    rw [← hw3]
    clear hw3
    refine (HCa.out _ h3.out.1).mono ?_
    rintro e w4 ⟨rfl, h4⟩
    have H4 := Lib.hid h4
    clear h4
    obtain ⟨p0, p1, _, _⟩ := obj_two (HB3.out w4 H4.out).1; obtain ⟨q0, q1, _, _⟩ := obj_two (HB3.out w4 H4.out).2.1; obtain ⟨r0, r1, rf0, rf1⟩ := obj_two (HB3.out w4 H4.out).2.2
    go_wp2_with (first | (go_at_call 29; refine (HCb.out _ (h3.out.1.thenNo H4.out)).mono ?_; rintro e w5 ⟨rfl, h5⟩; have H5 := Lib.hid (H4.out.thenNo h5); clear h5 p0 p1 q0 q1 r0 r1 rf0 rf1; obtain ⟨p0, p1, _, _⟩ := obj_two (HB3.out w5 H5.out).1; obtain ⟨q0, q1, _, _⟩ := obj_two (HB3.out w5 H5.out).2.1; obtain ⟨r0, r1, rf0, rf1⟩ := obj_two (HB3.out w5 H5.out).2.2) | (go_at_call 45; refine (HX.out _).mono ?_; rintro e w6 ⟨rfl, rfl⟩))
    exact bodyPost_ret (v := .tuple #[.agg #[.int .i64 0, .slice none 0 0], .iface 64 (.int .i64 1)]) (by simp [results, Tryd.results33, go_sem, r0, r1]) rfl (HP.out _ (hcw.out _ _ _ (h3.out.1.thenNo H5.out)))
  rw [hx] at HX
  cases hy : timesB y
  · have HP := hbad 1 (by decide) (by unfold addErr; rw [hA, hB, hx, hy]; rfl) (by unfold addLin; rw [hA, hB, hx, hy]; rfl)
    rw [hy] at HY
    clear hbad hA hB HTa HTb hx hy
    go_enter Tryd.func33, Tryd.ntmps33
    go_wp2_with fail
    rw [← hw3]
    clear hw3
    refine (HCa.out _ h3.out.1).mono ?_
    rintro e w4 ⟨rfl, h4⟩
    have H4 := Lib.hid h4
    clear h4
    obtain ⟨p0, p1, _, _⟩ := obj_two (HB3.out w4 H4.out).1; obtain ⟨q0, q1, _, _⟩ := obj_two (HB3.out w4 H4.out).2.1; obtain ⟨r0, r1, rf0, rf1⟩ := obj_two (HB3.out w4 H4.out).2.2
    go_wp2_with (first | (go_at_call 29; refine (HCb.out _ (h3.out.1.thenNo H4.out)).mono ?_; rintro e w5 ⟨rfl, h5⟩; have H5 := Lib.hid (H4.out.thenNo h5); clear h5 p0 p1 q0 q1 r0 r1 rf0 rf1; obtain ⟨p0, p1, _, _⟩ := obj_two (HB3.out w5 H5.out).1; obtain ⟨q0, q1, _, _⟩ := obj_two (HB3.out w5 H5.out).2.1; obtain ⟨r0, r1, rf0, rf1⟩ := obj_two (HB3.out w5 H5.out).2.2) | (go_at_call 45; with_reducible refine (HX.out _).mono ?_; rintro e w6 ⟨rfl, rfl⟩) | (go_at_call 45; with_reducible refine (HY.out _).mono ?_; rintro e w6 ⟨rfl, rfl⟩))
    exact bodyPost_ret (v := .tuple #[.agg #[.int .i64 0, .slice none 0 0], .iface 64 (.int .i64 1)]) (by simp [results, Tryd.results33, go_sem, r0, r1]) rfl (HP.out _ (hcw.out _ _ _ (h3.out.1.thenNo H5.out)))
  rw [hy] at HY
  have hok := scale_ok hA hB hx hy
  have HOK := Lib.hid hok
  have e1 : addLin (ca, ta) (cb, tb) x y = sumLin (x * ca + y * cb) (scale x ta ++ scale y tb) := by unfold addLin; rw [hA, hB, hx, hy]; rfl
  have e2 : addErr (ca, ta) (cb, tb) x y = sumErr (x * ca + y * cb) (scale x ta ++ scale y tb) := by unfold addErr; rw [hA, hB, hx, hy]; rfl
  rw [e1, e2]
  have hxl := timesB_le hx
  have hyl := timesB_le hy
  have hsa := linB_sound hA
  have hsb := linB_sound hB
  have HKa : Hid (∀ i (h : i < ta.length), -4398046511104 ≤ x * ta[i].2 ∧ x * ta[i].2 ≤ 4398046511104) := fun i h => mulT hxl.1 hxl.2 (coefB_le (hsa.2.2 i h).2.1).1 (coefB_le (hsa.2.2 i h).2.1).2
  have HKb : Hid (∀ i (h : i < tb.length), -4398046511104 ≤ y * tb[i].2 ∧ y * tb[i].2 ≤ 4398046511104) := fun i h => mulT hyl.1 hyl.2 (coefB_le (hsb.2.2 i h).2.1).1 (coefB_le (hsb.2.2 i h).2.1).2
  have hca := mulT hxl.1 hxl.2 (coefB_le hsa.1).1 (coefB_le hsa.1).2
  have hcb := mulT hyl.1 hyl.2 (coefB_le hsb.1).1 (coefB_le hsb.1).2
  obtain ⟨hca1, hca2⟩ := hca
  obtain ⟨hcb1, hcb2⟩ := hcb
  have hla : ta.length ≤ 64 := hsa.2.1
  have hlb : tb.length ≤ 64 := hsb.2.1
  clear hbad hok hx hy hA hB hsa hsb hxl hyl e1 e2
  go_enter Tryd.func33, Tryd.ntmps33
  go_wp2_with fail
  rw [← hw3]
  clear hw3
  refine (HCa.out _ h3.out.1).mono ?_
  rintro e w4 ⟨rfl, h4⟩
  have H4 := Lib.hid h4
  clear h4
  obtain ⟨p0, p1, _, _⟩ := obj_two (HB3.out w4 H4.out).1; obtain ⟨q0, q1, _, _⟩ := obj_two (HB3.out w4 H4.out).2.1; obtain ⟨r0, r1, rf0, rf1⟩ := obj_two (HB3.out w4 H4.out).2.2
  go_wp2_with (first | (go_at_call 29; refine (HCb.out _ (h3.out.1.thenNo H4.out)).mono ?_; rintro e w5 ⟨rfl, h5⟩; have H5 := Lib.hid (H4.out.thenNo h5); clear h5 p0 p1 q0 q1 r0 r1 rf0 rf1; obtain ⟨p0, p1, _, _⟩ := obj_two (HB3.out w5 H5.out).1; obtain ⟨q0, q1, _, _⟩ := obj_two (HB3.out w5 H5.out).2.1; obtain ⟨r0, r1, rf0, rf1⟩ := obj_two (HB3.out w5 H5.out).2.2) | (go_at_call 45; with_reducible refine (HX.out _).mono ?_; rintro e w6 ⟨rfl, rfl⟩) | (go_at_call 45; with_reducible refine (HY.out _).mono ?_; rintro e w6 ⟨rfl, rfl⟩))
  have hz5 : w3.heap.size ≤ w5.heap.size := H5.out.size
  clear p0 p1 q0 q1 r0 r1 rf0 rf1
  go_loopw [10, 40] (fun s10 s40 wr => ∃ (k : Nat) (v : Value), s10 = v ∧ s40 = .int .i64 k ∧ k ≤ ta.length ∧ Hid (Chg No w5 wr) ∧ Hid (OMonos (fun q => w5.heap.size ≤ q) wr v (scale x (ta.take k)))) (fun _ s40 _ => ta.length - (intOf s40).toNat)
  case atStart => exact ⟨0, .slice none 0 0, rfl, rfl, Nat.zero_le _, Chg.refl _ _, OwnL.nil _ _ _ _ _⟩
  case round =>
    obtain ⟨k, v, rfl, rfl, hkl, hch, hown⟩ := hrel
    by_cases hlt : k < ta.length
    · obtain ⟨b, o, rfl, hx0, hx1⟩ := (HTa.out wr (h3.out.1.thenNo (H5.out.thenNo hch.out))).mono_at k hlt
      have i0 : (0 : Int) ≤ (k : Int) := by omega
      have i1 : (k : Int) < (ta.length : Int) := by omega
      have HST := Lib.hid (scale_take (x := x) hlt)
      obtain ⟨m1, m2⟩ := HKa.out k hlt
      have hvi := ((HTa.out wr (h3.out.1.thenNo (H5.out.thenNo hch.out))).mono_ok k hlt).1
      have HVI := Lib.hid hvi
      have hsl : (scale x (ta.take k)).length ≤ 64 := by rw [scale_len, List.length_take]; omega
      generalize scale x (ta.take k) = L at *
      generalize ta[k].1 = vv at *
      generalize ta[k].2 = kk at *
      clear hvi
      have hco : Hid (∀ X, Chg No wr (wr.alloc X)) := fun X => (Chg.refl _ _).alloc X
      have hzr : w5.heap.size ≤ wr.heap.size := hch.out.size
      go_wp2_with (at_builtin; refine wpList_pushLn monoV_good monosTy rfl (.tmp 44) (.tmp 52) rfl (M := fun q => w5.heap.size ≤ q) (fun q hq => by simp at hq; omega) (hown.out.no monoV_good (hco.out _)) rfl (mono_of (m := (vv, x * kk)) HVI.out (I64.of (show -9000000000000000000 ≤ x * kk by omega) (show x * kk ≤ 9000000000000000000 by omega))) (by simp [Value.oneCell']) (by simp) rfl (show (L.length + 1) * 16 ≤ 140737488355328 by omega) ?_; intro A2 cap2 w7 g1 g2; have G1 := Lib.hid g1; have G2 := Lib.hid ((hch.out.thenNo (hco.out _)).trans (S := No) g2 (fun q hq hlt => by have := (hown.out.mine _ hq).1; omega)); clear g1 g2)
      go_roundw
      case rel => exact ⟨k + 1, _, rfl, by go_num, hlt, G2, by rw [HST.out]; exact G1⟩
      case measure => simp [intOf]; omega
    · obtain rfl : k = ta.length := by omega
      rw [List.take_of_length_le (Nat.le_refl _)] at hown
      have hsl : (scale x ta).length ≤ 64 := by rw [scale_len]; omega
      obtain ⟨p0, p1, _, _⟩ := obj_two (HB3.out wr (H5.out.thenNo hch.out)).1
      obtain ⟨q0, q1, _, _⟩ := obj_two (HB3.out wr (H5.out.thenNo hch.out)).2.1
      generalize scale x ta = La at *
      clear hlt hkl HKa
      go_wp2
      clear p0 p1 q0 q1
      obtain ⟨wo, rfl⟩ : ∃ wo : World, wo = wr := ⟨_, rfl⟩
      go_loopw [10, 58] (fun s10 s40 wr => ∃ (k : Nat) (v : Value), s10 = v ∧ s40 = .int .i64 k ∧ k ≤ tb.length ∧ Hid (Chg No w5 wr) ∧ Hid (OMonos (fun q => w5.heap.size ≤ q) wr v (La ++ scale y (tb.take k)))) (fun _ s40 _ => tb.length - (intOf s40).toNat)
      case atStart => exact ⟨0, _, rfl, rfl, Nat.zero_le _, hch, by rw [List.take_zero, show scale y [] = [] from rfl, List.append_nil]; exact hown⟩
      case round =>
        clear hown hch
        obtain ⟨k, v, rfl, rfl, hkl, hch, hown⟩ := hrel
        by_cases hlt : k < tb.length
        · obtain ⟨b, o, rfl, hx0, hx1⟩ := (HTb.out wr (h3.out.1.thenNo (H5.out.thenNo hch.out))).mono_at k hlt
          have i0 : (0 : Int) ≤ (k : Int) := by omega
          have i1 : (k : Int) < (tb.length : Int) := by omega
          have HST : Hid (La ++ scale y (tb.take (k + 1)) = La ++ scale y (tb.take k) ++ [(tb[k].1, y * tb[k].2)]) := by unfold Hid; rw [scale_take hlt, List.append_assoc]
          obtain ⟨m1, m2⟩ := HKb.out k hlt
          have HVI := Lib.hid ((HTb.out wr (h3.out.1.thenNo (H5.out.thenNo hch.out))).mono_ok k hlt).1
          have hsl2 : (La ++ scale y (tb.take k)).length ≤ 128 := by rw [List.length_append, scale_len, List.length_take]; omega
          generalize La ++ scale y (tb.take k) = L at *
          generalize tb[k].1 = vv at *
          generalize tb[k].2 = kk at *
          have hco : Hid (∀ X, Chg No wr (wr.alloc X)) := fun X => (Chg.refl _ _).alloc X
          have hzr : w5.heap.size ≤ wr.heap.size := hch.out.size
          go_wp2_with (at_builtin; refine wpList_pushLn monoV_good monosTy rfl (.tmp 62) (.tmp 70) rfl (M := fun q => w5.heap.size ≤ q) (fun q hq => by simp at hq; omega) (hown.out.no monoV_good (hco.out _)) rfl (mono_of (m := (vv, y * kk)) HVI.out (I64.of (show -9000000000000000000 ≤ y * kk by omega) (show y * kk ≤ 9000000000000000000 by omega))) (by simp [Value.oneCell']) (by simp) rfl (show (L.length + 1) * 16 ≤ 140737488355328 by omega) ?_; intro A2 cap2 w7 g1 g2; have G1 := Lib.hid g1; have G2 := Lib.hid ((hch.out.thenNo (hco.out _)).trans (S := No) g2 (fun q hq hlt => by have := (hown.out.mine _ hq).1; omega)); clear g1 g2)
          go_roundw
          case rel => exact ⟨k + 1, _, rfl, by go_num, hlt, G2, by rw [HST.out]; exact G1⟩
          case measure => simp [intOf]; omega
        · obtain rfl : k = tb.length := by omega
          rw [List.take_of_length_le (Nat.le_refl _)] at hown
          obtain ⟨A2, cap2, rfl, _⟩ := hown.out.value
          have hW : Hid (Chg No w wr) := h3.out.1.thenNo (H5.out.thenNo hch.out)
          generalize La ++ scale y tb = L2 at *
          have HS := Lib.hid (linSum_any (w := wr) (x * ca + y * cb) (hown.out.monos (by have := HOK.out.1; unfold big; omega)) (by have := HOK.out.1; omega) HOK.out.2.1 HOK.out.2.2)
          obtain ⟨p0, p1, _, _⟩ := obj_two (HB3.out wr (H5.out.thenNo hch.out)).1
          obtain ⟨q0, q1, _, _⟩ := obj_two (HB3.out wr (H5.out.thenNo hch.out)).2.1
          clear HKb
          generalize errV 64 (sumErr (x * ca + y * cb) L2) = E at *
          generalize sumLin (x * ca + y * cb) L2 = r at *
          go_wp2_with (go_at_call 46; refine HS.out.mono ?_; rintro e w8 ⟨A1, cap1, rfl, g8, c8⟩; have G8 := Lib.hid g8; have H8 := Lib.hid (H5.out.thenNo (hch.out.thenNo c8)); obtain ⟨r0, r1, rf0, rf1⟩ := obj_two (HB3.out w8 (H5.out.thenNo (hch.out.thenNo c8))).2.2; clear g8 c8)
          refine bodyPost_ret (v := .tuple #[.agg #[.int .i64 r.1, .slice A1 r.2.length cap1], E]) (by simp [results, Tryd.results33, go_sem, r0, r1]) rfl ⟨A1, cap1, rfl, ?_, hcw.out _ _ _ (h3.out.1.thenNo H8.out)⟩
          have hs1 := hW.out.size
          have hs3 := h3.out.2.2.2.2
          have hs5 := hch.out.size
          exact (G8.out.chg monoE_good (S := fun q => q = w.heap.size + 1 + 1) (((Chg.refl (fun q => q = w.heap.size + 1 + 1) _).setCell _ _ (fun _ => rfl)).setCell _ _ (fun _ => rfl)) (fun q h e => by omega)).mono monoE_good (fun q _ h => by omega)
end Go.Proofs.YtpmndblakmobdaaDoor
