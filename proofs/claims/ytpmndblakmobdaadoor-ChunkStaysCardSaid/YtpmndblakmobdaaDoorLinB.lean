/-
  The reference's Sum: terms together, variable by variable.
-/
import Derived.Test.YtpmndblakmobdaaDoorLin9
import Derived.Test.YtpmndblakmobdaaDoorLin3
namespace Go.Proofs.YtpmndblakmobdaaDoor
open Go Go.RowKit

/-- How far the reference has come: o is what the terms up to the variable 'last' come to. -/
structure RefI (t : List Mono) (last : Int) (o : List Mono) : Prop where
  asc : Asc o
  nz : ∀ m ∈ o, m.2 ≠ 0
  le : ∀ m ∈ o, m.1 ≤ last
  eq : ∀ v, v ≤ last → kAt o v = kAt t v
  len : (o.length : Int) ≤ last + 1
  lo : -1 ≤ last

theorem RefI.start {t : List Mono} (hv : ∀ m ∈ t, 0 ≤ m.1 ∧ m.1 < 1048576) : RefI t (-1) [] :=
  ⟨List.Pairwise.nil, (fun m h => by cases h), (fun m h => by cases h), fun v h => (kAt_none (fun m hm => by have := hv m hm; omega)).symm, by simp, by omega⟩
theorem RefI.done {t o : List Mono} {last : Int} (h : RefI t last o) (hn : ∀ m ∈ t, m.1 ≤ last) : IsNf t o := ⟨h.asc, h.nz, fun v => by
  by_cases hv : v ≤ last
  · exact h.eq v hv
  · rw [kAt_none (fun m hm => by have := h.le m hm; omega), kAt_none (fun m hm => by have := hn m hm; omega)]⟩
theorem RefI.next {t o : List Mono} {last v : Int} (h : RefI t last o) (hl : last < v) (hn : ∀ m ∈ t, last < m.1 → v ≤ m.1) : RefI t v (if kAt t v = 0 then o else o ++ [(v, kAt t v)]) := by
  have hlo := h.lo
  have hlen := h.len
  have hz : ∀ u, last < u → kAt o u = 0 := fun u hu => kAt_none (fun m hm => by have := h.le m hm; omega)
  have hb : ∀ u, last < u → u < v → kAt t u = 0 := fun u h1 h2 => kAt_none (fun m hm e => by have := hn m hm (by omega); omega)
  by_cases h0 : kAt t v = 0
  · rw [if_pos h0]
    refine ⟨h.asc, h.nz, fun m hm => by have := h.le m hm; omega, fun u hu => ?_, by omega, by omega⟩
    by_cases h1 : u ≤ last
    · exact h.eq u h1
    · rw [hz u (by omega)]
      by_cases h2 : u = v
      · rw [h2, h0]
      · exact (hb u (by omega) (by omega)).symm
  · rw [if_neg h0]
    refine ⟨List.pairwise_append.2 ⟨h.asc, List.pairwise_singleton _ _, fun a ha b hb => by simp at hb; subst hb; have := h.le a ha; show a.1 < v; omega⟩, fun m hm => ?_, fun m hm => ?_, fun u hu => ?_, by rw [List.length_append]; simp; omega, by omega⟩
    · rcases List.mem_append.1 hm with hm | hm
      · exact h.nz m hm
      · simp at hm; subst hm; exact h0
    · rcases List.mem_append.1 hm with hm | hm
      · have := h.le m hm; omega
      · simp at hm; subst hm; exact Int.le_refl _
    · rw [kAt_append, kAt_cons, kAt_nil]
      by_cases h1 : u ≤ last
      · rw [h.eq u h1, if_neg (by show ¬ v = u; omega)]; omega
      · rw [hz u (by omega)]
        by_cases h2 : u = v
        · subst h2; rw [if_pos rfl]; omega
        · rw [if_neg (by show ¬ v = u; omega), hb u (by omega) (by omega)]; rfl

/-- The least variable above one, among the first so many. -/
def MinAbove (t : List Mono) (i : Nat) (last u : Int) : Prop := (u = -1 ∧ ∀ m ∈ t.take i, m.1 ≤ last) ∨ (last < u ∧ 0 ≤ u ∧ u < 1048576 ∧ ∀ m ∈ t.take i, last < m.1 → u ≤ m.1)
theorem mem_take_succ {α : Type} {t : List α} {i : Nat} (hi : i < t.length) {m : α} (h : m ∈ t.take (i + 1)) : m ∈ t.take i ∨ m = t[i] := by
  rw [List.take_succ_eq_append_getElem hi] at h
  exact (List.mem_append.1 h).imp id (fun h => by simpa using h)
theorem MinAbove.start (t : List Mono) (last : Int) : MinAbove t 0 last (-1) := .inl ⟨rfl, fun m h => by simp at h⟩
theorem MinAbove.keep {t : List Mono} {i : Nat} {last u : Int} (h : MinAbove t i last u) (hi : i < t.length) (hx : last < t[i].1 → ¬ u < 0 ∧ u ≤ t[i].1) : MinAbove t (i + 1) last u := by
  rcases h with ⟨h1, h2⟩ | ⟨h1, h2, h3, h4⟩
  · refine .inl ⟨h1, fun m hm => ?_⟩
    rcases mem_take_succ hi hm with hm | rfl
    · exact h2 m hm
    · by_cases h : last < t[i].1
      · have := hx h; omega
      · omega
  · refine .inr ⟨h1, h2, h3, fun m hm hl => ?_⟩
    rcases mem_take_succ hi hm with hm | rfl
    · exact h4 m hm hl
    · exact (hx hl).2
theorem MinAbove.take {t : List Mono} {i : Nat} {last u : Int} (h : MinAbove t i last u) (hi : i < t.length) (hr : 0 ≤ t[i].1 ∧ t[i].1 < 1048576) (hx : last < t[i].1) (hu : u < 0 ∨ t[i].1 < u) : MinAbove t (i + 1) last t[i].1 := by
  refine .inr ⟨hx, hr.1, hr.2, fun m hm hl => ?_⟩
  rcases mem_take_succ hi hm with hm | rfl
  · rcases h with ⟨h1, h2⟩ | ⟨h1, h2, h3, h4⟩
    · have := h2 m hm; omega
    · have := h4 m hm hl; omega
  · exact Int.le_refl _

set_option maxRecDepth 100000 in
set_option maxHeartbeats 4000000 in
theorem ref01Sum_any {R : Nat → Prop} {w : World} (c : Int) {A : Option Addr} {t : List Mono} {cap : Nat} (ht : Monos R w A t cap) (hv : ∀ m ∈ t, 0 ≤ m.1 ∧ m.1 < 1048576) (hk : ∀ v, absAt t v ≤ 4611686018427387904) :
    Calls Tryd.prog 36 #[.int .i64 c, .slice A t.length cap] w (LinRet w (sumLin c t) (.int .i64 (sumErr c t))) := by
  have HT := Lib.hid (fun W (h : Chg No w W) => ht.no monoE_good h)
  have HV := Lib.hid hv
  have HK := Lib.hid hk
  have HCc := Lib.hid (fun k W => refCoef_any k W)
  have hb := ht.big
  unfold big at hb
  clear ht hv hk
  have hw3 : Hid (Chg No w ((w.alloc (.cells #[.int .i64 0, .slice none 0 0] 36)).alloc (.cells #[.int .i64 c, .slice none 0 0] 36)) ∧ ((w.alloc (.cells #[.int .i64 0, .slice none 0 0] 36)).alloc (.cells #[.int .i64 c, .slice none 0 0] 36)).heap[w.heap.size]? = some (.cells #[.int .i64 0, .slice none 0 0] 36 (0, 0))
      ∧ ((w.alloc (.cells #[.int .i64 0, .slice none 0 0] 36)).alloc (.cells #[.int .i64 c, .slice none 0 0] 36)).heap[w.heap.size + 1]? = some (.cells #[.int .i64 c, .slice none 0 0] 36 (0, 0)) ∧ ((w.alloc (.cells #[.int .i64 0, .slice none 0 0] 36)).alloc (.cells #[.int .i64 c, .slice none 0 0] 36)).heap.size = w.heap.size + 2) := ⟨((Chg.refl _ _).alloc _).alloc _, at_old (heap_alloc_new _ _), at_new (by simp), by simp⟩
  go_enter Tryd.func36, Tryd.ntmps36
  go_wp2_with (go_at_call 34; refine (HCc.out _ _).mono ?_; rintro e w5 ⟨rfl, rfl⟩)
  generalize (w.alloc (.cells #[.int .i64 0, .slice none 0 0] 36)).alloc (.cells #[.int .i64 c, .slice none 0 0] 36) = w3 at *
  obtain ⟨w4, rfl⟩ : ∃ w4 : World, w4 = w3 := ⟨_, rfl⟩
  generalize hB : w.heap.size + 1 = B at *
  have HB := Lib.hid hB
  clear hB
  go_loopw [7, 8] (fun s7 s8 wr => ∃ (last : Int) (o : List Mono) (v : Value), s7 = .bool (!coefB c || o.any fun m => !coefB m.2) ∧ s8 = .int .i64 last ∧ -1 ≤ last ∧ last < 1048576 ∧ Hid (Chg (fun j => j = B) w4 wr) ∧ Hid (wr.heap[B]? = some (.cells #[.int .i64 c, v] 36 (0, 0))) ∧ Hid (OMonos (fun j => w4.heap.size ≤ j) wr v o) ∧ Hid (RefI t last o)) (fun _ s8 _ => (1048576 - intOf s8).toNat)
  case atStart => exact ⟨-1, [], .slice none 0 0, by simp, rfl, by omega, by omega, Chg.refl _ _, hw3.out.2.2.1, OwnL.nil _ _ _ _ _, RefI.start HV.out⟩
  case round =>
    obtain ⟨last, o, v, rfl, rfl, hl1, hl2, hch, h6, hown, hI⟩ := hrel
    have hchw : Hid (Chg No w wr) := hw3.out.1.trans hch.out (fun q hq hlt => by have := HB.out; omega)
    generalize hfar : (!coefB c || o.any fun m => !coefB m.2) = far at *
    have HF := Lib.hid hfar
    clear hfar
    go_wp2
    obtain ⟨wo, rfl⟩ : ∃ wo : World, wo = wr := ⟨_, rfl⟩
    go_loop [9, 10] (fun s9 s10 => ∃ (i : Nat) (u : Int), s9 = .int .i64 u ∧ s10 = .int .i64 i ∧ i ≤ t.length ∧ Hid (MinAbove t i last u)) (fun _ s10 => t.length - (intOf s10).toNat)
    case atStart => exact ⟨0, -1, rfl, rfl, Nat.zero_le _, MinAbove.start _ _⟩
    case round =>
      obtain ⟨i, u, rfl, rfl, hil, hM⟩ := hrel
      by_cases hlt : i < t.length
      · obtain ⟨b, off, rfl, hx0, hx1⟩ := (HT.out wo hchw.out).mono_at i hlt
        have i0 : (0 : Int) ≤ (i : Int) := by omega
        have i1 : (i : Int) < (t.length : Int) := by omega
        have Hk := Lib.hid (hM.out.keep hlt)
        have Ht := Lib.hid (hM.out.take hlt (HV.out _ (List.getElem_mem hlt)))
        generalize t[i].1 = x at *
        clear hM hx1
        by_cases h1 : last < x
        · have d1 : decide (last < x) = true := decide_eq_true h1
          by_cases h2 : u < 0
          · have d2 : decide (u < 0) = true := decide_eq_true h2
            have HN := Lib.hid (Ht.out h1 (.inl h2))
            clear h1 h2
            go_wp2
            go_round
            case rel => exact ⟨i + 1, x, rfl, by go_num, hlt, HN⟩
            case measure => simp [intOf]; omega
          · have d2 : decide (u < 0) = false := decide_eq_false h2
            by_cases h3 : x < u
            · have d3 : decide (x < u) = true := decide_eq_true h3
              have HN := Lib.hid (Ht.out h1 (.inr h3))
              clear h1 h2 h3
              go_wp2
              go_round
              case rel => exact ⟨i + 1, x, rfl, by go_num, hlt, HN⟩
              case measure => simp [intOf]; omega
            · have d3 : decide (x < u) = false := decide_eq_false h3
              have HN := Lib.hid (Hk.out (fun _ => ⟨h2, by omega⟩))
              clear h1 h2 h3
              go_wp2
              go_round
              case rel => exact ⟨i + 1, u, rfl, by go_num, hlt, HN⟩
              case measure => simp [intOf]; omega
        · have d1 : decide (last < x) = false := decide_eq_false h1
          have HN := Lib.hid (Hk.out (fun h => absurd h h1))
          clear h1
          go_wp2
          go_round
          case rel => exact ⟨i + 1, u, rfl, by go_num, hlt, HN⟩
          case measure => simp [intOf]; omega
      · obtain rfl : i = t.length := by omega
        have hMe : MinAbove t t.length last u := hM.out
        unfold MinAbove at hMe
        rw [List.take_of_length_le (Nat.le_refl _)] at hMe
        rcases hMe with ⟨rfl, hn⟩ | ⟨hu1, hu2, hu3, hn⟩
        · have HNf : Hid (nf t = o) := nf_eq (hI.out.done hn)
          have e1 := sumErr_eq c HNf.out
          have hBw : w.heap.size ≠ B := by have := HB.out; omega
          have hlen := hI.out.len
          obtain ⟨A2, cap2, rfl, _⟩ := hown.out.value
          have HM := Lib.hid (hown.out.monos (by unfold big; omega))
          obtain ⟨hb0, hb1, hbf0, hbf1⟩ := obj_two h6.out
          obtain ⟨hr0, hr1, hrf0, hrf1⟩ := obj_two (hch.out.obj hw3.out.2.1 hBw)
          have hbad : ∀ n : Int, n ≠ 0 → sumErr c t = n → Hid (∀ w', Chg No w w' → LinRet w (sumLin c t) (.int .i64 (sumErr c t)) (.returned (.tuple #[.agg #[.int .i64 0, .slice none 0 0], .int .i64 n])) w') := fun n hn he w' hw' => by
            unfold sumLin
            rw [he, if_neg hn]
            exact LinRet.none hw'
          have hgood : sumErr c t = 0 → Hid (∀ w', Chg (fun q => q = w.heap.size) wo w' → Chg No w w' → LinRet w (sumLin c t) (.int .i64 (sumErr c t)) (.returned (.tuple #[.agg #[.int .i64 c, .slice A2 o.length cap2], .int .i64 0])) w') := fun he w' hw1 hw2 => by
            unfold sumLin
            rw [he, if_pos rfl, HNf.out]
            exact ⟨A2, cap2, rfl, (HM.out.chg monoE_good hw1 (fun q h e => by have := hw3.out.2.2.2; omega)).mono monoE_good (fun q _ h => by have := hw3.out.2.2.2; omega), hw2⟩
          have hcw2 : Hid (∀ x y, Chg No w ((wo.setCell ⟨w.heap.size, 0, none⟩ x).setCell ⟨w.heap.size, 1, none⟩ y)) := fun x y => (hchw.out.setCell _ _ (fun h => absurd h (Nat.lt_irrefl _))).setCell _ _ (fun h => absurd h (Nat.lt_irrefl _))
          cases far
          · have hf := HF.out
            rw [Bool.or_eq_false_iff, Bool.not_eq_false'] at hf
            rw [hf.1, hf.2, if_pos rfl, if_neg (by decide)] at e1
            by_cases hlo : 64 < o.length
            · have HP := hbad 2 (by decide) (by rw [e1, if_pos hlo])
              have hd : decide ((64 : Int) < (o.length : Int)) = true := decide_eq_true (by omega)
              clear e1 hbad hgood hn hM hf
              go_wp2
              exact bodyPost_ret (v := .tuple #[.agg #[.int .i64 0, .slice none 0 0], .int .i64 2]) (by simp [results, Tryd.results36, go_sem, hr0, hr1]) rfl (HP.out _ (hcw2.out _ _))
            · have HP := hgood (by rw [e1, if_neg hlo])
              have hd : decide ((64 : Int) < (o.length : Int)) = false := decide_eq_false (by omega)
              clear e1 hbad hgood hn hM hf
              go_wp2
              exact bodyPost_ret (v := .tuple #[.agg #[.int .i64 c, .slice A2 o.length cap2], .int .i64 0]) (by simp [results, Tryd.results36, go_sem, hr0, hr1]) rfl (HP.out _ (((Chg.refl (fun q => q = w.heap.size) _).setCell _ _ (fun _ => rfl)).setCell _ _ (fun _ => rfl)) (hcw2.out _ _))
          · have HP := hbad 3 (by decide) (by
              rw [e1]
              have hf := HF.out
              cases hc : coefB c
              · rfl
              · rw [hc] at hf
                rw [if_pos rfl, if_pos (by simpa using hf)])
            clear e1 hbad hgood hn hM
            go_wp2
            exact bodyPost_ret (v := .tuple #[.agg #[.int .i64 0, .slice none 0 0], .int .i64 3]) (by simp [results, Tryd.results36, go_sem, hr0, hr1]) rfl (HP.out _ (hcw2.out _ _))
        · have HN := Lib.hid (hI.out.next hu1 hn)
          have d1 : decide (u < 0) = false := decide_eq_false (by omega)
          have hol : (o.length : Int) ≤ last + 1 := hI.out.len
          have hab := HK.out u
          have HKb : Hid (∀ i, -4611686018427387904 ≤ kAt (t.take i) u ∧ kAt (t.take i) u ≤ 4611686018427387904) := fun i => by have := kAt_take_abs t i u; omega
          clear hn hM hI hlt hil hab
          go_wp2
          obtain ⟨wp, rfl⟩ : ∃ wp : World, wp = wo := ⟨_, rfl⟩
          go_loop [11, 12] (fun s11 s12 => ∃ (i : Nat) (K : Int), s11 = .int .i64 K ∧ s12 = .int .i64 i ∧ i ≤ t.length ∧ Hid (K = kAt (t.take i) u)) (fun _ s12 => t.length - (intOf s12).toNat)
          case atStart => exact ⟨0, 0, rfl, rfl, Nat.zero_le _, rfl⟩
          case round =>
            obtain ⟨i, K, rfl, rfl, hil, hK⟩ := hrel
            by_cases hlt : i < t.length
            · obtain ⟨b, off, rfl, hx0, hx1⟩ := (HT.out wp hchw.out).mono_at i hlt
              have i0 : (0 : Int) ≤ (i : Int) := by omega
              have i1 : (i : Int) < (t.length : Int) := by omega
              have hT2 := kAt_take hlt u
              have hb2 := HKb.out (i + 1)
              have hb1 := HKb.out i
              rw [← hK.out] at hT2 hb1
              rw [hT2] at hb2
              have HT2 := Lib.hid hT2
              generalize t[i].1 = x at *
              generalize t[i].2 = kx at *
              obtain ⟨q1, q2⟩ := hb1
              clear hT2
              by_cases hx : x = u
              · subst hx
                rw [if_pos rfl] at hb2 HT2
                obtain ⟨q3, q4⟩ := hb2
                have d2 : (x == x) = true := by simp
                go_wp2
                go_round
                case rel => exact ⟨i + 1, K + kx, by go_num, by go_num, hlt, HT2.out.symm⟩
                case measure => simp [intOf]; omega
              · have d2 : (x == u) = false := by simpa using hx
                rw [if_neg hx, Int.add_zero] at HT2
                clear hb2 hx
                go_wp2
                go_round
                case rel => exact ⟨i + 1, K, rfl, by go_num, hlt, HT2.out.symm⟩
                case measure => simp [intOf]; omega
            · obtain rfl : i = t.length := by omega
              rw [List.take_of_length_le (Nat.le_refl _)] at hK
              have hb1 := HKb.out t.length
              rw [List.take_of_length_le (Nat.le_refl _), ← hK.out] at hb1
              rw [← hK.out] at HN
              obtain ⟨q1, q2⟩ := hb1
              obtain ⟨hb0, hb1, hbf0, hbf1⟩ := obj_two h6.out
              clear hK HKb hlt hil
              by_cases hK0 : K = 0
              · subst hK0
                rw [if_pos rfl] at HN
                have d3 : ((0 : Int) != 0) = false := by decide
                have HC0 := Lib.hid (fun W => HCc.out 0 W)
                rw [show coefB 0 = true by decide] at HC0
                go_wp2_with (go_at_call 34; refine (HC0.out _).mono ?_; rintro e w5 ⟨rfl, rfl⟩)
                go_roundw
                case rel => exact ⟨u, o, v, by rw [HF.out], rfl, by omega, hu3, hch, h6, hown, HN⟩
                case measure => simp [intOf]; omega
              · have d3 : (K != 0) = true := by simpa using hK0
                rw [if_neg hK0] at HN
                have hMM : Hid (∀ q, wp.heap.size ≤ q → w4.heap.size ≤ q) := fun q hq => by have := hch.out.size; omega
                have hB4 : B < w4.heap.size := by have := hw3.out.2.2.2; have := HB.out; omega
                have HC0 := Lib.hid (fun W => HCc.out K W)
                have HF2 : Hid ((!coefB c || (o ++ [(u, K)]).any fun m => !coefB m.2) = (far || !coefB K)) := by
                  unfold Hid
                  rw [List.any_append, ← HF.out]
                  simp [Bool.or_assoc]
                generalize coefB K = ck at *
                clear hK0
                cases ck
                all_goals
                  go_wp2_with (first | (at_builtin; refine wpList_pushL monoV_good monosTy rfl (.tmp 74) (.tmp 78) rfl hMM.out hown.out rfl (mono_of (m := (u, K)) (I64.of (show -9000000000000000000 ≤ u by omega) (show u ≤ 9000000000000000000 by omega)) (I64.of (show -9000000000000000000 ≤ K by omega) (show K ≤ 9000000000000000000 by omega))) (by simp [Value.oneCell']) rfl (show (o.length + 1) * 16 ≤ 140737488355328 by omega) ?_; intro A' cap' w5 g1 g2; have G1 := Lib.hid (g2.obj h6.out (fun e => by have := (hown.out.mine _ e).1; omega)); have G2 := Lib.hid g1; have G3 := Lib.hid (hch.out.trans g2 (fun q hq hlt => by have := (hown.out.mine _ hq).1; omega)); clear g1 g2; obtain ⟨gb0, gb1, gbf0, gbf1⟩ := obj_two G1.out) | (go_at_call 34; refine (HC0.out _).mono ?_; rintro e w6 ⟨rfl, rfl⟩))
                  go_roundw
                  case rel => exact ⟨u, o ++ [(u, K)], .slice A' (o.length + 1) cap', by rw [HF2.out]; simp, rfl, by omega, hu3, G3.out.setCell _ _ (fun _ => rfl), by unfold Hid; have := obj_set (j := 1) (.slice A' (o.length + 1) cap') G1.out; simpa using this, G2.out.chg monoV_good ((Chg.refl (fun q => q = B) _).setCell _ _ (fun _ => rfl)) (fun q hq e => by have := (G2.out.mine q hq).1; omega) (fun _ f _ => f.elim), HN⟩
                  case measure => simp [intOf]; omega
end Go.Proofs.YtpmndblakmobdaaDoor
