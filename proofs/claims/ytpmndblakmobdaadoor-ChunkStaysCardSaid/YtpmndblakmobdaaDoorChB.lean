/-
  A form so many times; a form, and another one so many times (plain); chunk.sum, chunk.scaled.
-/
import Derived.Test.YtpmndblakmobdaaDoorLinG
import Derived.Test.YtpmndblakmobdaaDoorShE
import Derived.Deep.CutBlock
namespace Go.Proofs.YtpmndblakmobdaaDoor
open Go Go.RowKit

/-- Multiples that are sound come to a sound form. -/
theorem add_sound {a b : Lin} {x y : Int} (h1 : addErr a b x y = 0) : linB (addLin a b x y).1 (addLin a b x y).2 = true := by
  have hA : linB a.1 a.2 = true := by
    cases h : linB a.1 a.2
    · rw [addErr, h] at h1; simp at h1
    · rfl
  have hB : linB b.1 b.2 = true := by
    cases h : linB b.1 b.2
    · rw [addErr, h] at h1; simp at h1
    · rfl
  have hT : (timesB x && timesB y) = true := by
    cases h : (timesB x && timesB y)
    · rw [addErr, hA, hB, h] at h1; simp at h1
    · rfl
  have e1 : addErr a b x y = sumErr (x * a.1 + y * b.1) (scale x a.2 ++ scale y b.2) := by unfold addErr; rw [hA, hB, hT]; rfl
  have e2 : addLin a b x y = sumLin (x * a.1 + y * b.1) (scale x a.2 ++ scale y b.2) := by unfold addLin; rw [hA, hB, hT]; rfl
  rw [e1] at h1
  have e3 : addLin a b x y = (x * a.1 + y * b.1, nf (scale x a.2 ++ scale y b.2)) := by rw [e2, sumLin, if_pos h1]
  have hvar : ∀ (x : Int) (t : List Mono) (m : Mono), m ∈ scale x t → ∃ q ∈ t, q.1 = m.1 := fun x t m hm => by
    unfold scale at hm
    obtain ⟨q, hq, rfl⟩ := List.mem_map.1 hm
    exact ⟨q, hq, rfl⟩
  have hvarB : ∀ {c : Int} {t : List Mono}, linB c t = true → ∀ m ∈ t, varB m.1 = true := fun h m hm => by
    obtain ⟨i, hi, rfl⟩ := List.getElem_of_mem hm
    exact ((linB_sound h).2.2 i hi).1
  rw [e3]
  unfold sumErr at h1
  by_cases hc : (coefB (x * a.1 + y * b.1) && (nf (scale x a.2 ++ scale y b.2)).all fun m => coefB m.2) = true
  · rw [if_pos hc] at h1
    by_cases hl : (nf (scale x a.2 ++ scale y b.2)).length ≤ 64
    · rw [Bool.and_eq_true] at hc
      refine linB_nf hc.1 hl hc.2 fun m hm => ?_
      rcases List.mem_append.1 hm with hm | hm
      · obtain ⟨q, hq, e⟩ := hvar _ _ m hm
        rw [← e]; exact hvarB hA q hq
      · obtain ⟨q, hq, e⟩ := hvar _ _ m hm
        rw [← e]; exact hvarB hB q hq
    · rw [if_neg hl] at h1; simp at h1
  · rw [if_neg hc] at h1; simp at h1

noncomputable def sumO (a b : Lin) (n : Int) : Option Lin := if addErr a b 1 n = 0 then some (addLin a b 1 n) else none
def sclLin (n : Int) (l : Lin) : Lin := (n * l.1, if n = 0 then [] else scale n l.2)
def sclO (n : Int) (l : Lin) : Option Lin := if linB (sclLin n l).1 (sclLin n l).2 = true then some (sclLin n l) else none
def optL (o : Option Lin) : Lin := o.getD (0, [])
def optE {α : Type} (o : Option α) : Int := if o.isSome = true then 0 else 3
theorem sumO_sound {a b : Lin} {n : Int} {r : Lin} (h : sumO a b n = some r) : linB r.1 r.2 = true := by
  unfold sumO at h
  split at h
  · rename_i h1
    injection h with h; subst h
    exact add_sound h1
  · cases h
theorem sclO_sound {l : Lin} {n : Int} {r : Lin} (h : sclO n l = some r) : linB r.1 r.2 = true := by
  unfold sclO at h
  split at h
  · injection h with h; subst h; assumption
  · cases h
theorem obj_2 {w : World} {b : Nat} {x y : Value} {t : TypeId} (h : w.heap[b]? = some (.cells #[x, y] t (0, 0))) :
    w.cell? ⟨b, 0, none⟩ = some x ∧ w.cell? ⟨b, 1, none⟩ = some y ∧ w.frozen? ⟨b, 0, none⟩ = false ∧ w.frozen? ⟨b, 1, none⟩ = false := obj_two h

set_option maxRecDepth 100000 in
set_option maxHeartbeats 4000000 in
theorem csum_any {R R' : Nat → Prop} {w : World} (a b : Lin) {A A' : Option Addr} {cap cap' : Nat} (ht : Monos R w A a.2 cap) (ht' : Monos R' w A' b.2 cap') (n : Int) :
    Calls Tryd.prog 25 #[.agg #[.int .i64 a.1, .slice A a.2.length cap], .agg #[.int .i64 b.1, .slice A' b.2.length cap'], .int .i64 n] w (LinRet w (optL (sumO a b n)) (errV 64 (optE (sumO a b n)))) := by
  have HAD := Lib.hid (fun W (hW : Chg No w W) => linAdd_any (w := W) a b (ht.no monoE_good hW) (ht'.no monoE_good hW) 1 n)
  have hs : (addErr a b 1 n = 0 ∧ sumO a b n = some (addLin a b 1 n)) ∨ (addErr a b 1 n ≠ 0 ∧ sumO a b n = none) := by
    unfold sumO
    by_cases h : addErr a b 1 n = 0
    · exact .inl ⟨h, by rw [if_pos h]⟩
    · exact .inr ⟨h, by rw [if_neg h]⟩
  clear ht ht'
  generalize sumO a b n = so at *
  generalize addLin a b 1 n = r at *
  generalize addErr a b 1 n = er at *
  obtain ⟨ca, ta⟩ := a
  obtain ⟨cb, tb⟩ := b
  simp only at HAD ⊢
  generalize ta.length = la at *
  generalize tb.length = lb at *
  obtain ⟨w3, hw3⟩ : ∃ w3, w3 = ((w.alloc (.cells #[.int .i64 ca, .slice A la cap] 36)).alloc (.cells #[.int .i64 cb, .slice A' lb cap'] 36)).alloc (.cells #[.int .i64 0, .slice none 0 0] 36) := ⟨_, rfl⟩
  have h3 : Hid (Chg No w w3 ∧ w3.heap[w.heap.size]? = some (.cells #[.int .i64 ca, .slice A la cap] 36 (0, 0)) ∧ w3.heap[w.heap.size + 1]? = some (.cells #[.int .i64 cb, .slice A' lb cap'] 36 (0, 0)) ∧ w3.heap[w.heap.size + 1 + 1]? = some (.cells #[.int .i64 0, .slice none 0 0] 36 (0, 0)) ∧ w3.heap.size = w.heap.size + 1 + 1 + 1) := by
    rw [hw3]
    exact ⟨(((Chg.refl _ _).alloc _).alloc _).alloc _, at_old (at_old (heap_alloc_new _ _)), at_old (at_new (by simp)), at_new (by simp), by simp⟩
  have hcw : Hid (∀ W u v, Chg No w W → Chg No w ((W.setCell ⟨w.heap.size + 1 + 1, 0, none⟩ u).setCell ⟨w.heap.size + 1 + 1, 1, none⟩ v)) := fun W u v h => (h.setCell _ _ (fun h => absurd h (by simp; omega))).setCell _ _ (fun h => absurd h (by simp; omega))
  obtain ⟨p0, p1, _, _⟩ := obj_2 h3.out.2.1
  obtain ⟨q0, q1, _, _⟩ := obj_2 h3.out.2.2.1
  rcases hs with ⟨rfl, rfl⟩ | ⟨he, rfl⟩
  · rw [errV_zero] at HAD
    rw [show optE (some r) = 0 from rfl, show optL (some r) = r from rfl, errV_zero]
    go_enter Tryd.func25, Tryd.ntmps25
    go_upto_region 1 with fail
    rw [← hw3]
    clear hw3
    go_upto_region 2 with (go_at_call 33; refine (HAD.out _ h3.out.1).mono ?_; rintro e w4 ⟨A1, cap1, rfl, g4, h4⟩; have G4 := Lib.hid g4; have H4 := Lib.hid h4; clear g4 h4)
    obtain ⟨w5, hw5⟩ : ∃ w5, w5 = w4.alloc (.cells #[.int .i64 r.1, .slice A1 r.2.length cap1] 36) := ⟨_, rfl⟩
    rw [← hw5]
    have h5 : Hid (Chg No w3 w5 ∧ w5.heap[w4.heap.size]? = some (.cells #[.int .i64 r.1, .slice A1 r.2.length cap1] 36 (0, 0)) ∧ Monos (fun k => w3.heap.size ≤ k) w5 A1 r.2 cap1) := by
      rw [hw5]; exact ⟨H4.out.alloc _, heap_alloc_new _ _, G4.out.no monoE_good ((Chg.refl _ _).alloc _)⟩
    clear hw5 p0 p1 q0 q1
    obtain ⟨s0, s1, _, _⟩ := obj_2 h5.out.2.1
    obtain ⟨r0, r1, rf0, rf1⟩ := obj_2 (h5.out.1.obj h3.out.2.2.2.1 id)
    go_wp2_with fail
    refine bodyPost_ret (v := .tuple #[.agg #[.int .i64 r.1, .slice A1 r.2.length cap1], .nilIface]) (by simp [results, Tryd.results25, go_sem, r0, r1]) rfl ⟨A1, cap1, rfl, ?_, hcw.out _ _ _ (h3.out.1.thenNo h5.out.1)⟩
    have hs3 := h3.out.2.2.2.2
    exact (h5.out.2.2.chg monoE_good (S := fun q => q = w.heap.size + 1 + 1) (((Chg.refl (fun q => q = w.heap.size + 1 + 1) _).setCell _ _ (fun _ => rfl)).setCell _ _ (fun _ => rfl)) (fun q h e => by omega)).mono monoE_good (fun q _ h => by omega)
  · rw [errV_of _ he] at HAD
    rw [show optE (none : Option Lin) = 3 from rfl, show optL none = (0, []) from rfl, errV_of _ (by decide)]
    go_enter Tryd.func25, Tryd.ntmps25
    go_upto_region 1 with fail
    rw [← hw3]
    clear hw3
    go_upto_region 2 with (go_at_call 33; refine (HAD.out _ h3.out.1).mono ?_; rintro e w4 ⟨A1, cap1, rfl, g4, h4⟩; have H4 := Lib.hid h4; clear g4 h4)
    obtain ⟨w5, hw5⟩ : ∃ w5, w5 = w4.alloc (.cells #[.int .i64 r.1, .slice A1 r.2.length cap1] 36) := ⟨_, rfl⟩
    rw [← hw5]
    have h5 : Hid (Chg No w3 w5) := by
      rw [hw5]; exact H4.out.alloc _
    clear hw5 p0 p1 q0 q1
    obtain ⟨r0, r1, rf0, rf1⟩ := obj_2 (h5.out.obj h3.out.2.2.2.1 id)
    go_wp2_with fail
    exact bodyPost_ret (v := .tuple #[.agg #[.int .i64 0, .slice none 0 0], .iface 64 (.int .i64 3)]) (by simp [results, Tryd.results25, go_sem, r0, r1]) rfl (LinRet.none (hcw.out _ _ _ (h3.out.1.thenNo h5.out)))

theorem mulN {n k : Int} (h1 : -1073741824 ≤ n) (h2 : n ≤ 1073741824) (h3 : -1073741824 ≤ k) (h4 : k ≤ 1073741824) : -1152921504606846976 ≤ n * k ∧ n * k ≤ 1152921504606846976 := by
  have h : (n * k).natAbs ≤ 1073741824 * 1073741824 := by
    rw [Int.natAbs_mul]
    exact Nat.mul_le_mul (by omega) (by omega)
  omega
theorem objset2 {w : World} {b j : Nat} {cs : Array Value} {t : TypeId} (u : Value) (h : w.heap[b]? = some (.cells cs t (0, 0))) : (w.setCell ⟨b, j, none⟩ u).heap[b]? = some (.cells (cs.setIfInBounds j u) t (0, 0)) := by
  simp [World.setCell, Array.getElem?_modify, h]
theorem chgpast2 {S : Nat → Prop} {w w1 w2 : World} (h : Chg No w w1) (g : Chg S w1 w2) (hS : ∀ k, S k → w.heap.size ≤ k) : Chg No w w2 :=
  h.trans g (fun k hk hlt => by have := hS k hk; omega)
def sclT (n : Int) (t : List Mono) : List Mono := if n = 0 then [] else scale n t
theorem sclT_len (n : Int) (t : List Mono) : (sclT n t).length ≤ t.length := by
  unfold sclT
  split
  · simp
  · rw [scale_len]; exact Nat.le_refl _

set_option maxRecDepth 100000 in
set_option maxHeartbeats 4000000 in
theorem cscaled_any {R : Nat → Prop} {w : World} (l : Lin) {A : Option Addr} {cap : Nat} (ht : Monos R w A l.2 cap) (hB : linB l.1 l.2 = true) (n : Int) (hn1 : -1073741824 ≤ n) (hn2 : n ≤ 1073741824) :
    Calls Tryd.prog 44 #[.agg #[.int .i64 l.1, .slice A l.2.length cap], .int .i64 n] w (LinRet w (optL (sclO n l)) (errV 64 (optE (sclO n l)))) := by
  obtain ⟨hcB, hl64, hall⟩ := linB_sound hB
  have HT := Lib.hid (fun W (h : Chg No w W) => ht.no monoE_good h)
  have HK : Hid (∀ i (h : i < l.2.length), -1152921504606846976 ≤ n * l.2[i].2 ∧ n * l.2[i].2 ≤ 1152921504606846976) := fun i h => mulN hn1 hn2 (coefB_le (hall i h).2.1).1 (coefB_le (hall i h).2.1).2
  obtain ⟨c1, c2⟩ := mulN hn1 hn2 (coefB_le hcB).1 (coefB_le hcB).2
  have hso : (linB (n * l.1) (sclT n l.2) = true ∧ sclO n l = some (n * l.1, sclT n l.2)) ∨ (linB (n * l.1) (sclT n l.2) = false ∧ sclO n l = none) := by
    unfold sclO sclLin
    show (linB (n * l.1) (sclT n l.2) = true ∧ (if linB (n * l.1) (sclT n l.2) = true then some (n * l.1, sclT n l.2) else none) = _) ∨ (_ ∧ (if linB (n * l.1) (sclT n l.2) = true then some (n * l.1, sclT n l.2) else none) = _)
    cases linB (n * l.1) (sclT n l.2) <;> simp
  generalize sclO n l = so at *
  obtain ⟨c, t⟩ := l
  simp only at HT HK hso hl64 c1 c2 ⊢
  clear ht hall hcB hB
  obtain ⟨w3, hw3⟩ : ∃ w3, w3 = ((w.alloc (.cells #[.int .i64 c, .slice A t.length cap] 36)).alloc (.cells #[.int .i64 0, .slice none 0 0] 36)).alloc (.cells #[.int .i64 (n * c), .slice none 0 0] 36) := ⟨_, rfl⟩
  obtain ⟨bo, hbo⟩ : ∃ bo, bo = w.heap.size + 1 + 1 := ⟨_, rfl⟩
  have h3 : Hid (Chg No w w3 ∧ w3.heap[w.heap.size]? = some (.cells #[.int .i64 c, .slice A t.length cap] 36 (0, 0)) ∧ w3.heap[w.heap.size + 1]? = some (.cells #[.int .i64 0, .slice none 0 0] 36 (0, 0)) ∧ w3.heap[bo]? = some (.cells #[.int .i64 (n * c), .slice none 0 0] 36 (0, 0)) ∧ w3.heap.size = bo + 1 ∧ w.heap.size + 1 < bo) := by
    rw [hw3, hbo]
    exact ⟨(((Chg.refl _ _).alloc _).alloc _).alloc _, at_old (at_old (heap_alloc_new _ _)), at_old (at_new (by simp)), at_new (by simp), by simp, by omega⟩
  obtain ⟨ansL, hansL⟩ : ∃ ansL, ansL = optL so := ⟨_, rfl⟩
  obtain ⟨ansE, hansE⟩ : ∃ ansE, ansE = errV 64 (optE so) := ⟨_, rfl⟩
  rw [← hansL, ← hansE]
  have HAN : Hid ((linB (n * c) (sclT n t) = true ∧ ansL = (n * c, sclT n t) ∧ ansE = .nilIface) ∨ (linB (n * c) (sclT n t) = false ∧ ansL = (0, []) ∧ ansE = .iface 64 (.int .i64 3))) := by
    rw [hansL, hansE]
    rcases hso with ⟨g1, rfl⟩ | ⟨g1, rfl⟩
    · exact .inl ⟨g1, rfl, errV_zero _⟩
    · exact .inr ⟨g1, rfl, errV_of _ (by decide)⟩
  clear hansL hansE hso
  go_enter Tryd.func44, Tryd.ntmps44
  go_upto_region 2 with fail
  rw [← hw3]
  rw [← hbo]
  clear hw3 hbo
  obtain ⟨p0, p1, _, _⟩ := obj_2 h3.out.2.1
  go_wp2_with fail
  clear p0 p1
  have hz3 : w3.heap.size = bo + 1 := h3.out.2.2.2.2.1
  have HZ3 := Lib.hid hz3
  clear hz3
  go_loopw [17] (fun s17 wr => ∃ (i : Nat) (vT : Value), s17 = .int .i64 i ∧ i ≤ t.length ∧ Hid (wr.heap[bo]? = some (.cells #[.int .i64 (n * c), vT] 36 (0, 0)) ∧ OwnL monoV 55 (fun q => w3.heap.size ≤ q) No wr vT (sclT n (t.take i)) ∧ Chg No w wr ∧ w3.heap.size ≤ wr.heap.size ∧ wr.heap[w.heap.size + 1]? = some (.cells #[.int .i64 0, .slice none 0 0] 36 (0, 0)))) (fun s17 _ => t.length - (intOf s17).toNat)
  case atStart => exact ⟨0, _, rfl, Nat.zero_le _, h3.out.2.2.2.1, by rw [List.take_zero, show sclT n [] = [] by unfold sclT; split <;> rfl]; exact OwnL.nil _ _ _ _ _, h3.out.1, Nat.le_refl _, h3.out.2.2.1⟩
  case round =>
    obtain ⟨i, vT, rfl, gi, hst⟩ := hrel
    obtain ⟨m0, m1, _, _⟩ := obj_2 hst.out.1
    by_cases hlt : i < t.length
    · obtain ⟨b, o, rfl, hx0, hx1⟩ := (HT.out wr hst.out.2.2.1).mono_at i hlt
      have i0 : (0 : Int) ≤ (i : Int) := by omega
      have i1 : (i : Int) < (t.length : Int) := by omega
      obtain ⟨d1, d2⟩ := HK.out i hlt
      have HKI := Lib.hid ((HT.out wr hst.out.2.2.1).mono_ok i hlt).1
      by_cases hn : n = 0
      · have hnn : (n != 0) = false := neF hn
        have HT2 : Hid (sclT n (t.take (i + 1)) = sclT n (t.take i)) := by unfold Hid sclT; rw [if_pos hn, if_pos hn]
        have HN := Lib.hid hn
        clear hn
        have HST : Hid (∀ W, Chg No wr W → W.heap[bo]? = some (.cells #[.int .i64 (n * c), vT] 36 (0, 0)) ∧ OwnL monoV 55 (fun q => w3.heap.size ≤ q) No W vT (sclT n (t.take (i + 1))) ∧ Chg No w W ∧ w3.heap.size ≤ W.heap.size ∧ W.heap[w.heap.size + 1]? = some (.cells #[.int .i64 0, .slice none 0 0] 36 (0, 0))) := fun W hW => by
          obtain ⟨a1, a2, a3, a4, a5⟩ := hst.out
          rw [HT2.out]
          exact ⟨hW.obj a1 id, a2.no monoV_good hW, a3.thenNo hW, Nat.le_trans a4 hW.size, hW.obj a5 id⟩
        generalize t[i].1 = vv at *
        generalize t[i].2 = kk at *
        clear hst HT2
        go_wp2_with fail
        go_roundw
        case rel => exact ⟨i + 1, _, by go_num, hlt, HST.out _ ((Chg.refl No wr).alloc _)⟩
        case measure => simp [intOf]; omega
      · have hnn : (n != 0) = true := neT hn
        have HTK : Hid (sclT n (t.take (i + 1)) = sclT n (t.take i) ++ [(t[i].1, n * t[i].2)]) := by unfold Hid sclT; rw [if_neg hn, if_neg hn, scale_take hlt]
        have hTl : (sclT n (t.take i)).length ≤ 64 := by have := sclT_len n (t.take i); rw [List.length_take] at this; omega
        generalize t[i].1 = vv at *
        generalize t[i].2 = kk at *
        generalize hT' : sclT n (t.take (i + 1)) = T' at *
        have HT' := Lib.hid hT'
        clear hT'
        generalize sclT n (t.take i) = T at *
        have x0 := ((Chg.refl No wr).alloc (.cells #[.int .i64 vv, .int .i64 kk] 55)).cell m1 id
        have x1 := ((Chg.refl No (wr.alloc (.cells #[.int .i64 vv, .int .i64 kk] 55))).alloc (.cells #[.int .i64 vv, .int .i64 (n * kk)] 55)).cell x0 id
        have HG : Hid (∀ w7 A2 cap2, OwnL monoV 55 (fun q => w3.heap.size ≤ q) No w7 (.slice A2 (T.length + 1) cap2) (T ++ [(vv, n * kk)]) → Chg (fun q => vT.ownBlock = some q) (wr.alloc (.cells #[.int .i64 vv, .int .i64 kk] 55)) w7 →
            (w7.cell? ⟨bo, 1, none⟩ = some vT ∧ w7.frozen? ⟨bo, 1, none⟩ = false) ∧ Hid ((w7.setCell ⟨bo, 1, none⟩ (.slice A2 (T.length + 1) cap2)).heap[bo]? = some (.cells #[.int .i64 (n * c), .slice A2 (T.length + 1) cap2] 36 (0, 0)) ∧
              OwnL monoV 55 (fun q => w3.heap.size ≤ q) No (w7.setCell ⟨bo, 1, none⟩ (.slice A2 (T.length + 1) cap2)) (.slice A2 (T.length + 1) cap2) T' ∧ Chg No w (w7.setCell ⟨bo, 1, none⟩ (.slice A2 (T.length + 1) cap2)) ∧ w3.heap.size ≤ (w7.setCell ⟨bo, 1, none⟩ (.slice A2 (T.length + 1) cap2)).heap.size ∧ (w7.setCell ⟨bo, 1, none⟩ (.slice A2 (T.length + 1) cap2)).heap[w.heap.size + 1]? = some (.cells #[.int .i64 0, .slice none 0 0] 36 (0, 0)))) := fun w7 A2 cap2 g1 g2 => by
          obtain ⟨a1, a2, a3, a4, a5⟩ := hst.out
          have hz := HZ3.out
          have hbb := h3.out.2.2.2.2.2
          have hmine : ∀ q, vT.ownBlock = some q → w3.heap.size ≤ q := fun q hq => (a2.mine q hq).1
          have ha : Chg No wr (wr.alloc (.cells #[.int .i64 vv, .int .i64 kk] 55)) := (Chg.refl _ _).alloc _
          have o7 := g2.obj (ha.obj a1 id) (fun e => by have := hmine _ e; omega)
          have o8 := g2.obj (ha.obj a5 id) (fun e => by have := hmine _ e; omega)
          have hs := (Chg.refl (fun q => q = bo) w7).setCell ⟨bo, 1, none⟩ (.slice A2 (T.length + 1) cap2) (fun _ => rfl)
          obtain ⟨_, k1, _, k2⟩ := obj_2 o7
          have hw3 := h3.out.1.size
          refine ⟨⟨k1, k2⟩, objset2 _ o7, ?_, ?_, ?_, hs.obj o8 (by omega)⟩
          · first | rw [HTK.out] | rw [← HT'.out, HTK.out]
            exact g1.chg monoV_good hs (fun k hk e => by have h1 : w3.heap.size ≤ k := (g1.mine k hk).1; omega) (fun k hk _ => hk.elim)
          · exact chgpast2 (chgpast2 (a3.thenNo ha) g2 (fun k hk => by have := hmine k hk; omega)) hs (fun k hk => by omega)
          · have := g2.size; have := hs.size; have := ha.size; omega
        have HOW : Hid (OwnL monoV 55 (fun q => w3.heap.size ≤ q) No (wr.alloc (.cells #[.int .i64 vv, .int .i64 kk] 55)) vT T) := hst.out.2.1.no monoV_good ((Chg.refl _ _).alloc _)
        have hzr : w3.heap.size ≤ wr.heap.size := hst.out.2.2.2.1
        clear hst HTK hn
        go_wp2_with (at_builtin; refine wpList_pushLn monoV_good monosTy rfl (.tmp 24) (.tmp 32) rfl (M := fun q => w3.heap.size ≤ q) (w := wr.alloc (.cells #[.int .i64 vv, .int .i64 kk] 55)) (fun q hq => by simp at hq; omega) HOW.out rfl (mono_of (m := (vv, n * kk)) HKI.out (I64.of (show -9000000000000000000 ≤ n * kk by omega) (show n * kk ≤ 9000000000000000000 by omega))) (by simp [Value.oneCell']) (by simp) rfl (show (T.length + 1) * 16 ≤ 140737488355328 by omega) ?_; intro A2 cap2 w7 g1 g2; obtain ⟨⟨f1, f2⟩, G8⟩ := HG.out w7 A2 cap2 g1 g2; clear g1 g2)
        go_roundw
        case rel => exact ⟨i + 1, _, by go_num, hlt, by rw [HT'.out]; exact G8⟩
        case measure => simp [intOf]; omega
    · obtain rfl : i = t.length := by omega
      rw [List.take_of_length_le (Nat.le_refl _)] at hst
      have hTl := sclT_len n t
      have hcl : (sclT n t).length * 16 ≤ big := by unfold big; omega
      obtain ⟨AT, capT, hvT, hmo⟩ : ∃ AT capT, vT = .slice AT (sclT n t).length capT ∧ Monos (fun q => w3.heap.size ≤ q) wr AT (sclT n t) capT := by
        obtain ⟨AT, capT, e, h⟩ := hst.out.2.1.sl monoV_good hcl
        exact ⟨AT, capT, e, h.mono monoE_good (fun k _ hk => hk.elim id (fun f => f.elim))⟩
      subst hvT
      have HMO := Lib.hid hmo
      have HC := Lib.hid (fun W (h : Chg No wr W) => linCheck_any (n * c) (hmo.no monoE_good h))
      have HEND : Hid (∀ W u v, Chg No wr W → Chg No w ((W.setCell ⟨w.heap.size + 1, 0, none⟩ u).setCell ⟨w.heap.size + 1, 1, none⟩ v) ∧ Monos (fun q => w.heap.size ≤ q) ((W.setCell ⟨w.heap.size + 1, 0, none⟩ u).setCell ⟨w.heap.size + 1, 1, none⟩ v) AT (sclT n t) capT) := fun W u v h => by
        have hz := HZ3.out
        have hbb := h3.out.2.2.2.2.2
        have hs : Chg (fun q => q = w.heap.size + 1) W ((W.setCell ⟨w.heap.size + 1, 0, none⟩ u).setCell ⟨w.heap.size + 1, 1, none⟩ v) := ((Chg.refl (fun q => q = w.heap.size + 1) W).setCell _ _ (fun _ => rfl)).setCell _ _ (fun _ => rfl)
        exact ⟨chgpast2 (hst.out.2.2.1.thenNo h) hs (fun k hk => by omega), ((hmo.no monoE_good h).chg monoE_good hs (fun k hk e => by omega)).mono monoE_good (fun k _ hk => by omega)⟩
      have HOB : Hid (∀ W, Chg No wr W → (W.cell? ⟨bo, 0, none⟩ = some (.int .i64 (n * c)) ∧ W.cell? ⟨bo, 1, none⟩ = some (.slice AT (sclT n t).length capT) ∧ W.frozen? ⟨bo, 0, none⟩ = false ∧ W.frozen? ⟨bo, 1, none⟩ = false) ∧ W.cell? ⟨w.heap.size + 1, 0, none⟩ = some (.int .i64 0) ∧ W.cell? ⟨w.heap.size + 1, 1, none⟩ = some (.slice none 0 0) ∧ W.frozen? ⟨w.heap.size + 1, 0, none⟩ = false ∧ W.frozen? ⟨w.heap.size + 1, 1, none⟩ = false) := fun W h =>
        ⟨obj_2 (h.obj hst.out.1 id), obj_2 (h.obj hst.out.2.2.2.2 id)⟩
      clear hmo hst HT HK hcl
      rcases HAN.out with ⟨g1, rfl, rfl⟩ | ⟨g1, rfl, rfl⟩
      · rw [g1] at HC
        rw [show (if true = true then (0 : Int) else 5) = 0 from rfl, errV_zero] at HC
        clear g1 HAN
        generalize sclT n t = T at *
        go_wp2_with (go_at_call 29; refine (HC.out _ (Chg.refl _ _)).mono ?_; rintro e w8 ⟨rfl, h8⟩; have H8 := Lib.hid h8; obtain ⟨⟨m0, m1, _, _⟩, r0, r1, rf0, rf1⟩ := HOB.out w8 h8; clear h8)
        exact bodyPost_ret (v := .tuple #[.agg #[.int .i64 (n * c), .slice AT T.length capT], .nilIface]) (by simp [results, Tryd.results44, go_sem, r0, r1]) rfl ⟨AT, capT, rfl, (HEND.out _ _ _ H8.out).2, (HEND.out _ _ _ H8.out).1⟩
      · rw [g1] at HC
        rw [show (if false = true then (0 : Int) else 5) = 5 from rfl, errV_of _ (by decide)] at HC
        clear g1 HAN
        generalize sclT n t = T at *
        go_wp2_with (go_at_call 29; refine (HC.out _ (Chg.refl _ _)).mono ?_; rintro e w8 ⟨rfl, h8⟩; have H8 := Lib.hid h8; obtain ⟨⟨m0, m1, _, _⟩, r0, r1, rf0, rf1⟩ := HOB.out w8 h8; clear h8)
        exact bodyPost_ret (v := .tuple #[.agg #[.int .i64 0, .slice none 0 0], .iface 64 (.int .i64 3)]) (by simp [results, Tryd.results44, go_sem, r0, r1]) rfl (LinRet.none (HEND.out _ _ _ H8.out).1)
end Go.Proofs.YtpmndblakmobdaaDoor
