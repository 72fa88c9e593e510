/-
  lin.sum: terms together.
-/
import Derived.Test.YtpmndblakmobdaaDoorLin8
import Derived.Test.YtpmndblakmobdaaDoorLinLaw
import Derived.Laws.EntriesVeiled
namespace Go.Proofs.YtpmndblakmobdaaDoor
open Go Go.RowKit

/-- What is amiss with a constant and terms together, and what they are. -/
noncomputable def sumErr (c : Int) (t : List Mono) : Int := if (coefB c && (nf t).all fun m => coefB m.2) = true then (if (nf t).length ≤ 64 then 0 else 2) else 3
noncomputable def sumLin (c : Int) (t : List Mono) : Lin := if sumErr c t = 0 then (c, nf t) else (0, [])

theorem sumErr_eq (c : Int) {t o : List Mono} (h : nf t = o) : sumErr c t = if coefB c = true then (if (o.any fun m => !coefB m.2) = true then 3 else if 64 < o.length then 2 else 0) else 3 := by
  unfold sumErr
  rw [h]
  have e : (o.any fun m => !coefB m.2) = !(o.all fun m => coefB m.2) := by rw [List.not_all_eq_any_not]
  rw [e]
  cases coefB c <;> cases (o.all fun m => coefB m.2) <;> simp
  by_cases h : o.length ≤ 64
  · rw [if_pos h, if_neg (by omega)]
  · rw [if_neg h, if_pos (by omega)]

/-- A call returns a form, beside E; it lies in new memory; nothing else has changed. -/
def LinRet (w : World) (r : Lin) (E : Value) (e : Ending) (w' : World) : Prop :=
  ∃ A cap, e = .returned (.tuple #[.agg #[.int .i64 r.1, .slice A r.2.length cap], E]) ∧ Monos (fun k => w.heap.size ≤ k) w' A r.2 cap ∧ Chg No w w'
theorem LinRet.none {w w' : World} {E : Value} (h : Chg No w w') : LinRet w (0, []) E (.returned (.tuple #[.agg #[.int .i64 0, .slice none 0 0], E])) w' := ⟨Option.none, 0, rfl, Sl.empty, h⟩

theorem obj_cell {w : World} {b : Nat} {cs : Array Value} {t : TypeId} (h : w.heap[b]? = some (.cells cs t (0, 0))) (j : Nat) : w.cell? ⟨b, j, none⟩ = cs[j]? ∧ w.frozen? ⟨b, j, none⟩ = false := by
  simp [World.cell?, World.frozen?, h]
theorem obj_two {w : World} {b : Nat} {x y : Value} {t : TypeId} (h : w.heap[b]? = some (.cells #[x, y] t (0, 0))) :
    w.cell? ⟨b, 0, none⟩ = some x ∧ w.cell? ⟨b, 1, none⟩ = some y ∧ w.frozen? ⟨b, 0, none⟩ = false ∧ w.frozen? ⟨b, 1, none⟩ = false := by
  simp [World.cell?, World.frozen?, h]
theorem obj_set {w : World} {b j : Nat} {cs : Array Value} {t : TypeId} (u : Value) (h : w.heap[b]? = some (.cells cs t (0, 0))) : (w.setCell ⟨b, j, none⟩ u).heap[b]? = some (.cells (cs.setIfInBounds j u) t (0, 0)) := by
  simp [World.setCell, Array.getElem?_modify, h]
theorem mono_any {R R' : Nat → Prop} {w w' : World} {cs : List Value} {m : Mono} (h : monoV R w cs m) : monoV R' w' cs m := by
  obtain ⟨rfl, h1, h2⟩ := mono_cells h
  exact mono_of h1 h2
theorem OMonos.of {M R : Nat → Prop} {w : World} {v : Value} {l : List Mono} (h : OwnL monoV 55 M R w v l) : OMonos M w v l := by
  obtain ⟨C, h1, h2, h3⟩ := h
  exact ⟨C, h1, h2, fun i a b => mono_any (h3 i a b)⟩
theorem Sl.mono_mem {R : Nat → Prop} {w : World} {A : Option Addr} {l : List Mono} {cap : Nat} (h : Monos R w A l cap) : ∀ m ∈ l, I64 m.1 ∧ I64 m.2 := fun m hm => by
  obtain ⟨i, hi, rfl⟩ := List.getElem_of_mem hm
  exact h.mono_ok i hi

set_option maxRecDepth 100000 in
set_option maxHeartbeats 4000000 in
theorem linSum_any {R : Nat → Prop} {w : World} (c : Int) {A : Option Addr} {t : List Mono} {cap : Nat} (ht : Monos R w A t cap) (hlen : t.length ≤ 100000) (hv : ∀ m ∈ t, 0 ≤ m.1 ∧ m.1 < 1048576) (hk : ∀ v, absAt t v ≤ 4611686018427387904) :
    Calls Tryd.prog 46 #[.int .i64 c, .slice A t.length cap] w (LinRet w (sumLin c t) (errV 64 (sumErr c t))) := by
  have HCl := Lib.hid (fun W (h : Chg No w W) => cloneMono_any (ht.no monoE_good h))
  have HV : Hid (∀ m ∈ t, (0 ≤ m.1 ∧ m.1 < 1048576) ∧ I64 m.2) := fun m hm => ⟨hv m hm, (ht.mono_mem m hm).2⟩
  have HK := Lib.hid hk
  have HCc := Lib.hid (fun W => coef_any c W)
  clear ht hv hk
  go_enter Tryd.func46, Tryd.ntmps46
  go_wp2_with (first
    | (go_at_call 53; refine (HCl.out _ ((Chg.refl _ _).alloc _)).mono ?_; rintro e w1 ⟨A1, cap1, rfl, hown, hch⟩; have h4 := Lib.hid (hch.obj (b := w.heap.size) (x := .cells #[.int .i64 0, .slice none 0 0] 36 (0, 0)) (heap_alloc_new w _) id); have hc1 := Lib.hid (((Chg.refl No w).alloc (.cells #[.int .i64 0, .slice none 0 0] 36)).thenNo hch); have HO := Lib.hid (OMonos.of hown); clear hown hch HCl)
    | (go_at_call 54; refine (sortMonos_any HO.out HV.out (by unfold big; omega)).mono ?_; rintro e w2 ⟨rfl, s, hs1, hs2, hs3, hch2⟩; have HPm := Lib.hid hs1; have HPw := Lib.hid hs2; have HM := Lib.hid hs3; have hc2 := Lib.hid hch2; clear hs1 hs2 hs3 hch2))
  have hmine : Hid (∀ k, (Value.slice A1 t.length cap1).ownBlock = some k → w.heap.size < k) := fun k hk => by have := (HO.out.mine k hk).1; simp at this; omega
  have hW2 : Hid (Chg No w w2) := hc1.out.trans hc2.out (fun k hk hlt => by have := hmine.out k hk; omega)
  have h42 : Hid (w2.heap[w.heap.size]? = some (.cells #[.int .i64 0, .slice none 0 0] 36 (0, 0))) := hc2.out.obj h4.out (fun hk => by have := hmine.out _ hk; omega)
  have hlt2 : w.heap.size < w2.heap.size := (Array.getElem?_eq_some_iff.1 h42.out).1
  have hls : s.length = t.length := HPm.out.length_eq
  obtain ⟨w3, hw3⟩ : ∃ w3, w3 = w2.alloc (.cells #[.int .i64 c, .slice none 0 0] 36) := ⟨_, rfl⟩
  have hW : Hid (Chg No w w3) := by rw [hw3]; exact hW2.out.alloc _
  have h43 : Hid (w3.heap[w.heap.size]? = some (.cells #[.int .i64 0, .slice none 0 0] 36 (0, 0))) := by rw [hw3]; exact at_old h42.out
  have h63 : Hid (w3.heap[w2.heap.size]? = some (.cells #[.int .i64 c, .slice none 0 0] 36 (0, 0))) := by rw [hw3]; exact at_new rfl
  have hM3 : Hid (Monos (fun k => k < w2.heap.size) w3 A1 s cap1) := by rw [hw3]; exact (HM.out.mono monoE_good (fun k hk _ => hk)).no monoE_good ((Chg.refl _ _).alloc _)
  have hz3 : w3.heap.size = w2.heap.size + 1 := by rw [hw3]; simp
  rw [← hw3]
  clear hw3 h4 hc1 hc2 HO hmine hW2 h42 HM
  generalize w2.heap.size = B at *
  have HLS := Lib.hid hls
  have hsl : s.length ≤ 100000 := by omega
  rw [← hls]
  clear hls
  go_loopw [7] (fun s7 wr => ∃ (k : Nat) (o : List Mono) (v : Value), s7 = .int .i64 k ∧ k ≤ s.length ∧ Hid (Chg (fun j => j = B) w3 wr) ∧ Hid (wr.heap[B]? = some (.cells #[.int .i64 c, v] 36 (0, 0))) ∧ Hid (OMonos (fun j => w3.heap.size ≤ j) wr v o) ∧ Hid (SumI s k o)) (fun s7 _ => s.length - (intOf s7).toNat)
  case atStart => exact ⟨0, [], .slice none 0 0, rfl, Nat.zero_le _, Chg.refl _ _, h63, OwnL.nil _ _ _ _ _, SumI.start s⟩
  case round =>
    clear h63
    obtain ⟨k, o, v, rfl, hks, hch, h6, hown, hI⟩ := hrel
    by_cases hlt : k < s.length
    · obtain ⟨b, off, rfl, hx0, hx1⟩ := (hM3.out.chg monoE_good hch.out (fun q h1 h2 => by omega)).mono_at k hlt
      have i0 : (0 : Int) ≤ (k : Int) := by omega
      have i1 : (k : Int) < (s.length : Int) := by omega
      have HZ := Lib.hid (hI.out.zero hlt)
      have HT := Lib.hid (kAt_take (s := s) hlt s[k].1)
      rw [if_pos rfl] at HT
      have HE : Hid (∀ h : k < s.length, s[k].1 = s[k].1) := fun _ => rfl
      obtain ⟨vv, hvv⟩ : ∃ vv, vv = s[k].1 := ⟨_, rfl⟩
      obtain ⟨kk, hkk⟩ : ∃ kk, kk = s[k].2 := ⟨_, rfl⟩
      rw [← hvv, ← hkk] at HT
      rw [← hvv] at HZ hx0
      rw [← hkk] at hx1
      have HVV := Lib.hid hvv
      clear hvv hkk HE
      have hB6 := Lib.hid (obj_two h6.out)
      go_wp2
      obtain ⟨wo, hwo⟩ : ∃ wo, wo = wr.alloc (.cells #[.int .i64 vv, .int .i64 kk] 55) := ⟨_, rfl⟩
      have hm : Hid (wo.heap[wr.heap.size]? = some (.cells #[.int .i64 vv, .int .i64 kk] 55 (0, 0))) := by rw [hwo]; exact at_new rfl
      have hco : Hid (Chg No wr wo) := by rw [hwo]; exact (Chg.refl _ _).alloc _
      have hBm : B < wr.heap.size := (Array.getElem?_eq_some_iff.1 h6.out).1
      have hwz : w3.heap.size ≤ wr.heap.size := hch.out.size
      rw [← hwo]
      clear hwo hx0 hx1
      generalize hbm : wr.heap.size = Bm at *
      have HBM := Lib.hid hbm
      clear hbm
      obtain ⟨wa, rfl⟩ : ∃ wa : World, wa = wr := ⟨_, rfl⟩
      go_loopw [7] (fun s7 wr => ∃ (j : Nat) (K : Int), s7 = .int .i64 j ∧ k + 1 ≤ j ∧ j ≤ s.length ∧ Hid (wr.heap[Bm]? = some (.cells #[.int .i64 vv, .int .i64 K] 55 (0, 0))) ∧ Hid (Chg (fun q => q = Bm) wo wr) ∧ Hid (K = kAt (s.take j) vv) ∧ Hid (∀ i (h : i < s.length), k ≤ i → i < j → s[i].1 = vv)) (fun s7 _ => s.length - (intOf s7).toNat)
      case atStart => exact ⟨k + 1, kk, by go_num, Nat.le_refl _, hlt, hm, Chg.refl _ _, by unfold Hid; rw [HT.out, HZ.out]; omega, fun i h h1 h2 => by
        obtain rfl : i = k := by omega
        exact HVV.out.symm⟩
      case round =>
        clear hm
        obtain ⟨j, K, rfl, hkj, hjs, hm, hchm, hK, hvs⟩ := hrel
        have hm2 := obj_two hm.out
        obtain ⟨hm0, hm1, hmf0, hmf1⟩ := hm2
        have hKb := kAt_take_abs s j vv
        have hab := absAt_of_perm HPm.out HK.out vv
        rw [← hK.out] at hKb
        have hK1 : -4611686018427387904 ≤ K := by omega
        have hK2 : K ≤ 4611686018427387904 := by omega
        have hcw : Hid (Chg (fun q => q = B ∨ q = Bm) w3 wr) := (hch.out.trans hco.out (T := No) (fun _ f _ => f.elim)).trans hchm.out (fun q hq hlt => by omega) |>.mono (fun q hq _ => .inl hq)
        by_cases hin : ∃ h : j < s.length, s[j].1 = vv
        · obtain ⟨hjl, hjv⟩ := hin
          obtain ⟨b', off', e, hy0, hy1⟩ := ((hM3.out.mono monoE_good (R' := fun q => q < B) (fun q _ h => h)).chg monoE_good hcw.out (fun q h1 h2 => by rcases h2 with h2 | h2 <;> omega)).mono_at j hjl
          have HT2 := Lib.hid (kAt_take (s := s) hjl vv)
          rw [if_pos hjv] at HT2
          have hKb2 := kAt_take_abs s (j + 1) vv
          rw [HT2.out, ← hK.out] at hKb2
          have hvs2 : Hid (∀ i (h : i < s.length), k ≤ i → i < j + 1 → s[i].1 = vv) := fun i h h1 h2 => by
            rcases Nat.lt_or_ge i j with g | g
            · exact hvs.out i h h1 g
            · obtain rfl : i = j := by omega
              exact hjv
          rw [hjv] at hy0
          generalize s[j].2 = kj at *
          have hS1 : -4611686018427387904 ≤ K + kj := by omega
          have hS2 : K + kj ≤ 4611686018427387904 := by omega
          have j0 : (0 : Int) ≤ (j : Int) := by omega
          have j1 : (j : Int) < (s.length : Int) := by omega
          have jd : decide (j < s.length) = true := decide_eq_true hjl
          have jv : (vv == vv) = true := by simp
          simp only [Option.some.injEq, Addr.mk.injEq] at e
          obtain ⟨rfl, rfl, _⟩ := e
          clear hKb hab hKb2 hjv hvs
          have hnx : Hid (∀ n, ((wr.drewN n).setCell ⟨Bm, 1, none⟩ (.int .i64 (K + kj))).heap[Bm]? = some (.cells #[.int .i64 vv, .int .i64 (K + kj)] 55 (0, 0)) ∧ Chg (fun q => q = Bm) wo ((wr.drewN n).setCell ⟨Bm, 1, none⟩ (.int .i64 (K + kj)))) := fun n => by
            have h1 : (wr.drewN n).heap[Bm]? = some (.cells #[.int .i64 vv, .int .i64 K] 55 (0, 0)) := hm.out
            have h2 := obj_set (j := 1) (.int .i64 (K + kj)) h1
            exact ⟨by simpa using h2, (hchm.out.drewN n).setCell _ _ (fun _ => rfl)⟩
          go_wp2
          go_quiet (fail)
          go_wp2
          go_region
          all_goals go_wp2
          all_goals go_roundw
          case rel => exact ⟨j + 1, K + kj, by go_num, by omega, hjl, (hnx.out (nq + 1)).1, (hnx.out (nq + 1)).2, by unfold Hid; rw [HT2.out, hK.out], hvs2⟩
          case measure => simp [intOf]; omega
        · have hout : Hid (∀ h : j < s.length, s[j].1 ≠ vv) := fun h e => hin ⟨h, e⟩
          have HI2 := Lib.hid (hI.out.next HPw.out (by omega) hjs hvs.out hout.out)
          rw [← hK.out] at HI2
          have HG : Hid (∀ n, (wr.drewN n).heap[B]? = some (.cells #[.int .i64 c, v] 36 (0, 0)) ∧ OMonos (fun q => w3.heap.size ≤ q ∧ q ≠ Bm) (wr.drewN n) v o ∧ Chg (fun q => q = B) w3 (wr.drewN n) ∧ (wr.drewN n).heap[Bm]? = some (.cells #[.int .i64 vv, .int .i64 K] 55 (0, 0))) := fun n => by
            refine ⟨hchm.out.obj (hco.out.obj h6.out id) (fun e => by omega), ?_, ((hch.out.thenNo hco.out).trans hchm.out (fun q hq hlt => by have := HBM.out; omega)).drewN n, hm.out⟩
            have h1 := (hown.out.mono monoV_good (M' := fun q => w3.heap.size ≤ q ∧ q ≠ Bm) (R' := No) (fun q hq h => ⟨h, fun e => by have := HBM.out; omega⟩) (fun _ _ f => f)).no monoV_good hco.out
            exact (h1.chg monoV_good hchm.out (fun q hq e => (h1.mine q hq).1.2 e) (fun _ f _ => f.elim)).no monoV_good ((Chg.refl _ _).drewN n)
          have hol : o.length ≤ 100000 := by have := hI.out.len; omega
          have HVK : Hid (I64 vv ∧ I64 K) := ⟨by have := (HV.out _ (HPm.out.mem_iff.1 (List.getElem_mem hlt))).1; rw [← HVV.out] at this; exact I64.of (by omega) (by omega), I64.of (by omega) (by omega)⟩
          have j0 : (0 : Int) ≤ (j : Int) := by omega
          have HY : Hid (∀ h : j < s.length, wr.cell? ⟨b, off + j * 2, none⟩ = some (.int .i64 s[j].1)) := fun h => by
            obtain ⟨b', off', e, hy0, hy1⟩ := ((hM3.out.mono monoE_good (R' := fun q => q < B) (fun q _ h => h)).chg monoE_good hcw.out (fun q h1 h2 => by rcases h2 with h2 | h2 <;> omega)).mono_at j h
            simp only [Option.some.injEq, Addr.mk.injEq] at e
            obtain ⟨rfl, rfl, _⟩ := e
            exact hy0
          clear hin hKb hab hvs hchm hK
          by_cases hjl : j < s.length
          case' pos =>
            have hy0 := HY.out hjl
            have hne := hout.out hjl
            generalize s[j].1 = y at *
            have jd : decide (j < s.length) = true := decide_eq_true hjl
            have j1 : (j : Int) < (s.length : Int) := by omega
            have jv : (y == vv) = false := by simpa using hne
            clear hne
          case' neg =>
            have jd : decide (j < s.length) = false := decide_eq_false hjl
          all_goals
            go_wp2
            go_quiet (fail)
            obtain ⟨f1, f2, f3, f4⟩ := HG.out nq
            have F1 := Lib.hid f1
            have F2 := Lib.hid f2
            have F3 := Lib.hid f3
            have F4 := Lib.hid f4
            clear f1 f2 f3 f4 HG HY hm hm0 hm1 hmf0 hmf1 hown hch h6 hco hcw
            generalize wr.drewN nq = wq at *
            obtain ⟨hm0, hm1, hmf0, hmf1⟩ := obj_two F4.out
            obtain ⟨hb0, hb1, hbf0, hbf1⟩ := obj_two F1.out
            by_cases hK0 : K = 0
            · have hd : (K != 0) = false := by simp [hK0]
              rw [if_pos hK0] at HI2
              clear hK0
              go_wp2
              go_roundw
              case rel => exact ⟨j, o, v, rfl, hjs, F3, F1, F2.out.mono monoV_good (fun q _ h => h.1) (fun _ _ f => f), HI2⟩
              case measure => simp [intOf]; omega
            · have hd : (K != 0) = true := by simpa using hK0
              rw [if_neg hK0] at HI2
              clear hK0
              have hMM : Hid (∀ q, wq.heap.size ≤ q → w3.heap.size ≤ q ∧ q ≠ Bm) := fun q hq => by
                have h1 := F3.out.size
                have h2 : Bm < wq.heap.size := (Array.getElem?_eq_some_iff.1 F4.out).1
                omega
              go_wp2_with (at_builtin; refine wpList_pushL monoV_good monosTy rfl (.tmp 54) (.tmp 56) rfl hMM.out F2.out rfl (mono_of (m := (vv, K)) HVK.out.1 HVK.out.2) (by simp [Value.oneCell']) rfl (show (o.length + 1) * 16 ≤ 140737488355328 by omega) ?_; intro A' cap' w5 g1 g2; have G1 := Lib.hid (g2.obj F1.out (fun e => by have := (F2.out.mine _ e).1.1; omega)); have G2 := Lib.hid g1; have G3 := Lib.hid (F3.out.trans g2 (fun q hq hlt => by have := (F2.out.mine _ hq).1.1; omega)); clear g1 g2; obtain ⟨gb0, gb1, gbf0, gbf1⟩ := obj_two G1.out)
              go_roundw
              case rel => exact ⟨j, o ++ [(vv, K)], .slice A' (o.length + 1) cap', rfl, hjs, G3.out.setCell _ _ (fun _ => rfl), by unfold Hid; have := obj_set (j := 1) (.slice A' (o.length + 1) cap') G1.out; simpa using this, (G2.out.mono monoV_good (fun q _ h => h.1) (fun _ _ f => f)).chg monoV_good ((Chg.refl (fun q => q = B) _).setCell _ _ (fun _ => rfl)) (fun q hq e => by have := (G2.out.mine q hq).1.1; omega) (fun _ f _ => f.elim), HI2⟩
              case measure => simp [intOf]; omega
    · have hnf : Hid (nf t = o) := nf_eq ((hI.out.done (by omega)).perm HPm.out)
      have hol : o.length ≤ 100000 := by have := hI.out.len; omega
      obtain ⟨A2, cap2, rfl, _⟩ := hown.out.value
      have HCf : Hid (∀ W, Chg No wr W → Calls Tryd.prog 56 #[.slice A2 o.length cap2, .func (.func 57) #[] #[]] W fun e w' => e = .returned (.bool (o.any fun m => !coefB m.2)) ∧ Chg No W w') := fun W h =>
        containsFunc_monos ((hown.out.monos (by unfold big; omega)).no monoE_good h) _ entered_sum2 (fun m => !coefB m.2) (fun w' _ i h => sum2_any _ _ _)
      have e1 := sumErr_eq c hnf.out
      have hBw : w.heap.size ≠ B := by omega
      have h4r := Lib.hid (hch.out.obj h43.out hBw)
      have hwr : Hid (Chg No w wr) := hW.out.trans hch.out (fun q hq hlt => by omega)
      have HM := Lib.hid (hown.out.monos (by unfold big; omega))
      have hbad : ∀ n : Int, n ≠ 0 → sumErr c t = n → Hid (∀ w', Chg No w w' → LinRet w (sumLin c t) (errV 64 (sumErr c t)) (.returned (.tuple #[.agg #[.int .i64 0, .slice none 0 0], .iface 64 (.int .i64 n)])) w') := fun n hn he w' hw' => by
        unfold sumLin
        rw [he, if_neg hn, errV_of _ hn]
        exact LinRet.none hw'
      have hgood : sumErr c t = 0 → Hid (∀ w', Chg (fun q => q = w.heap.size) wr w' → Chg No w w' → LinRet w (sumLin c t) (errV 64 (sumErr c t)) (.returned (.tuple #[.agg #[.int .i64 c, .slice A2 o.length cap2], .nilIface])) w') := fun he w' hw1 hw2 => by
        unfold sumLin
        rw [he, if_pos rfl, errV_zero, hnf.out]
        exact ⟨A2, cap2, rfl, (HM.out.chg monoE_good hw1 (fun q h e => by have := hW.out.size; omega)).mono monoE_good (fun q _ h => by have := hW.out.size; omega), hw2⟩
      cases hcb : coefB c
      · rw [hcb] at e1 HCc
        have HP := hbad 3 (by decide) e1
        obtain ⟨hb0, hb1, hbf0, hbf1⟩ := obj_two h6.out
        obtain ⟨hr0, hr1, hrf0, hrf1⟩ := obj_two h4r.out
        clear e1 hbad hgood hcb HCf
        go_wp2_with (go_at_call 37; refine (HCc.out _).mono ?_; rintro e w5 ⟨rfl, rfl⟩)
        exact bodyPost_ret (v := .tuple #[.agg #[.int .i64 0, .slice none 0 0], .iface 64 (.int .i64 3)]) (by simp [results, Tryd.results46, go_sem, hr0, hr1]) rfl (HP.out _ ((hwr.out.setCell _ _ (fun h => absurd h (Nat.lt_irrefl _))).setCell _ _ (fun h => absurd h (Nat.lt_irrefl _))))
      · rw [hcb] at e1 HCc
        cases hany : o.any fun m => !coefB m.2
        · rw [hany] at e1 HCf
          by_cases hlo : 64 < o.length
          · have HP := hbad 2 (by decide) (by rw [e1, if_pos rfl, if_neg (by decide), if_pos hlo])
            have hd : decide ((64 : Int) < (o.length : Int)) = true := decide_eq_true (by omega)
            obtain ⟨hb0, hb1, hbf0, hbf1⟩ := obj_two h6.out
            clear e1 hbad hgood hcb hany
            go_wp2_with (first | (go_at_call 37; refine (HCc.out _).mono ?_; rintro e w5 ⟨rfl, rfl⟩) | (go_at_call 56; refine (HCf.out _ (Chg.refl _ _)).mono ?_; rintro e w5 ⟨rfl, h5⟩; obtain ⟨hr0, hr1, hrf0, hrf1⟩ := obj_two (h5.obj h4r.out id); obtain ⟨hc0, hc1, hcf0, hcf1⟩ := obj_two (h5.obj h6.out id); have H5 := Lib.hid h5; clear h5))
            exact bodyPost_ret (v := .tuple #[.agg #[.int .i64 0, .slice none 0 0], .iface 64 (.int .i64 2)]) (by simp [results, Tryd.results46, go_sem, hr0, hr1]) rfl (HP.out _ (((hwr.out.thenNo H5.out).setCell _ _ (fun h => absurd h (Nat.lt_irrefl _))).setCell _ _ (fun h => absurd h (Nat.lt_irrefl _))))
          · have HP := hgood (by rw [e1, if_pos rfl, if_neg (by decide), if_neg hlo])
            have hd : decide ((64 : Int) < (o.length : Int)) = false := decide_eq_false (by omega)
            obtain ⟨hb0, hb1, hbf0, hbf1⟩ := obj_two h6.out
            clear e1 hbad hgood hcb hany
            go_wp2_with (first | (go_at_call 37; refine (HCc.out _).mono ?_; rintro e w5 ⟨rfl, rfl⟩) | (go_at_call 56; refine (HCf.out _ (Chg.refl _ _)).mono ?_; rintro e w5 ⟨rfl, h5⟩; obtain ⟨hr0, hr1, hrf0, hrf1⟩ := obj_two (h5.obj h4r.out id); obtain ⟨hc0, hc1, hcf0, hcf1⟩ := obj_two (h5.obj h6.out id); have H5 := Lib.hid h5; clear h5))
            exact bodyPost_ret (v := .tuple #[.agg #[.int .i64 c, .slice A2 o.length cap2], .nilIface]) (by simp [results, Tryd.results46, go_sem, hr0, hr1]) rfl (HP.out _ (((H5.out.no (S := fun q => q = w.heap.size)).setCell _ _ (fun _ => rfl)).setCell _ _ (fun _ => rfl)) (((hwr.out.thenNo H5.out).setCell _ _ (fun h => absurd h (Nat.lt_irrefl _))).setCell _ _ (fun h => absurd h (Nat.lt_irrefl _))))
        · rw [hany] at e1 HCf
          have HP := hbad 3 (by decide) (by rw [e1, if_pos rfl, if_pos rfl])
          obtain ⟨hb0, hb1, hbf0, hbf1⟩ := obj_two h6.out
          clear e1 hbad hgood hcb hany
          go_wp2_with (first | (go_at_call 37; refine (HCc.out _).mono ?_; rintro e w5 ⟨rfl, rfl⟩) | (go_at_call 56; refine (HCf.out _ (Chg.refl _ _)).mono ?_; rintro e w5 ⟨rfl, h5⟩; obtain ⟨hr0, hr1, hrf0, hrf1⟩ := obj_two (h5.obj h4r.out id); obtain ⟨hc0, hc1, hcf0, hcf1⟩ := obj_two (h5.obj h6.out id); have H5 := Lib.hid h5; clear h5))
          exact bodyPost_ret (v := .tuple #[.agg #[.int .i64 0, .slice none 0 0], .iface 64 (.int .i64 3)]) (by simp [results, Tryd.results46, go_sem, hr0, hr1]) rfl (HP.out _ (((hwr.out.thenNo H5.out).setCell _ _ (fun h => absurd h (Nat.lt_irrefl _))).setCell _ _ (fun h => absurd h (Nat.lt_irrefl _))))
end Go.Proofs.YtpmndblakmobdaaDoor
