/-
  The walk over LinStays: it returns true and changes nothing that was there.
-/
import Derived.Test.YtdljgclaccahaaaLinI
import Derived.Test.YtdljgclaccahaaaLinMks
import Derived.Test.YtdljgclaccahaaaLinD
namespace Go.Proofs.Ytdljgclaccahaaa
open Go Go.RowKit

theorem linMake_ret {w : World} {r : Lin} {E : Value} {e : Ending} {w' : World} (h : LinFree w r E e w') (hb : r.2.length * 16 ≤ big) : LinRet w r E e w' := by
  obtain ⟨A, cap, he, h1, h2⟩ := h
  exact ⟨A, cap, he, h1.monos hb, h2⟩
theorem makeLin_short (c : Int) (t : List Mono) : (makeLin c t).2.length ≤ 64 := by
  unfold makeLin
  split
  · unfold sumLin
    split
    · rename_i h
      unfold sumErr at h
      split at h
      · split at h
        · assumption
        · omega
      · omega
    · simp
  · simp
theorem makeLin_bad {c : Int} {t : List Mono} (h : makeErr c t ≠ 0) : makeLin c t = (0, []) := by
  unfold makeErr at h
  unfold makeLin
  split
  · rename_i h'
    rw [if_pos h'] at h
    unfold sumLin
    rw [if_neg h]
  · rfl

set_option maxRecDepth 100000 in
set_option maxHeartbeats 4000000 in
theorem linStays_walk {w : World} (c : Int) (_ : I64 c) {A : Option Addr} {t : List Mono} {cap : Nat} (ht : Monos (Old w) w A t cap) (x : Int) (_ : I64 x) :
    Calls Try.prog 8 #[.int .i64 c, .slice A t.length cap, .int .i64 x] w fun e w' => e = .returned (.bool true) ∧ Chg No w w' := by
  have HU := Lib.hid (fun W => up_any W)
  have HT := Lib.hid (fun W (h : Chg No w W) => ht.no monoE_good h)
  have HM := Lib.hid (fun W A1 cap1 (M : Nat → Prop) (h : Monos M W A1 t cap1) => linMake_free c h)
  have HR := Lib.hid (fun W (h : Chg No w W) => linMake_any c (ht.no monoE_good h))
  have HCm := Lib.hid (fun W => code_any W (makeErr c t) (makeErr_range c t).1 (makeErr_range c t).2)
  have hrl := makeLin_short c t
  have hb := ht.big
  have hb2 : Hid (t.length * 16 ≤ big) := Lib.hid ht.room
  unfold big at hb
  have hne := neqMono
  have hgm : Try.prog.eqGuardType Try.prog.depth 50 = false := by kernel_rfl
  clear ht
  generalize makeLin c t = r at *
  generalize makeErr c t = e0 at *
  obtain ⟨E, hE0⟩ : ∃ E, E = errV 43 e0 := ⟨_, rfl⟩
  rw [← hE0] at HM HR HCm
  have hE := Lib.hid hE0
  clear hE0
  go_enter Try.func8, Try.ntmps8
  go_wp2_with (first
    | (go_at_call 9; refine (HU.out _).mono ?_; rintro e w1 ⟨rfl, h1⟩; have H1 := Lib.hid h1; clear h1)
    | (at_builtin; refine wpList_copyL monoV_good mono_one monosTy rfl (.tmp 22) (.tmp 23) rfl rfl rfl (HT.out w1 H1.out) rfl ?_; intro A2 cap2 w2 g2 c2 n2; have G2 := Lib.hid (OMonos.of g2); have H2 := Lib.hid (H1.out.thenNo c2); have HZ2 := Lib.hid c2.size; clear g2 c2)
    | (go_at_call 10; refine (HM.out _ _ _ _ (G2.out.monos hb2.out)).mono ?_; rintro e w3 ⟨A3, cap3, rfl, h3, c3⟩; have G3 := Lib.hid h3; have C3 := Lib.hid c3; clear h3 c3))
  obtain ⟨g, o, cur, rfl, hg1, hg2, hg3, hg4, hg5⟩ := G2.out.block (.inl n2)
  have HG5 := Lib.hid hg5
  have hz1 := H1.out.size
  have hz3 := C3.out.size
  obtain ⟨w4, hw4⟩ : ∃ w4, w4 = w3.alloc (.cells #[.int .i64 r.1, .slice A3 r.2.length cap3] 25) := ⟨_, rfl⟩
  have h4 : Hid (Chg No w3 w4 ∧ w4.heap[w3.heap.size]? = some (.cells #[.int .i64 r.1, .slice A3 r.2.length cap3] 25 (0, 0))) := by
    rw [hw4]; exact ⟨(Chg.refl _ _).alloc _, heap_alloc_new _ _⟩
  have hN1 : Hid (Chg No w2 w4) := C3.out.thenNo h4.out.1
  have hN2 : Hid (∀ W, Chg (fun q => q = g) w4 W → Chg No w W) := fun W h => (H2.out.thenNo hN1.out).trans h (fun q hq hlt => by omega)
  go_loopw [11] (fun s11 wr => ∃ (i : Nat) (cur : Array Value), s11 = .int .i64 i ∧ i ≤ t.length ∧ Hid (Chg (fun q => q = g) w4 wr) ∧ Hid (wr.heap[g]? = some (.cells cur 50 (0, 0))) ∧ Hid (o + t.length * 2 ≤ cur.size) ∧ Hid (∀ j (h : j < t.length), i ≤ j → cur[o + j * 2]? = some (.int .i64 t[j].1) ∧ cur[o + j * 2 + 1]? = some (.int .i64 t[j].2))) (fun s11 _ => t.length - (intOf s11).toNat)
  case atStart =>
    rw [← hw4]
    exact ⟨0, cur, rfl, Nat.zero_le _, Chg.refl _ _, hN1.out.obj hg3 id, hg4, fun j h _ => hg5 j h⟩
  case round =>
    clear hg3 hg4 hg5 HG5 cur
    obtain ⟨i, cur, rfl, hi, hch, hob, hsz, hcs⟩ := hrel
    by_cases hlt : i < t.length
    · obtain ⟨b, o2, rfl, hx0, hx1⟩ := (HT.out wr (hN2.out wr hch.out)).mono_at i hlt
      obtain ⟨k0, k1⟩ := hcs.out i hlt (Nat.le_refl _)
      obtain ⟨y0, f0⟩ := cell_of hob.out k0
      obtain ⟨y1, f1⟩ := cell_of hob.out k1
      have i0 : (0 : Int) ≤ (i : Int) := by omega
      have i1 : (i : Int) < (t.length : Int) := by omega
      have HN : Hid (∀ W u v, W.heap[g]? = some (.cells cur 50 (0, 0)) → Chg (fun q => q = g) w4 W → Chg (fun q => q = g) w4 ((W.setCell ⟨g, o + i * 2, none⟩ u).setCell ⟨g, o + i * 2 + 1, none⟩ v) ∧ ((W.setCell ⟨g, o + i * 2, none⟩ u).setCell ⟨g, o + i * 2 + 1, none⟩ v).heap[g]? = some (.cells ((cur.setIfInBounds (o + i * 2) u).setIfInBounds (o + i * 2 + 1) v) 50 (0, 0))) := fun W u v h1 h2 =>
        ⟨(h2.setCell _ _ (fun _ => rfl)).setCell _ _ (fun _ => rfl), obj_set _ (obj_set _ h1)⟩
      have HN2 : Hid (∀ u v : Value, o + t.length * 2 ≤ ((cur.setIfInBounds (o + i * 2) u).setIfInBounds (o + i * 2 + 1) v).size ∧ ∀ j (h : j < t.length), i + 1 ≤ j → ((cur.setIfInBounds (o + i * 2) u).setIfInBounds (o + i * 2 + 1) v)[o + j * 2]? = some (.int .i64 t[j].1) ∧ ((cur.setIfInBounds (o + i * 2) u).setIfInBounds (o + i * 2 + 1) v)[o + j * 2 + 1]? = some (.int .i64 t[j].2)) := fun u v =>
        ⟨by simpa using hsz.out, fun j h hj => by
          rw [Array.getElem?_setIfInBounds_ne (by omega), Array.getElem?_setIfInBounds_ne (by omega), Array.getElem?_setIfInBounds_ne (by omega), Array.getElem?_setIfInBounds_ne (by omega)]
          exact hcs.out j h (by omega)⟩
      generalize t[i].1 = tv at *
      generalize t[i].2 = tk at *
      have hdd : (!((tv == tv) && (tk == tk))) = false := by simp
      go_wp2
      go_quiet (fail)
      go_wp2
      go_roundw
      case rel => exact ⟨i + 1, _, by go_num, hlt, (HN.out (wr.drewN nq) _ _ hob.out (hch.out.drewN nq)).1, (HN.out (wr.drewN nq) _ _ hob.out (hch.out.drewN nq)).2, (HN2.out _ _).1, (HN2.out _ _).2⟩
      case measure => simp [intOf]; omega
    · clear hsz hcs hob
      obtain rfl : i = t.length := by omega
      have HWr := Lib.hid (hN2.out wr hch.out)
      have hz4 := h4.out.1.size
      have hz5 := hch.out.size
      have h3lt : w3.heap.size < w4.heap.size := (Array.getElem?_eq_some_iff.1 h4.out.2).1
      have B9 := Lib.hid (hch.out.obj h4.out.2 (show w3.heap.size ≠ g by omega))
      have G3r : Hid (OMonos (fun k => w2.heap.size ≤ k) wr (.slice A3 r.2.length cap3) r.2) :=
        (G3.out.no monoV_good h4.out.1).chg monoV_good hch.out (fun k hk e => by have := (G3.out.mine k hk).1; omega) (fun _ f _ => f.elim)
      have HRr := Lib.hid (HR.out wr HWr.out)
      clear HR HM G2 hi hlt
      by_cases he : e0 = 0
      · obtain rfl : E = .nilIface := by rw [hE.out, he, errV_zero]
        clear hE he HCm
        have G3m := Lib.hid (G3r.out.monos (by unfold big; omega))
        have HA : Hid (∀ W A cap (M : Nat → Prop), Monos M W A r.2 cap → Calls Try.prog 21 #[.agg #[.int .i64 r.1, .slice A r.2.length cap], .agg #[.int .i64 r.1, .slice A r.2.length cap], .int .i64 x, .int .i64 1] W (LinRet W (addLin r r x 1) (errV 43 (addErr r r x 1)))) := fun W A cap M h => linAdd_any r r h h x 1
        have HC2 := Lib.hid (fun W => code_any W (addErr r r x 1) (addErr_range _ _ _ _).1 (addErr_range _ _ _ _).2)
        generalize errV 43 (addErr r r x 1) = E2 at *
        generalize addErr r r x 1 = e2 at *
        generalize addLin r r x 1 = r2 at *
        have hg23 : Hid (∀ q, (∃ o, A3 = some ⟨q, o, none⟩) → w2.heap.size ≤ q ∧ q < w3.heap.size) := fun q ⟨o, h⟩ => G3.out.mine q (by rw [h]; rfl)
        go_wp2_with (first
          | (go_at_call 12; refine (ref01Same_self (G3m.out.no monoE_good (C6.out.thenNo C7.out)) (M5.out.no monoE_good (C65.out.thenNo C7.out))).mono ?_; rintro e w8 ⟨rfl, h8⟩; have C8 := Lib.hid h8; clear h8)
          | (go_at_call 21; refine (HA.out _ _ _ _ (G3m.out.no monoE_good C6.out)).mono ?_; rintro e w7 ⟨A7, cap7, rfl, h7, c7⟩; have C7 := Lib.hid (c7.alloc (.cells #[.int .i64 r2.1, .slice A7 r2.2.length cap7] 25)); have M7 := Lib.hid (h7.no monoE_good ((Chg.refl _ _).alloc (.cells #[.int .i64 r2.1, .slice A7 r2.2.length cap7] 25))); have B15 := Lib.hid (heap_alloc_new w7 (.cells #[.int .i64 r2.1, .slice A7 r2.2.length cap7] 25)); have hz7 := c7.size; clear h7 c7 p0 p1 q0 q1; obtain ⟨p0, p1, _, _⟩ := obj_two ((C6.out.thenNo C7.out).obj B9.out id); obtain ⟨q0, q1, _, _⟩ := obj_two ((C65.out.thenNo C7.out).obj B12.out id))
          | (go_at_call 12; refine (ref01Same_self (G3m.out.no monoE_good C5.out) M5.out).mono ?_; rintro e w6 ⟨rfl, h6⟩; have C65 := Lib.hid h6; have C6 := Lib.hid (C5.out.thenNo h6); clear h6 p0 p1; obtain ⟨p0, p1, _, _⟩ := obj_two (C6.out.obj B9.out id); obtain ⟨q0, q1, _, _⟩ := obj_two (C65.out.obj B12.out id))
          | (go_at_call 10; refine HRr.out.mono ?_; rintro e w5 ⟨A5, cap5, rfl, h5, c5⟩; have C5 := Lib.hid (c5.alloc (.cells #[.int .i64 r.1, .slice A5 r.2.length cap5] 25)); have M5 := Lib.hid (h5.no monoE_good ((Chg.refl _ _).alloc (.cells #[.int .i64 r.1, .slice A5 r.2.length cap5] 25))); have B12 := Lib.hid (heap_alloc_new w5 (.cells #[.int .i64 r.1, .slice A5 r.2.length cap5] 25)); have hz5' := c5.size; clear h5 c5; obtain ⟨p0, p1, _, _⟩ := obj_two (C5.out.obj B9.out id)))
        obtain ⟨wo, rfl⟩ : ∃ wo : World, wo = wr := ⟨_, rfl⟩
        clear p0 p1 q0 q1 HRr HT
        have C58 := Lib.hid (C65.out.thenNo (C7.out.thenNo C8.out))
        have C68 := Lib.hid (C6.out.thenNo (C7.out.thenNo C8.out))
        have B9' := Lib.hid (C68.out.obj B9.out id)
        have B12' := Lib.hid (C58.out.obj B12.out id)
        have B15' := Lib.hid (C8.out.obj B15.out id)
        have M5' := Lib.hid (M5.out.no monoE_good C58.out)
        have M7' := Lib.hid (M7.out.no monoE_good C8.out)
        have G38 := Lib.hid (G3r.out.no monoV_good C68.out)
        have HW8 := Lib.hid (HWr.out.thenNo C68.out)
        have hz65 := C65.out.size
        have hzr5 := C5.out.size
        have hz15 : w7.heap.size < w8.heap.size := (Array.getElem?_eq_some_iff.1 B15'.out).1
        have hz12 : w5.heap.size < w6.heap.size := (Array.getElem?_eq_some_iff.1 (C65.out.obj B12.out id)).1
        clear C65 C7 C8 C6 C5 B9 B12 B15 M5 M7 G3r G3m HWr C58 C68
        go_loopw [18] (fun s18 wr => ∃ i : Nat, s18 = .int .i64 i ∧ i ≤ r.2.length ∧ Hid (Chg (fun q => ∃ o, A3 = some ⟨q, o, none⟩) w8 wr) ∧ Hid (∀ g2 o2, A3 = some ⟨g2, o2, none⟩ → ∃ cur, wr.heap[g2]? = some (.cells cur 50 (0, 0)) ∧ o2 + r.2.length * 2 ≤ cur.size)) (fun s18 _ => r.2.length - (intOf s18).toNat)
        case atStart =>
          refine ⟨0, rfl, Nat.zero_le _, Chg.refl _ _, fun g2 o2 e => ?_⟩
          obtain ⟨g3, o3, cur3, e3, _, _, k1, k2, _⟩ := OMonos.block G38.out (.inl (by rw [e]; simp))
          rw [e] at e3
          injection e3 with e3
          injection e3 with e3 e4
          subst e3; subst e4
          exact ⟨cur3, k1, k2⟩
        case round =>
          obtain ⟨i, rfl, hi, hch2, hob⟩ := hrel
          by_cases hlt : i < r.2.length
          · obtain ⟨g2, o2, cur2, rfl, _, _, _, _, _⟩ := OMonos.block G38.out (.inr (by omega))
            obtain ⟨cur3, k1, k2⟩ := hob.out g2 o2 rfl
            have hk : cur3[o2 + i * 2 + 1]? = some (cur3[o2 + i * 2 + 1]'(by omega)) := Array.getElem?_eq_getElem _
            generalize cur3[o2 + i * 2 + 1]'(by omega) = old at hk
            obtain ⟨y1, f1⟩ := cell_of k1 hk
            obtain ⟨p0, p1, _, _⟩ := obj_two (hch2.out.obj B9'.out (fun ⟨o, e⟩ => by
              have := (hg23.out _ ⟨o, e⟩).2
              omega))
            have i0 : (0 : Int) ≤ (i : Int) := by omega
            have i1 : (i : Int) < (r.2.length : Int) := by omega
            have HN : Hid (Chg (fun q => ∃ o, some (⟨g2, o2, none⟩ : Addr) = some ⟨q, o, none⟩) w8 (wr.setCell ⟨g2, o2 + i * 2 + 1, none⟩ (.int .i64 0)) ∧ ∀ g o, some (⟨g2, o2, none⟩ : Addr) = some ⟨g, o, none⟩ → ∃ cur, (wr.setCell ⟨g2, o2 + i * 2 + 1, none⟩ (.int .i64 0)).heap[g]? = some (.cells cur 50 (0, 0)) ∧ o + r.2.length * 2 ≤ cur.size) := by
              refine ⟨hch2.out.setCell _ _ (fun _ => ⟨o2, rfl⟩), fun g o e => ?_⟩
              injection e with e
              injection e with e e'
              subst e; subst e'
              exact ⟨_, obj_set _ k1, by simpa using k2⟩
            clear k1 hob hk
            go_wp2
            go_roundw
            case rel => exact ⟨i + 1, by go_num, hlt, HN.out.1, HN.out.2⟩
            case measure => simp [intOf]; omega
          · obtain rfl : i = r.2.length := by omega
            have hfar : Hid (∀ q, w3.heap.size ≤ q → ¬ ∃ o, A3 = some ⟨q, o, none⟩) := fun q hq h => by have := (hg23.out q h).2; omega
            obtain ⟨p0, p1, _, _⟩ := obj_two (hch2.out.obj B9'.out (hfar.out _ (Nat.le_refl _)))
            obtain ⟨q0, q1, _, _⟩ := obj_two (hch2.out.obj B12'.out (hfar.out _ (by omega)))
            have B15r := Lib.hid (hch2.out.obj B15'.out (hfar.out _ (by omega)))
            have M5r := Lib.hid (M5'.out.chg monoE_good hch2.out (fun q h => hfar.out q (by omega)))
            have M7r := Lib.hid (M7'.out.chg monoE_good hch2.out (fun q h => hfar.out q (by omega)))
            have HW2 : Hid (Chg No w wr) := HW8.out.trans hch2.out (fun q h hq => by have := (hg23.out q h).1; omega)
            clear hob hch2
            go_wp2_with (first
              | (go_at_call 21; refine (HA.out _ _ _ _ M5r.out).mono ?_; rintro e w9 ⟨A9, cap9, rfl, h9, c9⟩; have C9 := Lib.hid (c9.alloc (.cells #[.int .i64 r2.1, .slice A9 r2.2.length cap9] 25)); have M9 := Lib.hid (h9.no monoE_good ((Chg.refl _ _).alloc (.cells #[.int .i64 r2.1, .slice A9 r2.2.length cap9] 25))); clear h9 c9; obtain ⟨b0, b1, bf0, bf1⟩ := obj_two (C9.out.obj B15r.out id))
              | (go_at_call 12; refine (ref01Same_self (M7r.out.no monoE_good C9.out) M9.out).mono ?_; rintro e w10 ⟨rfl, h10⟩; have C10 := Lib.hid (C9.out.thenNo h10); clear h10)
              | (go_at_call 13; refine (HC2.out _).mono ?_; rintro e w11 ⟨rfl, rfl⟩))
            go_ret
            exact ⟨rfl, HW2.out.thenNo C10.out⟩
      · obtain rfl : E = .iface 43 (.int .i64 e0) := by rw [hE.out, errV_of _ he]
        clear hE he
        go_wp2_with (first
          | (go_at_call 10; refine HRr.out.mono ?_; rintro e w5 ⟨A5, cap5, rfl, h5, c5⟩; have C5 := Lib.hid c5; clear h5 c5)
          | (go_at_call 13; refine (HCm.out _).mono ?_; rintro e w8 ⟨rfl, rfl⟩))
        go_ret
        exact ⟨rfl, (HWr.out.thenNo C5.out).alloc _⟩
end Go.Proofs.Ytdljgclaccahaaa
