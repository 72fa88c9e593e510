/-
  Forms behind each other; slices.IndexFunc over them; the maker's atom, the reference's At.
-/
import Derived.Test.YtlejcnbpodmleaaCnfC
import Derived.Test.YtlejcnbpodmleaaLater
import Derived.Test.YtlejcnbpodmleaaLin3
namespace Go.Proofs.Ytlejcnbpodmleaa
open Go Go.RowKit

abbrev Lins (R : Nat → Prop) (w : World) (A : Option Addr) (l : List Lin) (cap : Nat) : Prop := Sl linV.mem 2 R w A l cap
theorem linE_good : linV.mem.Good := linV_good.mem
theorem lins_at {R : Nat → Prop} {w : World} {A : Option Addr} {l : List Lin} {cap : Nat} (h : Lins R w A l cap) (i : Nat) (hi : i < l.length) :
    ∃ b o Ai ci, A = some ⟨b, o, none⟩ ∧ R b ∧ w.cell? ⟨b, o + i * 2, none⟩ = some (.int .i64 l[i].1) ∧ w.cell? ⟨b, o + i * 2 + 1, none⟩ = some (.slice Ai l[i].2.length ci) ∧ I64 l[i].1 ∧ Monos R w Ai l[i].2 ci := by
  obtain ⟨b, o, e, hR, cs, hl, hc, hv⟩ := h.at_ i hi
  obtain ⟨Ai, ci, rfl, h1, h2⟩ := lin_cells hv
  exact ⟨b, o, Ai, ci, e, hR, hc 0 _ rfl, hc 1 _ rfl, h1, h2⟩
theorem obj_two' {w : World} {b : Nat} {x y : Value} {t : TypeId} (h : w.heap[b]? = some (.cells #[x, y] t (0, 0))) :
    w.cell? ⟨b, 0, none⟩ = some x ∧ w.cell? ⟨b, 1, none⟩ = some y := by
  simp [World.cell?, h]

set_option maxHeartbeats 400000 in
theorem indexFunc_lins {R : Nat → Prop} {w : World} {A : Option Addr} {l : List Lin} {cap : Nat} (hl : Lins R w A l cap) (fv : FuncId) (hf : Entered fv) (c : Value) (p : Lin → Bool)
    (hp : ∀ w', Chg No w w' → ∀ i (h : i < l.length) Ai ci, Monos R w' Ai l[i].2 ci → Calls Try.prog fv #[.agg #[.int .i64 l[i].1, .slice Ai l[i].2.length ci], c] w' fun e w'' => e = .returned (.bool (p l[i])) ∧ Chg No w' w'') :
    Calls Try.prog 62 #[.slice A l.length cap, .func (.func fv) #[] #[c]] w fun e w' => e = .returned (.int .i64 (findI p l)) ∧ Chg No w w' := by
  have hb := hl.big
  unfold big at hb
  have Hp := Lib.hid hp
  have HL := Lib.hid (fun W (h : Chg No w W) => hl.no linE_good h)
  clear hp hl
  unfold Entered at hf
  go_enter Try.func62, Try.ntmps62
  go_wp2
  go_loopw [8] (fun i wr => ∃ k : Nat, k ≤ l.length ∧ i = .int .i64 k ∧ Hid (Chg No w wr) ∧ Hid (∀ j (h : j < l.length), j < k → p l[j] = false)) (fun i _ => l.length - (intOf i).toNat)
  case atStart => exact ⟨0, Nat.zero_le _, rfl, Chg.refl _ _, fun j h hk => absurd hk (by omega)⟩
  case round =>
    obtain ⟨k, hk, rfl, hch, hall⟩ := hrel
    by_cases hlt : k < l.length
    · obtain ⟨b, o, Ai, ci, rfl, _, hx0, hx1, _, hm⟩ := lins_at (HL.out wr hch.out) k hlt
      have i0 : (0 : Int) ≤ (k : Int) := by omega
      have i1 : (k : Int) < (l.length : Int) := by omega
      have HP := Lib.hid (Hp.out wr hch.out k hlt Ai ci hm)
      have Hhit : Hid (p l[k] = true → findI p l = k) := fun h => findI_hit hlt h hall.out
      have Hmiss : Hid (p l[k] = false → ∀ j (h : j < l.length), j < k + 1 → p l[j] = false) := fun hpk j h hj => by
        rcases Nat.lt_or_ge j k with g | g
        · exact hall.out j h g
        · obtain rfl : j = k := by omega
          exact hpk
      clear hm
      generalize l[k].1 = v at *
      generalize l[k].2 = ts at *
      generalize p l[k] = pk at *
      cases pk with
      | true =>
        have e := Hhit.out rfl
        have HE := Lib.hid e
        clear e
        go_wp2_with (refine HP.out.mono ?_; rintro e w1 ⟨rfl, h1⟩)
        go_ret
        exact ⟨ret_int HE.out.symm, hch.out.thenNo h1⟩
      | false =>
        have HM := Lib.hid (Hmiss.out rfl)
        clear Hmiss Hhit
        go_wp2_with (refine HP.out.mono ?_; rintro e w1 ⟨rfl, h1⟩)
        go_roundw
        case rel => exact ⟨k + 1, hlt, by go_num, hch.out.thenNo h1, HM.out⟩
        case measure => simp [intOf]; omega
    · go_wp2
      go_ret
      exact ⟨ret_int (findI_miss (fun j h => hall.out j h (by omega))).symm, hch.out⟩

theorem entered_atom1 : Entered 63 := fun _ _ => rfl
set_option maxHeartbeats 400000 in
theorem atom1_any {R R' : Nat → Prop} {w : World} {A A' : Option Addr} {a o : Lin} {cap cap' : Nat} (hx : Monos R w A a.2 cap) (hy : Monos R' w A' o.2 cap') (pb : Nat) (h0 : w.cell? ⟨pb, 0, none⟩ = some (.int .i64 a.1)) (h1 : w.cell? ⟨pb, 1, none⟩ = some (.slice A a.2.length cap)) :
    Calls Try.prog 63 #[.agg #[.int .i64 o.1, .slice A' o.2.length cap'], .pointer (some ⟨pb, 0, none⟩)] w fun e w' => e = .returned (.bool (decide (a.1 = o.1 ∧ a.2 = o.2))) ∧ Chg No w w' := by
  have HS := Lib.hid (fun W (h : Chg No w W) => linSame_any (c := a.1) (c' := o.1) (hx.no monoE_good h) (hy.no monoE_good h))
  clear hx hy
  generalize decide (a.1 = o.1 ∧ a.2 = o.2) = ans at *
  generalize a.1 = c at *
  generalize a.2.length = tl at *
  generalize o.1 = c' at *
  generalize o.2.length = tl' at *
  have q0 : (w.alloc (.cells #[.int .i64 c', .slice A' tl' cap'] 24)).cell? ⟨pb, 0, none⟩ = some (.int .i64 c) := ((Chg.refl No w).alloc _).cell h0 id
  have q1 : (w.alloc (.cells #[.int .i64 c', .slice A' tl' cap'] 24)).cell? ⟨pb, 1, none⟩ = some (.slice A tl cap) := ((Chg.refl No w).alloc _).cell h1 id
  go_enter Try.func63, Try.ntmps63
  go_wp2_with (go_at_call 64; refine (HS.out _ ((Chg.refl _ _).alloc _)).mono ?_; rintro e w1 ⟨rfl, h1⟩)
  go_ret
  exact ⟨rfl, ((Chg.refl _ _).alloc _).thenNo h1⟩

set_option maxHeartbeats 400000 in
theorem atom_any {R RA : Nat → Prop} {w : World} {A Al : Option Addr} {l : List Lin} {cap capl : Nat} {a : Lin} (hA : Lins RA w A l cap) (hl : Monos R w Al a.2 capl) (mb : Nat) {t : TypeId} {vN vC vL : Value} (hm : w.heap[mb]? = some (.cells #[vN, .slice A l.length cap, vC, vL] t (0, 0))) :
    Calls Try.prog 43 #[.pointer (some ⟨mb, 0, none⟩), .agg #[.int .i64 a.1, .slice Al a.2.length capl]] w fun e w' => e = .returned (.int .i64 (atI l a)) ∧ Chg No w w' := by
  have hw0 : Chg No w (w.alloc (.cells #[.int .i64 a.1, .slice Al a.2.length capl] 24)) := (Chg.refl _ _).alloc _
  have ho : (w.alloc (.cells #[.int .i64 a.1, .slice Al a.2.length capl] 24)).heap[w.heap.size]? = some (.cells #[.int .i64 a.1, .slice Al a.2.length capl] 24 (0, 0)) := heap_alloc_new _ _
  have HI := Lib.hid (indexFunc_lins (hA.no linE_good hw0) 63 entered_atom1 (.pointer (some ⟨w.heap.size, 0, none⟩)) (fun o => decide (a.1 = o.1 ∧ a.2 = o.2)) (fun w' hw i hi Ai ci hmi => by
    obtain ⟨c0, c1⟩ := obj_two' (hw.obj ho id)
    exact atom1_any (hl.no monoE_good (hw0.thenNo hw)) hmi _ c0 c1))
  have hr := atI_range l a
  have hb := hA.big
  unfold big at hb
  unfold atI at hr ⊢
  obtain ⟨p0, p1, p2, p3⟩ := obj_four hm
  have q1 : (w.alloc (.cells #[.int .i64 a.1, .slice Al a.2.length capl] 24)).cell? ⟨mb, 1, none⟩ = some (.slice A l.length cap) := hw0.cell p1 id
  have HW := Lib.hid hw0
  clear hA hl hm ho hw0 p0 p1 p2 p3
  generalize findI (fun o => decide (a.1 = o.1 ∧ a.2 = o.2)) l = ans at *
  generalize a.1 = c at *
  generalize a.2.length = tl at *
  go_enter Try.func43, Try.ntmps43
  go_wp2_with (go_at_call 62; refine HI.out.mono ?_; rintro e w1 ⟨rfl, h1⟩)
  go_ret
  exact ⟨rfl, HW.out.thenNo h1⟩

set_option maxHeartbeats 1000000 in
theorem at_any {R RA : Nat → Prop} {w : World} {A Al : Option Addr} {l : List Lin} {cap capl : Nat} {a : Lin} (hA : Lins RA w A l cap) (hl : Monos R w Al a.2 capl) :
    Calls Try.prog 49 #[.slice A l.length cap, .agg #[.int .i64 a.1, .slice Al a.2.length capl]] w fun e w' => e = .returned (.int .i64 (atI l a)) ∧ Chg No w w' := by
  obtain ⟨w0, hw0⟩ : ∃ w0, w0 = w.alloc (.cells #[.int .i64 a.1, .slice Al a.2.length capl] 24) := ⟨_, rfl⟩
  have h0 : Hid (Chg No w w0 ∧ w0.heap[w.heap.size]? = some (.cells #[.int .i64 a.1, .slice Al a.2.length capl] 24 (0, 0))) := by
    rw [hw0]; exact ⟨(Chg.refl _ _).alloc _, heap_alloc_new _ _⟩
  have HA := Lib.hid (fun W (h : Chg No w W) => hA.no linE_good h)
  have HL := Lib.hid (fun W (h : Chg No w W) => hl.no monoE_good h)
  have hb := hA.big
  unfold big at hb
  clear hA hl
  have Hhit : Hid (∀ k (h : k < l.length), (∀ j (h : j < l.length), j < k → decide (l[j].1 = a.1 ∧ l[j].2 = a.2) = false) → decide (l[k].1 = a.1 ∧ l[k].2 = a.2) = true → (k : Int) + 1 = atI l a) := fun k hk hall h => by
    unfold atI
    rw [findI_hit hk (by simp only [decide_eq_true_eq] at h ⊢; exact ⟨h.1.symm, h.2.symm⟩) (fun j hj hjk => by have := hall j hj hjk; simp only [decide_eq_false_iff_not] at this ⊢; exact fun e => this ⟨e.1.symm, e.2.symm⟩)]
    omega
  have Hmiss : Hid ((∀ j (h : j < l.length), decide (l[j].1 = a.1 ∧ l[j].2 = a.2) = false) → (0 : Int) = atI l a) := fun hall => by
    unfold atI
    rw [findI_miss (fun j hj => by have := hall j hj; simp only [decide_eq_false_iff_not] at this ⊢; exact fun e => this ⟨e.1.symm, e.2.symm⟩)]
    omega
  generalize atI l a = ans at *
  go_enter Try.func49, Try.ntmps49
  go_wp2
  rw [← hw0]
  clear hw0
  go_loopw [5] (fun s5 wr => ∃ k : Nat, k ≤ l.length ∧ s5 = .int .i64 k ∧ Hid (Chg No w0 wr) ∧ Hid (∀ j (h : j < l.length), j < k → decide (l[j].1 = a.1 ∧ l[j].2 = a.2) = false)) (fun s5 _ => l.length - (intOf s5).toNat)
  case atStart => exact ⟨0, Nat.zero_le _, rfl, Chg.refl _ _, fun j h hk => absurd hk (by omega)⟩
  case round =>
    obtain ⟨k, hk, rfl, hch, hall⟩ := hrel
    obtain ⟨p0, p1⟩ := obj_two' (hch.out.obj h0.out.2 id)
    by_cases hlt : k < l.length
    · obtain ⟨b, o, Ai, ci, rfl, _, hx0, hx1, _, hm⟩ := lins_at (HA.out wr (h0.out.1.thenNo hch.out)) k hlt
      have hl' := HL.out wr (h0.out.1.thenNo hch.out)
      have i0 : (0 : Int) ≤ (k : Int) := by omega
      have i1 : (k : Int) < (l.length : Int) := by omega
      have HSl : Hid (∀ d os, _) := fun d os => Calls.later_of (ref01Same_any (c := l[k].1) (c' := a.1) (hm.no monoE_good (chg_later wr d os)) (hl'.no monoE_good (chg_later wr d os)))
      have HH := Lib.hid (Hhit.out k hlt hall.out)
      have HM : Hid (decide (l[k].1 = a.1 ∧ l[k].2 = a.2) = false → ∀ j (h : j < l.length), j < k + 1 → decide (l[j].1 = a.1 ∧ l[j].2 = a.2) = false) := fun hpk j h hj => by
        rcases Nat.lt_or_ge j k with g | g
        · exact hall.out j h g
        · obtain rfl : j = k := by omega
          exact hpk
      clear hm hl'
      generalize decide (l[k].1 = a.1 ∧ l[k].2 = a.2) = pk at *
      generalize l[k].1 = c at *
      generalize l[k].2.length = tl at *
      generalize a.1 = c' at *
      generalize a.2.length = tl' at *
      have l0 := cell_later p0
      have l1 := cell_later p1
      have l2 := cell_later hx0
      have l3 := cell_later hx1
      clear Hhit Hmiss
      go_wp2_with fail
      refine wp_region_later (by kernel_rfl) (by kernel_rfl) ?_
      repeat (quiet_step ((go_at_call 30; exact HSl.out _ _)))
      refine wpQuiet_nil ?_
      intro _ hw'
      obtain ⟨⟨dq, osq⟩, hw''⟩ := hw'
      subst hw''
      have Hc := Lib.hid (hch.out.thenNo (chg_later wr dq osq))
      cases pk with
      | true =>
        have HE := Lib.hid (HH.out rfl)
        clear HH HM
        go_wp2
        go_ret
        exact ⟨ret_int HE.out, h0.out.1.thenNo Hc.out⟩
      | false =>
        have HE := Lib.hid (HM.out rfl)
        clear HH HM
        go_wp2
        go_roundw
        case rel => exact ⟨k + 1, hlt, by go_num, Hc.out, HE.out⟩
        case measure => simp [intOf]; omega
    · have HE := Lib.hid (Hmiss.out (fun j h => hall.out j h (by omega)))
      clear Hmiss Hhit
      go_wp2
      go_ret
      exact ⟨ret_int HE.out, h0.out.1.thenNo hch.out⟩
end Go.Proofs.Ytlejcnbpodmleaa
