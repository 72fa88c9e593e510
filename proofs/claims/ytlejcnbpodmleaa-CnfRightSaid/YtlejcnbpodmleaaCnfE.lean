/-
  The maker's gather, the reference's atoms.
-/
import Derived.Test.YtlejcnbpodmleaaCnfD
import Derived.Test.YtlejcnbpodmleaaOwnL
import Derived.Deep.RegionLaw
namespace Go.Proofs.Ytlejcnbpodmleaa
open Go Go.RowKit

theorem linsTy : SliceTy Try.prog 30 24 2 32 (.agg #[.int .i64 0, .slice none 0 0]) := ⟨Try.underlying30, by kernel_rfl, rfl, by decide, by decide⟩
theorem lin_one {R : Nat → Prop} {w : World} {cs : List Value} {x : Lin} (h : linV R w cs x) : ∀ u ∈ cs, u.oneCell' = true := by
  obtain ⟨A, cap, rfl, _⟩ := lin_cells h
  simp [Value.oneCell']
theorem obj_frozen {w : World} {b : Nat} {x y z u : Value} {t : TypeId} (h : w.heap[b]? = some (.cells #[x, y, z, u] t (0, 0))) (i : Nat) : w.frozen? ⟨b, i, none⟩ = false := by
  simp [World.frozen?, h]
theorem obj_setC {w : World} {b j : Nat} {cs : Array Value} {t : TypeId} (u : Value) (h : w.heap[b]? = some (.cells cs t (0, 0))) : (w.setCell ⟨b, j, none⟩ u).heap[b]? = some (.cells (cs.setIfInBounds j u) t (0, 0)) := by
  simp [World.setCell, Array.getElem?_modify, h]

theorem form_shape : ∀ {n : Nat} {R : Nat → Prop} {w : World} {cs : List Value} {x : FT n}, (formV n) R w cs x → ∃ kd c A tl cap B kl capk, cs = [.int .i64 kd, .int .i64 c, .slice A tl cap, .slice B kl capk]
  | 0, _, _, _, _, h => h.elim
  | n + 1, _, _, _, _, h => by
    obtain ⟨A, cap, B, capk, e, _⟩ := node_cells h
    exact ⟨_, _, _, _, _, _, _, _, e⟩

/-- All but what X tells of, and the block mb: what a call of the maker's may change. -/
def Mk (X : Nat → Prop) (mb : Nat) : Nat → Prop := fun k => k = mb ∨ ¬ X k
/-- What stays. -/
def St9 (X : Nat → Prop) (mb : Nat) : Nat → Prop := fun k => X k ∧ k ≠ mb
theorem st_mk {X : Nat → Prop} {mb : Nat} : ∀ k, St9 X mb k → ¬ Mk X mb k := fun _ h g => g.elim h.2 (fun g => g h.1)
/-- The atoms that the maker holds. -/
abbrev OLins (X : Nat → Prop) (mb : Nat) (w : World) (v : Value) (l : List Lin) : Prop := OwnL linV 24 (fun k => ¬ X k) (St9 X mb) w v l

def atomsL (n : Nat) (ks : List (FT n)) (l : List Lin) : List Lin := ks.foldl (fun l k => atomsF n k l) l
theorem atomsL_take {n : Nat} {ks : List (FT n)} {l : List Lin} {i : Nat} (hi : i < ks.length) : atomsL n (ks.take (i + 1)) l = atomsF n ks[i] (atomsL n (ks.take i) l) := by
  unfold atomsL
  rw [List.take_succ_eq_append_getElem hi, List.foldl_append]
  rfl
theorem sum_take {α : Type} (c : α → Nat) (ks : List α) (i : Nat) (hi : i < ks.length) : ((ks.take i).map c).sum + c ks[i] ≤ (ks.map c).sum := by
  have h1 : ks = ks.take i ++ ks[i] :: ks.drop (i + 1) := by rw [← List.drop_eq_getElem_cons hi, List.take_append_drop]
  have h2 : (ks.map c).sum = ((ks.take i).map c).sum + (c ks[i] + ((ks.drop (i + 1)).map c).sum) := by
    conv => lhs; rw [h1]
    rw [List.map_append, List.sum_append, List.map_cons, List.sum_cons]
  omega
theorem atomsL_len {n : Nat} (ks : List (FT n)) (l : List Lin) (i : Nat) (hi : i < ks.length) : (atomsL n (ks.take i) l).length + cntF n ks[i] ≤ l.length + (ks.map (cntF n)).sum := by
  have h1 := foldl_len (c := cntF n) (s := fun l k => atomsF n k l) (ks.take i) l (fun k _ l => atoms_len n k l)
  have h2 := sum_take (cntF n) ks i hi
  unfold atomsL
  omega

def GatherOk (n : Nat) : Prop := ∀ (f : FT n) (X : Nat → Prop) (mb : Nat) (w : World) (cs : List Value), (formV n) (St9 X mb) w cs f → onlyF n f = true → X mb → (∀ k, X k → k < w.heap.size) →
  ∀ (v : Value) (l : List Lin) (vN vC vL : Value), w.heap[mb]? = some (.cells #[vN, v, vC, vL] 61 (0, 0)) → OLins X mb w v l → l.length + cntF n f ≤ 100000 →
    Calls Try.prog 22 #[.pointer (some ⟨mb, 0, none⟩), .agg cs.toArray] w fun e w' => ∃ v', e = .returned (.tuple #[]) ∧ w'.heap[mb]? = some (.cells #[vN, v', vC, vL] 61 (0, 0)) ∧ OLins X mb w' v' (atomsF n f l) ∧ Chg (Mk X mb) w w'

set_option maxRecDepth 100000 in
set_option maxHeartbeats 4000000 in
theorem gather_step (n : Nat) (IH : Hid (GatherOk n)) : GatherOk (n + 1) := by
    rintro f X mb w cs h hon hX hXs v l vN vC vL hobj hown hlen
    obtain ⟨A, cap, B, capk, rfl, i1, i2, hm, hk⟩ := node_cells h
    obtain ⟨hok, hkids⟩ := only_kids hon
    have hle := fun h => only_le hok h
    have hcnt : cntF (n + 1) f = 1 + ((Node.kids f).map (cntF n)).sum := rfl
    rw [hcnt] at hlen
    have hb1 := hm.big
    have hb2 := hk.big
    unfold big at hb1 hb2
    have hans : atomsF (n + 1) f l = atomsL n (Node.kids f) (if Node.kind f = 2 ∧ atI l (Node.lin f) = 0 then l ++ [Node.lin f] else l) := rfl
    rw [hans]
    clear h hans hok hon hcnt
    generalize Node.kind f = kd at *
    generalize Node.lin f = lin at *
    generalize Node.kids f = ks at *
    obtain ⟨c, t⟩ := lin
    simp only at hm hb1 i2 ⊢
    obtain ⟨w3, hw3⟩ : ∃ w3, w3 = w.alloc (.cells #[.int .i64 kd, .int .i64 c, .slice A t.length cap, .slice B ks.length capk] 27) := ⟨_, rfl⟩
    have hmbs : mb < w.heap.size := hXs mb hX
    have h3 : Hid (Chg No w w3 ∧ w3.heap[w.heap.size]? = some (.cells #[.int .i64 kd, .int .i64 c, .slice A t.length cap, .slice B ks.length capk] 27 (0, 0)) ∧ w3.heap[mb]? = some (.cells #[vN, v, vC, vL] 61 (0, 0))) := by
      rw [hw3]; exact ⟨(Chg.refl _ _).alloc _, heap_alloc_new _ _, ((Chg.refl No w).alloc _).obj hobj id⟩
    have HX := Lib.hid (And.intro hX hXs)
    have HOB := Lib.hid (And.intro hobj hown)
    have HMo := Lib.hid hm
    have HKi := Lib.hid hk
    have HKd := Lib.hid hkids
    have hL : l.length ≤ 100000 := by omega
    have HLN := Lib.hid hlen
    clear hX hXs hobj hown hm hk hkids hlen
    by_cases hk2 : kd = 2
    · have hks := hle hk2
      subst hks
      subst hk2
      clear hle
      simp only [List.length_nil] at hw3 h3
      by_cases hat : atI l (c, t) = 0
      · rw [if_pos ⟨rfl, hat⟩]
        have HAt : Hid (Calls Try.prog 43 #[.pointer (some ⟨mb, 0, none⟩), .agg #[.int .i64 c, .slice A t.length cap]] w3 fun e w' => e = .returned (.int .i64 0) ∧ Chg No w3 w') := by
          obtain ⟨AA, capA, rfl, hs⟩ := HOB.out.2.sl linV_good (by show l.length * 32 ≤ big; unfold big; omega)
          have := atom_any (a := (c, t)) (hs.no linE_good h3.out.1) (HMo.out.no monoE_good h3.out.1) mb h3.out.2.2
          rw [hat] at this
          exact this
        have HS1 := Lib.hid (HOB.out.2.no linV_good h3.out.1)
        have HM1 := Lib.hid (HMo.out.no monoE_good h3.out.1)
        have hw3s : Hid (∀ k, X k → k < w3.heap.size) := fun k hk => Nat.lt_of_lt_of_le (HX.out.2 k hk) h3.out.1.size
        clear hat HLN HKi HKd HMo IH
        go_enter Try.func22, Try.ntmps22
        go_upto_region 1 with fail
        rw [← hw3]
        obtain ⟨p0, p1, p2, p3⟩ := obj_four h3.out.2.1
        clear hw3
        go_upto_region 2 with (go_at_call 43; refine HAt.out.mono ?_; rintro e w4 ⟨rfl, h4⟩; have H4 := Lib.hid h4; obtain ⟨p0, p1, p2, p3⟩ := obj_four (h4.obj h3.out.2.1 id); obtain ⟨m0, m1, m2, m3⟩ := obj_four (h4.obj h3.out.2.2 id); clear h4)
        have HG : Hid (∀ w7 A2 cap2, OLins X mb w7 (.slice A2 (l.length + 1) cap2) (l ++ [(c, t)]) → Chg (fun q => v.ownBlock = some q) w4 w7 →
            (w7.cell? ⟨mb, 1, none⟩ = some v ∧ w7.frozen? ⟨mb, 1, none⟩ = false) ∧ Hid (Chg (Mk X mb) w (w7.setCell ⟨mb, 1, none⟩ (.slice A2 (l.length + 1) cap2)) ∧ (w7.setCell ⟨mb, 1, none⟩ (.slice A2 (l.length + 1) cap2)).heap[mb]? = some (.cells #[vN, .slice A2 (l.length + 1) cap2, vC, vL] 61 (0, 0)) ∧ OLins X mb (w7.setCell ⟨mb, 1, none⟩ (.slice A2 (l.length + 1) cap2)) (.slice A2 (l.length + 1) cap2) (l ++ [(c, t)])) ∧ (w7.setCell ⟨mb, 1, none⟩ (.slice A2 (l.length + 1) cap2)).cell? ⟨w.heap.size, 3, none⟩ = some (.slice B 0 capk)) := fun w7 A2 cap2 g1 g2 => by
          have hmo : ∀ q, v.ownBlock = some q → ¬ X q := fun q hq => (HS1.out.mine q hq).1
          have hmb : w7.heap[mb]? = some (.cells #[vN, v, vC, vL] 61 (0, 0)) := g2.obj (H4.out.obj h3.out.2.2 id) (fun e => hmo mb e HX.out.1)
          have hch : Chg (Mk X mb) w w7 := ((h3.out.1.thenNo H4.out).no (S := Mk X mb)).trans g2 (fun k hk _ => .inr (hmo k hk))
          have hset := (Chg.refl (fun q => q = mb) w7).setCell ⟨mb, 1, none⟩ (.slice A2 (l.length + 1) cap2) (fun _ => rfl)
          have hbx : (w7.setCell ⟨mb, 1, none⟩ (.slice A2 (l.length + 1) cap2)).cell? ⟨w.heap.size, 3, none⟩ = some (.slice B 0 capk) :=
            hset.cell (g2.cell p3 (fun e => by have := (HOB.out.2.mine _ e).2; omega)) (fun e => by omega)
          refine ⟨⟨(obj_four hmb).2.1, obj_frozen hmb 1⟩, ⟨hch.trans hset (fun k hk _ => .inl hk), obj_setC _ hmb, g1.chg linV_good hset (fun k hk e => (g1.mine k hk).1 (by rw [e]; exact HX.out.1)) (fun k hk _ e => hk.2 e)⟩, hbx⟩
        have HV : Hid (linV (fun k => St9 X mb k ∧ v.ownBlock ≠ some k) w4 [.int .i64 c, .slice A t.length cap] (c, t)) := lin_of (l := (c, t)) i2 ((HM1.out.no monoE_good H4.out).mono monoE_good (fun k _ hk => ⟨hk, fun e => (HS1.out.mine k e).1 hk.1⟩))
        have HS4 := Lib.hid (HS1.out.no linV_good H4.out)
        have HX4 : Hid (∀ k, w4.heap.size ≤ k → ¬ X k) := fun k hk hx => by have := hw3s.out k hx; have := H4.out.size; omega
        have a1 := ((Chg.refl No w4).alloc (.cells #[.int .i64 c, .slice A t.length cap] 24)).cell m1 id
        clear HS1 HM1 HAt
        go_cut [] (fun wx => ∃ A2 cap2, Hid (Chg (Mk X mb) w wx ∧ wx.heap[mb]? = some (.cells #[vN, .slice A2 (l.length + 1) cap2, vC, vL] 61 (0, 0)) ∧ OLins X mb wx (.slice A2 (l.length + 1) cap2) (l ++ [(c, t)])) ∧ wx.cell? ⟨w.heap.size, 3, none⟩ = some (.slice B 0 capk))
        case first =>
          go_region_law
            ((refine step_pushL linV_good linsTy (by rfl) (.tmp 21) (.tmp 24) (by rfl) (M := fun k => ¬ X k) (R := St9 X mb) (w := w4) HX4.out HS4.out (by rfl) HV.out (by simp [Value.oneCell']) (((Chg.refl No w4).drewN _).alloc (.cells #[.int .i64 c, .slice A t.length cap] 24)) (news_alloc _ [.int .i64 c, .slice A t.length cap] 24) (by rfl) (show (l.length + 1) * 32 ≤ 140737488355328 by omega) ?_; intro A2 cap2 w7 g1 g2; obtain ⟨⟨q1, q2⟩, G1, q3⟩ := HG.out w7 A2 cap2 g1 g2; clear g1 g2))
          all_goals (go_wp2_with fail; go_meet; exact ⟨A2, cap2, G1, q3⟩)
        case rest =>
          obtain ⟨A2, cap2, G1, q3⟩ := hcut
          clear HG HV HS4 HX4 a1 m0 m1 m2 m3 p0 p1 p2 p3 h3 HOB
          go_wp2_with fail
          go_loopw [32] (fun s32 wr => s32 = .int .i64 (0 : Nat) ∧ wr = wc) (fun _ _ => 0)
          case atStart => exact ⟨rfl, rfl⟩
          case round =>
            obtain ⟨rfl, rfl⟩ := hrel
            go_wp2
            go_end0
            exact ⟨_, rfl, G1.out.2.1, G1.out.2.2, G1.out.1⟩
      · rw [if_neg (fun h => hat h.2)]
        have HAt : Hid (Calls Try.prog 43 #[.pointer (some ⟨mb, 0, none⟩), .agg #[.int .i64 c, .slice A t.length cap]] w3 fun e w' => e = .returned (.int .i64 (atI l (c, t))) ∧ Chg No w3 w') := by
          obtain ⟨AA, capA, rfl, hs⟩ := HOB.out.2.sl linV_good (by show l.length * 32 ≤ big; unfold big; omega)
          exact atom_any (a := (c, t)) (hs.no linE_good h3.out.1) (HMo.out.no monoE_good h3.out.1) mb h3.out.2.2
        have e1 : (atI l (c, t) == 0) = false := by simpa using hat
        have HS1 := Lib.hid (HOB.out.2.no linV_good h3.out.1)
        clear hat HLN HKi HKd HMo IH
        generalize atI l (c, t) = ai at *
        go_enter Try.func22, Try.ntmps22
        go_upto_region 1 with fail
        rw [← hw3]
        obtain ⟨p0, p1, p2, p3⟩ := obj_four h3.out.2.1
        clear hw3
        go_wp2_with (go_at_call 43; refine HAt.out.mono ?_; rintro e w4 ⟨rfl, h4⟩; have H4 := Lib.hid h4; obtain ⟨p0, p1, p2, p3⟩ := obj_four (h4.obj h3.out.2.1 id); clear h4)
        go_loopw [32] (fun s32 wr => s32 = .int .i64 (0 : Nat) ∧ wr = w4) (fun _ _ => 0)
        case atStart => exact ⟨rfl, rfl⟩
        case round =>
          obtain ⟨rfl, rfl⟩ := hrel
          go_wp2
          go_end0
          exact ⟨v, rfl, H4.out.obj h3.out.2.2 id, HS1.out.no linV_good H4.out, (h3.out.1.thenNo H4.out).no⟩
    · rw [if_neg (fun h => hk2 h.1)]
      have e2 : (kd == 2) = false := by simpa using hk2
      clear hle hk2
      have hLS : Hid (∀ i (hi : i < ks.length), (atomsL n (ks.take i) l).length + cntF n ks[i] ≤ 100000) := fun i hi => by
        have := atomsL_len ks l i hi
        have := HLN.out
        omega
      have hstart : Hid (w3.heap[mb]? = some (.cells #[vN, v, vC, vL] 61 (0, 0)) ∧ OLins X mb w3 v (atomsL n (ks.take 0) l) ∧ Chg (Mk X mb) w3 w3) := ⟨h3.out.2.2, HOB.out.2.no linV_good h3.out.1, Chg.refl _ _⟩
      have HKi2 : Hid (∀ W, Chg (Mk X mb) w3 W → Forms (St9 X mb) W B ks capk) := fun W hW => (HKi.out.no (formE_good n) h3.out.1).chg (formE_good n) hW st_mk
      go_enter Try.func22, Try.ntmps22
      go_wp2_with fail
      rw [← hw3]
      clear hw3
      go_loopw [32] (fun s32 wr => ∃ (i : Nat) (vi : Value), s32 = .int .i64 i ∧ i ≤ ks.length ∧ Hid (wr.heap[mb]? = some (.cells #[vN, vi, vC, vL] 61 (0, 0)) ∧ OLins X mb wr vi (atomsL n (ks.take i) l) ∧ Chg (Mk X mb) w3 wr)) (fun s32 _ => ks.length - (intOf s32).toNat)
      case atStart => exact ⟨0, v, rfl, Nat.zero_le _, hstart⟩
      case round =>
        obtain ⟨i, vi, rfl, gi, hst⟩ := hrel
        by_cases hlt : i < ks.length
        · obtain ⟨b, o, v0, v1, v2, v3, rfl, hv, x0, x1, x2, x3⟩ := forms_at (HKi2.out wr hst.out.2.2) i hlt
          obtain ⟨kd', c', A', tl', cap', B', kl', capk', ev⟩ := form_shape hv
          cases ev
          have HG := Lib.hid (atomsL_take (l := l) hlt)
          have HI : Hid (∀ W, Chg No wr W → Calls Try.prog 22 #[.pointer (some ⟨mb, 0, none⟩), .agg #[.int .i64 kd', .int .i64 c', .slice A' tl' cap', .slice B' kl' capk']] W fun e w' => e = .returned (.tuple #[]) ∧ ∃ v', Hid (w'.heap[mb]? = some (.cells #[vN, v', vC, vL] 61 (0, 0)) ∧ OLins X mb w' v' (atomsL n (ks.take (i + 1)) l) ∧ Chg (Mk X mb) w3 w')) := fun W hW => by
            refine (IH.out ks[i] X mb W _ ((formV_good n).no hv hW) (HKd.out _ (List.getElem_mem hlt)) HX.out.1 (fun k hk => Nat.lt_of_lt_of_le (HX.out.2 k hk) (Nat.le_trans h3.out.1.size (Nat.le_trans hst.out.2.2.size hW.size))) vi (atomsL n (ks.take i) l) vN vC vL (hW.obj hst.out.1 id) (hst.out.2.1.no linV_good hW) (hLS.out i hlt)).mono ?_
            rintro e w' ⟨v', rfl, g1, g2, g3⟩
            exact ⟨rfl, v', g1, by rw [HG.out]; exact g2, (hst.out.2.2.thenNo hW).trans g3 (fun k hk _ => hk)⟩
          have i0 : (0 : Int) ≤ (i : Int) := by omega
          have i1 : (i : Int) < (ks.length : Int) := by omega
          clear hv IH hst hLS
          go_wp2_with (go_at_call 22; refine (HI.out _ ((Chg.refl _ _).alloc _)).mono ?_; rintro e w5 ⟨rfl, v5, h5⟩)
          go_roundw
          case rel => exact ⟨i + 1, v5, by go_num, hlt, h5⟩
          case measure => simp [intOf]; omega
        · obtain rfl : i = ks.length := by omega
          rw [List.take_of_length_le (Nat.le_refl _)] at hst
          go_wp2
          go_end0
          exact ⟨vi, rfl, hst.out.1, hst.out.2.1, h3.out.1.no.trans hst.out.2.2 (fun k hk _ => hk)⟩
theorem gather_any : ∀ n, GatherOk n
  | 0 => fun _ _ _ _ _ h => h.elim
  | n + 1 => gather_step n (Lib.hid (gather_any n))

/-- The atoms that the reference holds. -/
abbrev RLins (X Y : Nat → Prop) (w : World) (v : Value) (l : List Lin) : Prop := OwnL linV 24 (fun k => ¬ X k) Y w v l
def AtomsOk (n : Nat) : Prop := ∀ (f : FT n) (X Y : Nat → Prop) (w : World) (cs : List Value), (formV n) Y w cs f → onlyF n f = true → (∀ k, Y k → X k) → (∀ k, X k → k < w.heap.size) →
  ∀ (v : Value) (l : List Lin), RLins X Y w v l → l.length + cntF n f ≤ 100000 →
    Calls Try.prog 27 #[.agg cs.toArray, v] w fun e w' => ∃ v', e = .returned v' ∧ RLins X Y w' v' (atomsF n f l) ∧ Chg (fun k => ¬ X k) w w'

set_option maxRecDepth 100000 in
set_option maxHeartbeats 4000000 in
theorem atoms_step (n : Nat) (IH : Hid (AtomsOk n)) : AtomsOk (n + 1) := by
    rintro f X Y w cs h hon hYX hXs v l hown hlen
    obtain ⟨A, cap, B, capk, rfl, i1, i2, hm, hk⟩ := node_cells h
    obtain ⟨hok, hkids⟩ := only_kids hon
    have hle := fun h => only_le hok h
    have hcnt : cntF (n + 1) f = 1 + ((Node.kids f).map (cntF n)).sum := rfl
    rw [hcnt] at hlen
    have hb1 := hm.big
    have hb2 := hk.big
    unfold big at hb1 hb2
    have hans : atomsF (n + 1) f l = atomsL n (Node.kids f) (if Node.kind f = 2 ∧ atI l (Node.lin f) = 0 then l ++ [Node.lin f] else l) := rfl
    rw [hans]
    clear h hans hok hon hcnt
    generalize Node.kind f = kd at *
    generalize Node.lin f = lin at *
    generalize Node.kids f = ks at *
    obtain ⟨c, t⟩ := lin
    simp only at hm hb1 i2 ⊢
    obtain ⟨A0, cap0, rfl⟩ : ∃ A0 cap0, v = .slice A0 l.length cap0 := by
      obtain ⟨A0, cap0, e, _⟩ := hown.value
      exact ⟨A0, cap0, e⟩
    obtain ⟨w3, hw3⟩ : ∃ w3, w3 = w.alloc (.cells #[.int .i64 kd, .int .i64 c, .slice A t.length cap, .slice B ks.length capk] 27) := ⟨_, rfl⟩
    have h3 : Hid (Chg No w w3 ∧ w3.heap[w.heap.size]? = some (.cells #[.int .i64 kd, .int .i64 c, .slice A t.length cap, .slice B ks.length capk] 27 (0, 0))) := by
      rw [hw3]; exact ⟨(Chg.refl _ _).alloc _, heap_alloc_new _ _⟩
    have HXs := Lib.hid hXs
    have HOW := Lib.hid hown
    have HMo := Lib.hid hm
    have HKi := Lib.hid hk
    have HKd := Lib.hid hkids
    have hL : l.length ≤ 100000 := by omega
    have HLN := Lib.hid hlen
    clear hXs hown hm hk hkids hlen
    by_cases hk2 : kd = 2
    · have hks := hle hk2
      subst hks
      subst hk2
      clear hle
      simp only [List.length_nil] at hw3 h3
      have HAt : Hid (Calls Try.prog 49 #[.slice A0 l.length cap0, .agg #[.int .i64 c, .slice A t.length cap]] w3 fun e w' => e = .returned (.int .i64 (atI l (c, t))) ∧ Chg No w3 w') := by
        obtain ⟨AA, capA, e, hs⟩ := HOW.out.sl linV_good (by show l.length * 32 ≤ big; unfold big; omega)
        cases e
        exact at_any (a := (c, t)) (hs.no linE_good h3.out.1) (HMo.out.no monoE_good h3.out.1)
      have HS1 := Lib.hid (HOW.out.no linV_good h3.out.1)
      have HM1 := Lib.hid (HMo.out.no monoE_good h3.out.1)
      clear HLN HKi HKd HMo IH
      by_cases hat : atI l (c, t) = 0
      · rw [if_pos ⟨rfl, hat⟩]
        rw [hat] at HAt
        have hw3s : Hid (∀ W, Chg No w3 W → ∀ k, W.heap.size ≤ k → ¬ X k) := fun W hW k hk hx => by have := HXs.out k hx; have := h3.out.1.size; have := hW.size; omega
        have HV : Hid (∀ W, Chg No w3 W → linV (fun k => Y k ∧ (Value.slice A0 l.length cap0).ownBlock ≠ some k) W [.int .i64 c, .slice A t.length cap] (c, t)) := fun W hW => lin_of (l := (c, t)) i2 ((HM1.out.no monoE_good hW).mono monoE_good (fun k _ hk => ⟨hk, fun e => (HS1.out.mine k e).1 (hYX k hk)⟩))
        clear hat
        go_enter Try.func27, Try.ntmps27
        go_upto_region 1 with fail
        rw [← hw3]
        obtain ⟨p0, p1, p2, p3⟩ := obj_four h3.out.2
        clear hw3
        go_wp2_with (first
          | (go_at_call 49; refine HAt.out.mono ?_; rintro e w4 ⟨rfl, h4⟩; have H4 := Lib.hid h4; obtain ⟨p0, p1, p2, p3⟩ := obj_four (h4.obj h3.out.2 id); clear h4)
          | (at_builtin; refine wpList_pushL linV_good linsTy rfl (.tmp 16) (.tmp 19) rfl (hw3s.out w4 H4.out) (HS1.out.no linV_good H4.out) rfl (HV.out w4 H4.out) (by simp [Value.oneCell']) rfl (show (l.length + 1) * 32 ≤ 140737488355328 by omega) ?_; intro A2 cap2 w7 g1 g2; have G1 := Lib.hid (And.intro g1 g2); clear g1 g2))
        go_ret
        exact ⟨_, rfl, G1.out.1, ((h3.out.1.thenNo H4.out).no).trans G1.out.2 (fun k hk _ => (HS1.out.mine k hk).1)⟩
      · rw [if_neg (fun h => hat h.2)]
        have e1 : (atI l (c, t) == 0) = false := by simpa using hat
        clear hat
        generalize atI l (c, t) = ai at *
        go_enter Try.func27, Try.ntmps27
        go_upto_region 1 with fail
        rw [← hw3]
        obtain ⟨p0, p1, p2, p3⟩ := obj_four h3.out.2
        clear hw3
        go_wp2_with (go_at_call 49; refine HAt.out.mono ?_; rintro e w4 ⟨rfl, h4⟩; have H4 := Lib.hid h4; obtain ⟨p0, p1, p2, p3⟩ := obj_four (h4.obj h3.out.2 id); clear h4)
        go_loopw [1, 5] (fun s1 s5 wr => s1 = .slice A0 l.length cap0 ∧ s5 = .int .i64 (0 : Nat) ∧ wr = w4) (fun _ _ _ => 0)
        case atStart => exact ⟨rfl, rfl, rfl⟩
        case round =>
          obtain ⟨rfl, rfl, rfl⟩ := hrel
          go_wp2
          go_ret
          exact ⟨_, rfl, HS1.out.no linV_good H4.out, (h3.out.1.thenNo H4.out).no⟩
    · rw [if_neg (fun h => hk2 h.1)]
      have e2 : (kd == 2) = false := by simpa using hk2
      clear hle hk2
      have hLS : Hid (∀ i (hi : i < ks.length), (atomsL n (ks.take i) l).length + cntF n ks[i] ≤ 100000) := fun i hi => by
        have := atomsL_len ks l i hi
        have := HLN.out
        omega
      have HX1 : Hid (∃ X1 : Nat → Prop, (∀ k, X1 k ↔ X k ∨ k = w.heap.size)) := ⟨fun k => X k ∨ k = w.heap.size, fun k => Iff.rfl⟩
      obtain ⟨X1, hX1⟩ := HX1.out
      have HX1 := Lib.hid hX1
      have HYX := Lib.hid hYX
      clear hX1 hYX
      have hsz : Hid (w.heap.size < w3.heap.size) := (Array.getElem?_eq_some_iff.1 h3.out.2).1
      have HX1s : Hid (∀ W, Chg (fun k => ¬ X1 k) w3 W → ∀ k, X1 k → k < W.heap.size) := fun W hW k hk => by
        have h1 := hW.size
        have h2 := hsz.out
        rcases (HX1.out k).1 hk with h | h
        · have := HXs.out k h; omega
        · omega
      have hstart : Hid (RLins X1 Y w3 (.slice A0 l.length cap0) (atomsL n (ks.take 0) l) ∧ Chg (fun k => ¬ X1 k) w3 w3) :=
        ⟨(HOW.out.mono linV_good (fun k hk h g => ((HX1.out k).1 g).elim h (fun e => by omega)) (fun _ _ h => h)).no linV_good h3.out.1, Chg.refl _ _⟩
      have HKi2 : Hid (∀ W, Chg (fun k => ¬ X1 k) w3 W → Forms Y W B ks capk) := fun W hW => (HKi.out.no (formE_good n) h3.out.1).chg (formE_good n) hW (fun k hk g => g ((HX1.out k).2 (.inl (HYX.out k hk))))
      have HBX : Hid (∀ W, Chg (fun k => ¬ X1 k) w3 W → W.cell? ⟨w.heap.size, 2 + 1, none⟩ = some (.slice B ks.length capk)) := fun W hW => hW.cell (obj_four h3.out.2).2.2.2 (fun g => g ((HX1.out _).2 (.inr rfl)))
      have HEND : Hid (∀ W v, RLins X1 Y W v (atomsL n ks l) → Chg (fun k => ¬ X1 k) w3 W → RLins X Y W v (atomsL n ks l) ∧ Chg (fun k => ¬ X k) w W) := fun W v h1 h2 =>
        ⟨h1.mono linV_good (fun k _ h g => h ((HX1.out k).2 (.inl g))) (fun _ _ h => h), h3.out.1.no.trans h2 (fun k hk _ g => hk ((HX1.out k).2 (.inl g)))⟩
      clear HOW HKi HMo HLN
      go_enter Try.func27, Try.ntmps27
      go_wp2_with fail
      rw [← hw3]
      clear hw3
      go_loopw [1, 5] (fun s1 s5 wr => ∃ (i : Nat) (vi : Value), s1 = vi ∧ s5 = .int .i64 i ∧ i ≤ ks.length ∧ Hid (RLins X1 Y wr vi (atomsL n (ks.take i) l) ∧ Chg (fun k => ¬ X1 k) w3 wr)) (fun _ s5 _ => ks.length - (intOf s5).toNat)
      case atStart => exact ⟨0, _, rfl, rfl, Nat.zero_le _, hstart⟩
      case round =>
        obtain ⟨i, vi, rfl, rfl, gi, hst⟩ := hrel
        have p3 := HBX.out wr hst.out.2
        simp only [Nat.reduceAdd] at p3
        by_cases hlt : i < ks.length
        · obtain ⟨b, o, v0, v1, v2, v3, rfl, hv, x0, x1, x2, x3⟩ := forms_at (HKi2.out wr hst.out.2) i hlt
          have HG := Lib.hid (atomsL_take (l := l) hlt)
          have HI : Hid (Calls Try.prog 27 #[.agg #[v0, v1, v2, v3], u1] wr fun e w' => ∃ v', e = .returned v' ∧ Hid (RLins X1 Y w' v' (atomsL n (ks.take (i + 1)) l) ∧ Chg (fun k => ¬ X1 k) w3 w')) := by
            refine (IH.out ks[i] X1 Y wr _ hv (HKd.out _ (List.getElem_mem hlt)) (fun k hk => (HX1.out k).2 (.inl (HYX.out k hk))) (HX1s.out wr hst.out.2) _ (atomsL n (ks.take i) l) hst.out.1 (hLS.out i hlt)).mono ?_
            rintro e w' ⟨v', rfl, g2, g3⟩
            exact ⟨v', rfl, by rw [HG.out]; exact g2, hst.out.2.trans g3 (fun k hk _ => hk)⟩
          have i0 : (0 : Int) ≤ (i : Int) := by omega
          have i1 : (i : Int) < (ks.length : Int) := by omega
          clear hv IH hst hLS
          go_wp2_with (go_at_call 27; refine HI.out.mono ?_; rintro e w5 ⟨v5, rfl, h5⟩)
          go_roundw
          case rel => exact ⟨i + 1, v5, rfl, by go_num, hlt, h5⟩
          case measure => simp [intOf]; omega
        · obtain rfl : i = ks.length := by omega
          rw [List.take_of_length_le (Nat.le_refl _)] at hst
          have HE := Lib.hid (HEND.out _ _ hst.out.1 hst.out.2)
          go_wp2
          go_ret
          exact ⟨_, rfl, HE.out.1, HE.out.2⟩
theorem atoms_any : ∀ n, AtomsOk n
  | 0 => fun _ _ _ _ _ h => h.elim
  | n + 1 => atoms_step n (Lib.hid (atoms_any n))
end Go.Proofs.Ytlejcnbpodmleaa
