/-
  The look's value of an expression.
-/
import Derived.Test.YtgofncopoieigaaDoorHlB
import Derived.Test.YtgofncopoieigaaDoorShE
import Derived.Deep.RegionHeldLaw
namespace Go.Proofs.YtgofncopoieigaaDoor
open Go Go.RowKit

/-- A part's cells, where the slice's address is known. -/
theorem exprs_someH {n : Nat} {R : Nat → Prop} {w : World} {b o : Nat} {l : List (ET n)} {cap : Nat} (h : Exprs R w (some ⟨b, o, none⟩) l cap) (i : Nat) (hi : i < l.length) :
    ∃ k m s B kl capk, (exprV n) R w [.int .i64 k, .int .i64 m, .string s, .slice B kl capk] l[i] ∧ w.cell? ⟨b, o + i * 4, none⟩ = some (.int .i64 k) ∧ w.cell? ⟨b, o + i * 4 + 1, none⟩ = some (.int .i64 m) ∧ w.cell? ⟨b, o + i * 4 + 2, none⟩ = some (.string s) ∧ w.cell? ⟨b, o + i * 4 + 3, none⟩ = some (.slice B kl capk) := by
  obtain ⟨b', o', k, m, s, B, kl, capk, e, hv, x0, x1, x2, x3⟩ := exprs_at h i hi
  injection e with e
  injection e with e1 e2
  subst e1; subst e2
  exact ⟨k, m, s, B, kl, capk, hv, x0, x1, x2, x3⟩
def HExOk (n : Nat) : Prop := ∀ (x : ET n) (R Rs : Nat → Prop) (w : World) (cs : List Value) (bx : Nat) (A : Option Addr) (l : List Vr) (cap : Nat) (f : Bool), okE n x = true → (exprV n) R w cs x → (∀ k, R k → k ≠ bx) → LookAt w bx A l.length cap f → Vars Rs w A l cap → (∀ k, Rs k → k ≠ bx) →
    Calls Tryd.prog 15 #[.pointer (some ⟨bx, 0, none⟩), .agg cs.toArray] w (LkRet bx A l.length cap (f || (exH l n x).2) w (.int .i64 (exH l n x).1))

set_option maxRecDepth 100000 in
set_option maxHeartbeats 4000000 in
theorem hex_walk (n : Nat) (IH : Hid (HExOk n)) : HExOk (n + 1) := by
  rintro f R Rs w cs bx A l cap fl hok h hR hb hl hRs
  obtain ⟨B, capk, rfl, i1, i2, hm, hk⟩ := enode_cells h
  obtain ⟨hs, hkok⟩ := ok_partsH hok
  have hbx : bx < w.heap.size := (Array.getElem?_eq_some_iff.1 hb).1
  have HKA := Lib.hid (fun W (hW : Chg (fun k => k = bx) w W) => hk.chg (exprE_good n) hW (fun k hk e => hR k hk e))
  have HVS := Lib.hid (fun W (hW : Chg (fun k => k = bx) w W) => hl.chg varE_good hW (fun k hk e => hRs k hk e))
  have HIH : Hid (∀ x : ET n, okE n x = true → ∀ W cs' g, Chg (fun k => k = bx) w W → (exprV n) R W cs' x → LookAt W bx A l.length cap g → Calls Tryd.prog 15 #[.pointer (some ⟨bx, 0, none⟩), .agg cs'.toArray] W (LkRet bx A l.length cap (g || (exH l n x).2) W (.int .i64 (exH l n x).1))) := fun x hx W cs' g hW hcs hg => IH.out x R Rs W cs' bx A l cap g hx hcs hR hg (HVS.out W hW) hRs
  have HNM : Hid (∀ W g z, LookAt W bx A l.length cap g → Calls Tryd.prog 24 #[.pointer (some ⟨bx, 0, none⟩), .int .i64 z] W (LkRet bx A l.length cap (g || farB z) W (.int .i64 (numH z)))) := fun W g z hg => number_any hg z
  have HVR : Hid (∀ W g name, Chg (fun k => k = bx) w W → LookAt W bx A l.length cap g → Calls Tryd.prog 25 #[.pointer (some ⟨bx, 0, none⟩), .string name] W (LkRet bx A l.length cap (g || farB (ofV l name)) W (.int .i64 (numH (ofV l name))))) := fun W g name hW hg => variable_any hg (HVS.out W hW) name
  have H0 := @exH_0 l n f
  have H1 := @exH_1 l n f
  have H2 := @exH_2 l n f
  have H4 := @exH_4 l n f
  have HKO := Lib.hid hkok
  have HLE := Lib.hid (fun x : ET n => exH_le l n x)
  have HB := Lib.hid hb
  obtain ⟨ans, hans⟩ : ∃ ans, ans = exH l (n + 1) f := ⟨_, rfl⟩
  rw [← hans] at H0 H1 H2 H4 ⊢
  clear hans h hk IH hok hm hl hkok hb
  generalize ENode.kind f = kd at *
  generalize ENode.num f = num at *
  generalize ENode.name f = name at *
  generalize ENode.kids f = ks at *
  obtain ⟨w3, hw3⟩ : ∃ w3, w3 = w.alloc (.cells #[.int .i64 kd, .int .i64 num, .string name, .slice B ks.length capk] 27) := ⟨_, rfl⟩
  have h3 : Hid (Chg No w w3 ∧ w3.heap[w.heap.size]? = some (.cells #[.int .i64 kd, .int .i64 num, .string name, .slice B ks.length capk] 27 (0, 0)) ∧ LookAt w3 bx A l.length cap fl) := by
    rw [hw3]
    exact ⟨(Chg.refl _ _).alloc _, heap_alloc_new _ _, HB.out.chg (S := No) ((Chg.refl _ _).alloc _) id⟩
  have HO : Hid (∀ W, Chg (fun k => k = bx) w3 W → W.cell? ⟨w.heap.size, 0, none⟩ = some (.int .i64 kd) ∧ W.cell? ⟨w.heap.size, 1, none⟩ = some (.int .i64 num) ∧ W.cell? ⟨w.heap.size, 2, none⟩ = some (.string name) ∧ W.cell? ⟨w.heap.size, 3, none⟩ = some (.slice B ks.length capk)) := fun W hW =>
    obj_4 (hW.obj h3.out.2.1 (fun e => by omega))
  obtain ⟨p0, p1, p2, p3⟩ := HO.out w3 (Chg.refl _ _)
  rcases eShape_casesH hs with ⟨rfl, hcx, hkx⟩ | ⟨rfl, hkx⟩ | ⟨hkd, hkl⟩ | ⟨rfl, hc, hkl⟩
  · have HA := Lib.hid (H0 rfl)
    have HN := Lib.hid (HNM.out w3 fl num h3.out.2.2)
    clear hcx hkx HIH HVR HKA HKO HLE hs H0 H1 H2 H4 HVS
    go_enter Tryd.func15, Tryd.ntmps15
    go_upto_region 1 with fail
    rw [← hw3]
    clear hw3
    go_wp2_with (go_at_call 24; refine HN.out.mono ?_; rintro e w4 ⟨rfl, h4, g4⟩)
    go_ret
    rw [HA.out]
    exact ⟨rfl, (h3.out.1.no).trans h4 (fun _ h _ => h), g4⟩
  · have HA := Lib.hid (H1 rfl)
    have HN := Lib.hid (HVR.out w3 fl name h3.out.1.no h3.out.2.2)
    clear hkx HIH HNM HVR HKA HKO HLE hs H0 H1 H2 H4 HVS
    go_enter Tryd.func15, Tryd.ntmps15
    go_upto_region 1 with fail
    rw [← hw3]
    clear hw3
    go_wp2_with (go_at_call 25; refine HN.out.mono ?_; rintro e w4 ⟨rfl, h4, g4⟩)
    go_ret
    rw [HA.out]
    exact ⟨rfl, (h3.out.1.no).trans h4 (fun _ h _ => h), g4⟩
  rotate_left
  · obtain ⟨a, rfl⟩ : ∃ a, ks = [a] := List.length_eq_one_iff.1 hkl
    have HA := Lib.hid (H4 rfl rfl)
    obtain ⟨n1, n2⟩ := coefS_le hc
    obtain ⟨v1, v2⟩ := HLE.out a
    obtain ⟨m1, m2⟩ := mul_fits n1 n2 v1 v2
    rw [show ([a] : List (ET n)).length = 1 from rfl] at hw3 h3 HO p3
    obtain ⟨b, o, hB⟩ : ∃ b o, B = some ⟨b, o, none⟩ := by
      obtain ⟨b, o, _, _, _, _, _, _, hB, _⟩ := exprs_at (HKA.out w3 h3.out.1.no) 0 (by simp)
      exact ⟨b, o, hB⟩
    subst hB
    obtain ⟨k0, m0, s0, B0, l0, d0, hv, x0, x1, x2, x3⟩ := exprs_someH (HKA.out w3 h3.out.1.no) 0 (by simp)
    have HI := Lib.hid (fun W (hW : Chg No w3 W) => HIH.out a (HKO.out a (by simp)) W _ fl (h3.out.1.thenNo hW).no ((exprV_good n).no hv hW) (h3.out.2.2.chg hW id))
    simp only [Nat.zero_mul, Nat.add_zero] at x0 x1 x2 x3
    have HT2 : Hid (∀ W, Chg (fun k => k = bx) w3 W → True ∧ ((W.cell? ⟨w.heap.size, 0, none⟩ = some (.int .i64 4) ∧ W.cell? ⟨w.heap.size, 1, none⟩ = some (.int .i64 num) ∧ W.cell? ⟨w.heap.size, 2, none⟩ = some (.string name) ∧ W.cell? ⟨w.heap.size, 3, none⟩ = some (.slice (some ⟨b, o, none⟩) 1 capk)) ∧ W.cell? ⟨b, o, none⟩ = some (.int .i64 k0) ∧ W.cell? ⟨b, o + 1, none⟩ = some (.int .i64 m0) ∧ W.cell? ⟨b, o + 2, none⟩ = some (.string s0) ∧ W.cell? ⟨b, o + 3, none⟩ = some (.slice B0 l0 d0))) := fun W hW =>
      have hne : b ≠ bx := h3.out.2.2.ne x0
      ⟨trivial, HO.out W hW, hW.cell x0 hne, hW.cell x1 hne, hW.cell x2 hne, hW.cell x3 hne⟩
    have HT : Hid (∀ W, Chg (fun k => k = bx) w3.drew W → Hid (Chg (fun k => k = bx) w3 W) ∧ ((W.cell? ⟨w.heap.size, 0, none⟩ = some (.int .i64 4) ∧ W.cell? ⟨w.heap.size, 1, none⟩ = some (.int .i64 num) ∧ W.cell? ⟨w.heap.size, 2, none⟩ = some (.string name) ∧ W.cell? ⟨w.heap.size, 3, none⟩ = some (.slice (some ⟨b, o, none⟩) 1 capk)) ∧ W.cell? ⟨b, o, none⟩ = some (.int .i64 k0) ∧ W.cell? ⟨b, o + 1, none⟩ = some (.int .i64 m0) ∧ W.cell? ⟨b, o + 2, none⟩ = some (.string s0) ∧ W.cell? ⟨b, o + 3, none⟩ = some (.slice B0 l0 d0))) := fun W hW =>
      have h := (Chg.refl No w3).drew.no.trans hW (fun _ h _ => h)
      ⟨h, (HT2.out W h).2⟩
    have hw : IntKind.i64.wrap (num * (exH l n a).1) = num * (exH l n a).1 := by rw [IntKind.wrap_i64]; omega
    clear hv HIH HVR HKA HKO HLE hs H0 H1 H2 H4 HVS hc hkl
    generalize exH l n a = ea at *
    obtain ⟨va, fa⟩ := ea
    simp only at HA HI hw m1 m2 v1 v2
    go_enter Tryd.func15, Tryd.ntmps15
    go_upto_region 1 with fail
    rw [← hw3]
    clear hw3
    go_upto_region 7 with fail
    go_region_held_law (fun W => W.cell? ⟨w.heap.size, 1, none⟩ = some (.int .i64 num) ∧ W.cell? ⟨w.heap.size, 3, none⟩ = some (.slice (some ⟨b, o, none⟩) 1 capk) ∧ W.cell? ⟨b, o, none⟩ = some (.int .i64 k0) ∧ W.cell? ⟨b, o + 1, none⟩ = some (.int .i64 m0) ∧ W.cell? ⟨b, o + 2, none⟩ = some (.string s0) ∧ W.cell? ⟨b, o + 3, none⟩ = some (.slice B0 l0 d0))
      (first | (refine ⟨?_, ?_, ?_, ?_, ?_, ?_⟩ <;> with_reducible assumption) | go_keep)
      ((first
        | (go_at_call 15; (with_reducible refine (HI.out _ (Chg.refl No w3).drew).mono ?_); rintro e w4 ⟨rfl, h4, g4⟩; obtain ⟨H4, H5⟩ := HT.out w4 h4; have HN := Lib.hid (HNM.out w4 _ (num * va) g4); clear h4 g4 p0 p1 p2 p3 x0 x1 x2 x3; obtain ⟨⟨p0, p1, p2, p3⟩, x0, x1, x2, x3⟩ := H5)
        | (go_at_call 24; (with_reducible refine HN.out.mono ?_); rintro e w5 ⟨rfl, h5, g5⟩; have G5 := Lib.hid g5; have H5 := Lib.hid (H4.out.trans h5 (fun _ h _ => h)); obtain ⟨_, H6⟩ := HT2.out w5 H5.out; clear h5 g5 p0 p1 p2 p3 x0 x1 x2 x3; obtain ⟨⟨p0, p1, p2, p3⟩, x0, x1, x2, x3⟩ := H6)))
    go_wp2_with fail
    go_ret
    rw [HA.out]
    exact ⟨rfl, (h3.out.1.no).trans H5.out (fun _ h _ => h), by simpa [Bool.or_assoc] using G5.out⟩
  · obtain ⟨a, b2, rfl⟩ : ∃ a b2, ks = [a, b2] := by
      match ks, hkl with
      | [a, b2], _ => exact ⟨a, b2, rfl⟩
    have HA := Lib.hid (H2 hkd rfl)
    have hk0 : (kd == 0) = false := beqF (by omega)
    have hk1 : (kd == 1) = false := beqF (by omega)
    have hk4 : (kd == 4) = false := beqF (by omega)
    obtain ⟨v1, v2⟩ := HLE.out a
    obtain ⟨v3, v4⟩ := HLE.out b2
    rw [show ([a, b2] : List (ET n)).length = 2 from rfl] at hw3 h3 HO p3
    obtain ⟨b, o, hB⟩ : ∃ b o, B = some ⟨b, o, none⟩ := by
      obtain ⟨b, o, _, _, _, _, _, _, hB, _⟩ := exprs_at (HKA.out w3 h3.out.1.no) 0 (by simp)
      exact ⟨b, o, hB⟩
    subst hB
    obtain ⟨k0, m0, s0, B0, l0, d0, hv, x0, x1, x2, x3⟩ := exprs_someH (HKA.out w3 h3.out.1.no) 0 (by simp)
    have HI := Lib.hid (HIH.out a (HKO.out a (by simp)) w3 _ fl h3.out.1.no hv h3.out.2.2)
    simp only [Nat.zero_mul, Nat.add_zero] at x0 x1 x2 x3
    have HI2 : Hid (∀ W g, Chg (fun k => k = bx) w W → LookAt W bx (A) l.length cap g → ∃ k0 m0 s0 B0 l0 d0, W.cell? ⟨b, o + 4, none⟩ = some (.int .i64 k0) ∧ W.cell? ⟨b, o + 4 + 1, none⟩ = some (.int .i64 m0) ∧ W.cell? ⟨b, o + 4 + 2, none⟩ = some (.string s0) ∧ W.cell? ⟨b, o + 4 + 3, none⟩ = some (.slice B0 l0 d0) ∧
        Calls Tryd.prog 15 #[.pointer (some ⟨bx, 0, none⟩), .agg #[.int .i64 k0, .int .i64 m0, .string s0, .slice B0 l0 d0]] W (LkRet bx A l.length cap (g || (exH l n b2).2) W (.int .i64 (exH l n b2).1))) := fun W g hW hg => by
      obtain ⟨k0, m0, s0, B0, l0, d0, hv, x0, x1, x2, x3⟩ := exprs_someH (HKA.out W hW) 1 (by simp)
      simp only [Nat.one_mul] at x0 x1 x2 x3
      exact ⟨k0, m0, s0, B0, l0, d0, x0, x1, x2, x3, HIH.out b2 (HKO.out b2 (by simp)) W _ g hW hv hg⟩
    clear hv HIH HVR HKA HKO HLE hs H0 H1 H2 H4 HVS hkl
    generalize exH l n a = ea at *
    generalize exH l n b2 = eb at *
    obtain ⟨va, fa⟩ := ea
    obtain ⟨vb, fb⟩ := eb
    simp only at HA HI HI2 v1 v2 v3 v4
    by_cases h3k : kd = 3
    · have hk3 : (kd == 3) = true := by simpa using h3k
      have hw1 : IntKind.i64.wrap (-vb) = -vb := by rw [IntKind.wrap_i64]; omega
      have hw2 : IntKind.i64.wrap (va + -vb) = va + -vb := by rw [IntKind.wrap_i64]; omega
      rw [if_pos h3k] at HA
      clear h3k hkd
      go_enter Tryd.func15, Tryd.ntmps15
      go_upto_region 1 with fail
      rw [← hw3]
      clear hw3
      go_upto_region 9 with (go_at_call 15; refine HI.out.mono ?_; rintro e w4 ⟨rfl, h4, g4⟩; have H4 := Lib.hid h4; have G4 := Lib.hid g4; clear g4 h4)
      clear p0 p1 p2 p3 x0 x1 x2 x3
      obtain ⟨p0, p1, p2, p3⟩ := HO.out w4 H4.out
      obtain ⟨k1, m1, s1, B1, l1, d1, x0, x1, x2, x3, hI2⟩ := HI2.out w4 _ (h3.out.1.no.trans H4.out (fun _ h _ => h)) G4.out
      have HJ := Lib.hid hI2
      clear hI2
      go_upto_region 10 with (go_at_call 15; refine HJ.out.mono ?_; rintro e w5 ⟨rfl, h5, g5⟩; have H5 := Lib.hid (H4.out.trans h5 (fun _ h _ => h)); have G5 := Lib.hid g5; clear g5 h5)
      clear p0 p1 p2 p3 x0 x1 x2 x3
      obtain ⟨p0, p1, p2, p3⟩ := HO.out w5 H5.out
      have HN := Lib.hid (HNM.out w5 _ (va + -vb) G5.out)
      go_wp2_with (go_at_call 24; refine HN.out.mono ?_; rintro e w6 ⟨rfl, h6, g6⟩)
      go_ret
      rw [HA.out]
      exact ⟨rfl, (h3.out.1.no).trans (H5.out.trans h6 (fun _ h _ => h)) (fun _ h _ => h), by simpa [Bool.or_assoc] using g6⟩
    · have hk3 : (kd == 3) = false := by simpa using h3k
      have hw2 : IntKind.i64.wrap (va + vb) = va + vb := by rw [IntKind.wrap_i64]; omega
      rw [if_neg h3k] at HA
      clear h3k hkd
      go_enter Tryd.func15, Tryd.ntmps15
      go_upto_region 1 with fail
      rw [← hw3]
      clear hw3
      go_upto_region 9 with (go_at_call 15; refine HI.out.mono ?_; rintro e w4 ⟨rfl, h4, g4⟩; have H4 := Lib.hid h4; have G4 := Lib.hid g4; clear g4 h4)
      clear p0 p1 p2 p3 x0 x1 x2 x3
      obtain ⟨p0, p1, p2, p3⟩ := HO.out w4 H4.out
      obtain ⟨k1, m1, s1, B1, l1, d1, x0, x1, x2, x3, hI2⟩ := HI2.out w4 _ (h3.out.1.no.trans H4.out (fun _ h _ => h)) G4.out
      have HJ := Lib.hid hI2
      clear hI2
      go_upto_region 10 with (go_at_call 15; refine HJ.out.mono ?_; rintro e w5 ⟨rfl, h5, g5⟩; have H5 := Lib.hid (H4.out.trans h5 (fun _ h _ => h)); have G5 := Lib.hid g5; clear g5 h5)
      clear p0 p1 p2 p3 x0 x1 x2 x3
      obtain ⟨p0, p1, p2, p3⟩ := HO.out w5 H5.out
      have HN := Lib.hid (HNM.out w5 _ (va + vb) G5.out)
      go_wp2_with (go_at_call 24; refine HN.out.mono ?_; rintro e w6 ⟨rfl, h6, g6⟩)
      go_ret
      rw [HA.out]
      exact ⟨rfl, (h3.out.1.no).trans (H5.out.trans h6 (fun _ h _ => h)) (fun _ h _ => h), by simpa [Bool.or_assoc] using g6⟩
theorem hex_any : ∀ n, HExOk n
  | 0 => fun _ _ _ _ _ _ _ _ _ _ _ h => h.elim
  | n + 1 => hex_walk n (Lib.hid (hex_any n))
end Go.Proofs.YtgofncopoieigaaDoor
