/-
  Chapter 17: the statement HeapDoes walked.
-/
import Derived.Test.YtbcgffnmbmbjdaaHpT
namespace Go.Proofs.Ytbcgffnmbmbjdaa
open Go Go.RowKit

theorem hasL_drop (l : List Tri) (k : Tri) : hasL (dropP l k) k = false := by
  unfold hasL
  rw [List.any_eq_false]
  intro x hx
  rw [dropP_none hx]
  simp
theorem setP_len (s : Tri) : ∀ l : List Tri, (setP l s).length ≤ l.length + 1
  | [] => by simp [setP]
  | x :: t => by
    have := setP_len s t
    unfold setP
    split
    · simp
    · split
      · simp
      · simp only [List.length_cons]; omega
theorem tris_all {R : Nat → Prop} {w : World} {A : Option Addr} {l : List Tri} {cap : Nat} (h : Tris R w A l cap) : ∀ m ∈ l, TriOk m := fun m hm => by
  obtain ⟨i, hi, rfl⟩ := List.getElem_of_mem hm
  exact h.tri_ok i hi

set_option maxRecDepth 100000 in
set_option maxHeartbeats 8000000 in
theorem heapDoes_walk {R : Nat → Prop} {w : World} {A : Option Addr} {l : List Tri} {cap : Nat} (hl : Tris R w A l cap) (a : Int) (ha : I64 a) (f : ByteArray) (hf : f.size ≤ maxLen) (z : Int) (hz : I64 z) :
    Calls Try.prog 6 #[.slice A l.length cap, .int .i64 a, .string f, .int .i64 z] w fun e w' => e = .returned (.bool true) ∧ Chg No w w' := by
  have HU := Lib.hid (up_any w)
  have HST := Lib.hid (fun W (h : Chg No w W) => refStands_any (hl.no triE_good h))
  have hb := hl.big
  unfold big at hb
  by_cases h1 : 500 < l.length
  · have d1 : decide ((500 : Int) < (l.length : Int)) = true := decide_eq_true (by omega)
    clear hl
    go_enter Try.func6, Try.ntmps6
    go_wp2_with (first
      | (go_at_call 8; refine HU.out.mono ?_; rintro e w1 ⟨rfl, h2⟩; have H1 := Lib.hid h2; clear h2)
      | (go_at_call 14; refine (HST.out _ H1.out).mono ?_; rintro e w2 ⟨rfl, h2⟩; have H2 := Lib.hid (H1.out.thenNo h2); clear h2))
    go_ret
    exact ⟨rfl, H2.out⟩
  have d1 : decide ((500 : Int) < (l.length : Int)) = false := decide_eq_false (by omega)
  cases hst : standsB l
  · rw [hst] at HST
    clear hst hl
    go_enter Try.func6, Try.ntmps6
    go_wp2_with (first
      | (go_at_call 8; refine HU.out.mono ?_; rintro e w1 ⟨rfl, h2⟩; have H1 := Lib.hid h2; clear h2)
      | (go_at_call 14; refine (HST.out _ H1.out).mono ?_; rintro e w2 ⟨rfl, h2⟩; have H2 := Lib.hid (H1.out.thenNo h2); clear h2))
    go_ret
    exact ⟨rfl, H2.out⟩
  rw [hst] at HST
  have hS : Strict l := of_decide_eq_true hst
  clear hst
  have hlen : l.length ≤ 500 := by omega
  have hk : TriOk (a, f, z) := ⟨ha, hf, hz⟩
  have HG := Lib.hid (fun W (h : Chg No w W) => get_any (hl.no triE_good h) hS a f)
  have HD := Lib.hid (fun W (h : Chg No w W) => drop_any (hl.no triE_good h) hS (by omega) a f)
  have HRG := Lib.hid (fun W (h : Chg No w W) => refGet_any (hl.no triE_good h) a f)
  have HRD := Lib.hid (fun W (h : Chg No w W) => refDrop_any (hl.no triE_good h) (by omega) a f)
  have HSET := Lib.hid (fun W (h : Chg No w W) => set_any (hl.no triE_good h) hS (by omega) a f z hk)
  have HRS : Hid (∀ W, Chg No w W → Calls Try.prog 18 #[.slice A l.length cap, .int .i64 a, .string f, .int .i64 z] W (SetRet W (setP l (a, f, z)))) := fun W h => by
    have := refSet_any (hl.no triE_good h) (by omega) a f z hk
    rwa [setR_eq hS] at this
  have HF := Lib.hid (fun W (h : Chg No w W) => fresh_any (hl.no triE_good h))
  have HRF := Lib.hid (fun W (h : Chg No w W) => refFresh_any (hl.no triE_good h) hS)
  have hsl := setP_len (a, f, z) l
  have hdl := dropP_len l (a, f, 0)
  have HB1 : Hid ((setP l (a, f, z)).length * 32 ≤ big) := by unfold Hid big; omega
  have HB2 : Hid ((dropP l (a, f, 0)).length * 32 ≤ big) := by unfold Hid big; omega
  have HL := Lib.hid (fun W (h : Chg No w W) => hl.no triE_good h)
  clear hl hsl hdl hk ha hf hz
  generalize setP l (a, f, z) = LS at *
  generalize dropP l (a, f, 0) = LD at *
  generalize getP l (a, f, 0) = gv at *
  generalize freshP l = fv at *
  have HSM : Hid (∀ (L : List Tri) W R1 R2 A1 A2 c1 c2, Tris R1 W A1 L c1 → Tris R2 W A2 L c2 → Calls Try.prog 17 #[.slice A1 L.length c1, .slice A2 L.length c2] W fun e w' => e = .returned (.bool true) ∧ Chg No W w') := fun L W R1 R2 A1 A2 c1 c2 g1 g2 => by
    have := sameCell_any g1 g2
    rwa [show decide (L = L) = true by simp] at this
  have gg : (gv != gv) = false := by simp
  have HSM1 : Hid (∀ W A1 A2 n1 n2 c1 c2 R1 R2, n1 = LD.length → n2 = LD.length → OTris 39 R1 W (.slice A1 n1 c1) LD → OTris 39 R2 W (.slice A2 n2 c2) LD → Calls Try.prog 17 #[.slice A1 n1 c1, .slice A2 n2 c2] W fun e w' => e = .returned (.bool true) ∧ Chg No W w') := fun W A1 A2 n1 n2 c1 c2 R1 R2 e1 e2 g1 g2 => by
    subst e1; subst e2
    exact HSM.out LD W R1 R2 A1 A2 c1 c2 (g1.tris HB2.out) (g2.tris HB2.out)
  have HSM2 : Hid (∀ W A1 A2 n1 n2 c1 c2 R1, n1 = LS.length → n2 = LS.length → OTris 39 R1 W (.slice A1 n1 c1) LS → ∀ {R2 : Nat → Prop}, OTris 39 R2 W (.slice A2 n2 c2) LS → Calls Try.prog 17 #[.slice A1 n1 c1, .slice A2 n2 c2] W fun e w' => e = .returned (.bool true) ∧ Chg No W w') := fun W A1 A2 n1 n2 c1 c2 R1 e1 e2 g1 R2 g2 => by
    subst e1; subst e2
    exact HSM.out LS W R1 R2 A1 A2 c1 c2 (g1.tris HB1.out) (g2.tris HB1.out)
  have he := eqlCode
  have hq := neqCode
  obtain ⟨x, hx, hxz⟩ : ∃ x : Int, (∀ k (h : k < l.length), l.length = k + 1 → l[k].1 = x) ∧ (l.length = 0 → (x == 9223372036854775807) = false) := by
    by_cases h0 : l = []
    · exact ⟨0, (fun k h => by rw [h0] at h; simp at h), fun _ => rfl⟩
    · exact ⟨(l[l.length - 1]'(by have := List.length_pos_iff.2 h0; omega)).1, (fun k h e => by congr 2; omega), fun h => absurd (List.eq_nil_of_length_eq_zero h) h0⟩
  have HCELL : Hid (∀ W, Chg No w W → ∀ k, l.length = k + 1 → ∃ b o, A = some ⟨b, o, none⟩ ∧ W.cell? ⟨b, o + k * 3, none⟩ = some (.int .i64 x)) := fun W h k hk => by
    obtain ⟨b, o, e, c0, _⟩ := (HL.out W h).tri_at k (by omega)
    rw [hx k (by omega) hk] at c0
    exact ⟨b, o, e, c0⟩
  clear hx HL HSM HB1 HB2
  obtain ⟨n, hn⟩ : ∃ n, n = l.length := ⟨_, rfl⟩
  rw [← hn] at HST HG HD HRG HRD HSET HRS HF HRF HCELL hxz hb h1 d1 hlen ⊢
  clear hn hS
  have hx0 : n = 0 → (x == 9223372036854775807) = false := hxz
  cases hxm : (x == 9223372036854775807)
  case true =>
    cases n with
    | zero => rw [hx0 rfl] at hxm; cases hxm
    | succ k =>
      clear HG HD HRG HRD HSET HRS HF HRF HSM1 HSM2
      have hd2 : decide ((0 : Int) < ((k + 1 : Nat) : Int)) = true := decide_eq_true (by omega)
      have hd3 : decide ((0 : Int) < (k : Int) + 1) = true := decide_eq_true (by omega)
      obtain ⟨b, o, rfl, _⟩ := HCELL.out w (Chg.refl _ _) k rfl
      have HCELL2 : Hid (∀ W, Chg No w W → W.cell? ⟨b, o + k * 3, none⟩ = some (.int .i64 x)) := fun W h => by
        obtain ⟨b', o', e, c⟩ := HCELL.out W h k rfl
        simp only [Option.some.injEq, Addr.mk.injEq, and_true] at e
        obtain ⟨rfl, rfl⟩ := e
        exact c
      go_enter Try.func6, Try.ntmps6
      go_wp2_with (first
        | (go_at_call 8; refine HU.out.mono ?_; rintro e w1 ⟨rfl, h2⟩; have H1 := Lib.hid h2; clear h2)
        | (go_at_call 14; refine (HST.out _ H1.out).mono ?_; rintro e w2 ⟨rfl, h2⟩; have H2 := Lib.hid (H1.out.thenNo h2); clear h2; have c0 := HCELL2.out w2 H2.out))
      go_ret
      exact ⟨rfl, H2.out⟩
  case false =>
    cases hh : hasL l (a, f, 0)
    case false =>
      rw [hh, show noneV false = .iface 33 (.int .i64 15) from rfl] at HG HD
      rw [hh] at HRG
      simp only [Bool.false_eq_true, if_false] at HD
      clear hh HRD HSM1
      cases n with
      | zero =>
        go_enter Try.func6, Try.ntmps6
        go_wp2_with (first
          | (go_at_call 8; refine HU.out.mono ?_; rintro e w1 ⟨rfl, h2⟩; have H1 := Lib.hid h2; clear h2)
          | (go_at_call 14; refine (HST.out _ H1.out).mono ?_; rintro e w2 ⟨rfl, h2⟩; have H2 := Lib.hid (H1.out.thenNo h2); clear h2)
          | (go_at_call 19; refine (HG.out _ H2.out).mono ?_; rintro e w3 ⟨rfl, h2⟩; have H3 := Lib.hid (H2.out.thenNo h2); clear h2)
          | (go_at_call 16; refine (HD.out _ H3.out).mono ?_; rintro e w4 ⟨A4, n4, c4, rfl, g1, g2, g3⟩; obtain rfl : n4 = 0 := g1; have H4 := Lib.hid (H3.out.thenNo g3); clear g2 g3)
          | (go_at_call 20; refine (HRG.out _ H4.out).mono ?_; rintro e w5 ⟨rfl, h2⟩; have H5 := Lib.hid (H4.out.thenNo h2); have HLAST := Lib.hid (H4.out.thenNo h2); have H45 := Lib.hid h2; clear h2)
          | (go_at_call 15; refine (HSET.out _ HLAST.out).mono ?_; rintro e w8 ⟨A8, n8, c8, rfl, g1, g2, g3⟩; have G8 := Lib.hid g1; have G9 := Lib.hid g2; have H8 := Lib.hid (HLAST.out.thenNo g3); clear g1 g2 g3)
          | (go_at_call 18; refine (HRS.out _ H8.out).mono ?_; rintro e w9 ⟨A9, n9, c9, rfl, g1, g2, g3⟩; have K1 := Lib.hid g1; have K2 := Lib.hid g2; have H9 := Lib.hid (H8.out.thenNo g3); have H89 := Lib.hid g3; clear g1 g2 g3)
          | (go_at_call 17; (with_reducible refine (HSM2.out _ _ _ _ _ _ _ _ G8.out K1.out (G9.out.no triV_good H89.out) K2.out).mono ?_); rintro e wa ⟨rfl, h2⟩; have HA := Lib.hid (H9.out.thenNo h2); clear h2)
          | (go_at_call 22; refine (HF.out _ HA.out).mono ?_; rintro e wb ⟨rfl, h2⟩; have HB := Lib.hid (HA.out.thenNo h2); clear h2)
          | (go_at_call 23; refine (HRF.out _ HB.out).mono ?_; rintro e wc ⟨rfl, h2⟩; have HC := Lib.hid (HB.out.thenNo h2); clear h2))
        go_ret
        exact ⟨rfl, HC.out⟩
      | succ k =>
        have hd2 : decide ((0 : Int) < ((k + 1 : Nat) : Int)) = true := decide_eq_true (by omega)
        have hd3 : decide ((0 : Int) < (k : Int) + 1) = true := decide_eq_true (by omega)
        obtain ⟨b, o, rfl, _⟩ := HCELL.out w (Chg.refl _ _) k rfl
        have HCELL2 : Hid (∀ W, Chg No w W → W.cell? ⟨b, o + k * 3, none⟩ = some (.int .i64 x)) := fun W h => by
          obtain ⟨b', o', e, c⟩ := HCELL.out W h k rfl
          simp only [Option.some.injEq, Addr.mk.injEq, and_true] at e
          obtain ⟨rfl, rfl⟩ := e
          exact c
        go_enter Try.func6, Try.ntmps6
        go_wp2_with (first
          | (go_at_call 8; refine HU.out.mono ?_; rintro e w1 ⟨rfl, h2⟩; have H1 := Lib.hid h2; clear h2)
          | (go_at_call 14; refine (HST.out _ H1.out).mono ?_; rintro e w2 ⟨rfl, h2⟩; have H2 := Lib.hid (H1.out.thenNo h2); clear h2; have c0 := HCELL2.out w2 H2.out)
          | (go_at_call 19; refine (HG.out _ H2.out).mono ?_; rintro e w3 ⟨rfl, h2⟩; have H3 := Lib.hid (H2.out.thenNo h2); clear h2)
          | (go_at_call 16; refine (HD.out _ H3.out).mono ?_; rintro e w4 ⟨A4, n4, c4, rfl, g1, g2, g3⟩; obtain rfl : n4 = 0 := g1; have H4 := Lib.hid (H3.out.thenNo g3); clear g2 g3)
          | (go_at_call 20; refine (HRG.out _ H4.out).mono ?_; rintro e w5 ⟨rfl, h2⟩; have H5 := Lib.hid (H4.out.thenNo h2); have HLAST := Lib.hid (H4.out.thenNo h2); have H45 := Lib.hid h2; clear h2)
          | (go_at_call 15; refine (HSET.out _ HLAST.out).mono ?_; rintro e w8 ⟨A8, n8, c8, rfl, g1, g2, g3⟩; have G8 := Lib.hid g1; have G9 := Lib.hid g2; have H8 := Lib.hid (HLAST.out.thenNo g3); clear g1 g2 g3)
          | (go_at_call 18; refine (HRS.out _ H8.out).mono ?_; rintro e w9 ⟨A9, n9, c9, rfl, g1, g2, g3⟩; have K1 := Lib.hid g1; have K2 := Lib.hid g2; have H9 := Lib.hid (H8.out.thenNo g3); have H89 := Lib.hid g3; clear g1 g2 g3)
          | (go_at_call 17; (with_reducible refine (HSM2.out _ _ _ _ _ _ _ _ G8.out K1.out (G9.out.no triV_good H89.out) K2.out).mono ?_); rintro e wa ⟨rfl, h2⟩; have HA := Lib.hid (H9.out.thenNo h2); clear h2)
          | (go_at_call 22; refine (HF.out _ HA.out).mono ?_; rintro e wb ⟨rfl, h2⟩; have HB := Lib.hid (HA.out.thenNo h2); clear h2)
          | (go_at_call 23; refine (HRF.out _ HB.out).mono ?_; rintro e wc ⟨rfl, h2⟩; have HC := Lib.hid (HB.out.thenNo h2); clear h2))
        go_ret
        exact ⟨rfl, HC.out⟩
    case true =>
      rw [hh, show noneV true = .nilIface from rfl] at HG HD
      rw [hh] at HRG
      simp only [if_true] at HD
      clear hh
      cases n with
      | zero =>
        go_enter Try.func6, Try.ntmps6
        go_wp2_with (first
          | (go_at_call 8; refine HU.out.mono ?_; rintro e w1 ⟨rfl, h2⟩; have H1 := Lib.hid h2; clear h2)
          | (go_at_call 14; refine (HST.out _ H1.out).mono ?_; rintro e w2 ⟨rfl, h2⟩; have H2 := Lib.hid (H1.out.thenNo h2); clear h2)
          | (go_at_call 19; refine (HG.out _ H2.out).mono ?_; rintro e w3 ⟨rfl, h2⟩; have H3 := Lib.hid (H2.out.thenNo h2); clear h2)
          | (go_at_call 16; refine (HD.out _ H3.out).mono ?_; rintro e w4 ⟨A4, n4, c4, rfl, g1, g2, g3⟩; have GD := Lib.hid g1; have G2 := Lib.hid g2; have H4 := Lib.hid (H3.out.thenNo g3); clear g1 g2 g3)
          | (go_at_call 20; refine (HRG.out _ H4.out).mono ?_; rintro e w5 ⟨rfl, h2⟩; have H5 := Lib.hid (H4.out.thenNo h2); have H45 := Lib.hid h2; clear h2)
          | (go_at_call 21; refine (HRD.out _ H5.out).mono ?_; rintro e w6 ⟨A6, n6, c6, rfl, g1, g2, g3⟩; have G3 := Lib.hid g1; have G4 := Lib.hid g2; have H6 := Lib.hid (H5.out.thenNo g3); have H46 := Lib.hid (H45.out.thenNo g3); clear g1 g2 g3)
          | (go_at_call 17; (with_reducible refine (HSM1.out _ _ _ _ _ _ _ _ _ GD.out G3.out (G2.out.no triV_good H46.out) G4.out).mono ?_); rintro e w7 ⟨rfl, h2⟩; have HLAST := Lib.hid (H6.out.thenNo h2); clear h2)
          | (go_at_call 15; refine (HSET.out _ HLAST.out).mono ?_; rintro e w8 ⟨A8, n8, c8, rfl, g1, g2, g3⟩; have G8 := Lib.hid g1; have G9 := Lib.hid g2; have H8 := Lib.hid (HLAST.out.thenNo g3); clear g1 g2 g3)
          | (go_at_call 18; refine (HRS.out _ H8.out).mono ?_; rintro e w9 ⟨A9, n9, c9, rfl, g1, g2, g3⟩; have K1 := Lib.hid g1; have K2 := Lib.hid g2; have H9 := Lib.hid (H8.out.thenNo g3); have H89 := Lib.hid g3; clear g1 g2 g3)
          | (go_at_call 17; (with_reducible refine (HSM2.out _ _ _ _ _ _ _ _ G8.out K1.out (G9.out.no triV_good H89.out) K2.out).mono ?_); rintro e wa ⟨rfl, h2⟩; have HA := Lib.hid (H9.out.thenNo h2); clear h2)
          | (go_at_call 22; refine (HF.out _ HA.out).mono ?_; rintro e wb ⟨rfl, h2⟩; have HB := Lib.hid (HA.out.thenNo h2); clear h2)
          | (go_at_call 23; refine (HRF.out _ HB.out).mono ?_; rintro e wc ⟨rfl, h2⟩; have HC := Lib.hid (HB.out.thenNo h2); clear h2))
        go_ret
        exact ⟨rfl, HC.out⟩
      | succ k =>
        have hd2 : decide ((0 : Int) < ((k + 1 : Nat) : Int)) = true := decide_eq_true (by omega)
        have hd3 : decide ((0 : Int) < (k : Int) + 1) = true := decide_eq_true (by omega)
        obtain ⟨b, o, rfl, _⟩ := HCELL.out w (Chg.refl _ _) k rfl
        have HCELL2 : Hid (∀ W, Chg No w W → W.cell? ⟨b, o + k * 3, none⟩ = some (.int .i64 x)) := fun W h => by
          obtain ⟨b', o', e, c⟩ := HCELL.out W h k rfl
          simp only [Option.some.injEq, Addr.mk.injEq, and_true] at e
          obtain ⟨rfl, rfl⟩ := e
          exact c
        go_enter Try.func6, Try.ntmps6
        go_wp2_with (first
          | (go_at_call 8; refine HU.out.mono ?_; rintro e w1 ⟨rfl, h2⟩; have H1 := Lib.hid h2; clear h2)
          | (go_at_call 14; refine (HST.out _ H1.out).mono ?_; rintro e w2 ⟨rfl, h2⟩; have H2 := Lib.hid (H1.out.thenNo h2); clear h2; have c0 := HCELL2.out w2 H2.out)
          | (go_at_call 19; refine (HG.out _ H2.out).mono ?_; rintro e w3 ⟨rfl, h2⟩; have H3 := Lib.hid (H2.out.thenNo h2); clear h2)
          | (go_at_call 16; refine (HD.out _ H3.out).mono ?_; rintro e w4 ⟨A4, n4, c4, rfl, g1, g2, g3⟩; have GD := Lib.hid g1; have G2 := Lib.hid g2; have H4 := Lib.hid (H3.out.thenNo g3); clear g1 g2 g3)
          | (go_at_call 20; refine (HRG.out _ H4.out).mono ?_; rintro e w5 ⟨rfl, h2⟩; have H5 := Lib.hid (H4.out.thenNo h2); have H45 := Lib.hid h2; clear h2)
          | (go_at_call 21; refine (HRD.out _ H5.out).mono ?_; rintro e w6 ⟨A6, n6, c6, rfl, g1, g2, g3⟩; have G3 := Lib.hid g1; have G4 := Lib.hid g2; have H6 := Lib.hid (H5.out.thenNo g3); have H46 := Lib.hid (H45.out.thenNo g3); clear g1 g2 g3)
          | (go_at_call 17; (with_reducible refine (HSM1.out _ _ _ _ _ _ _ _ _ GD.out G3.out (G2.out.no triV_good H46.out) G4.out).mono ?_); rintro e w7 ⟨rfl, h2⟩; have HLAST := Lib.hid (H6.out.thenNo h2); clear h2)
          | (go_at_call 15; refine (HSET.out _ HLAST.out).mono ?_; rintro e w8 ⟨A8, n8, c8, rfl, g1, g2, g3⟩; have G8 := Lib.hid g1; have G9 := Lib.hid g2; have H8 := Lib.hid (HLAST.out.thenNo g3); clear g1 g2 g3)
          | (go_at_call 18; refine (HRS.out _ H8.out).mono ?_; rintro e w9 ⟨A9, n9, c9, rfl, g1, g2, g3⟩; have K1 := Lib.hid g1; have K2 := Lib.hid g2; have H9 := Lib.hid (H8.out.thenNo g3); have H89 := Lib.hid g3; clear g1 g2 g3)
          | (go_at_call 17; (with_reducible refine (HSM2.out _ _ _ _ _ _ _ _ G8.out K1.out (G9.out.no triV_good H89.out) K2.out).mono ?_); rintro e wa ⟨rfl, h2⟩; have HA := Lib.hid (H9.out.thenNo h2); clear h2)
          | (go_at_call 22; refine (HF.out _ HA.out).mono ?_; rintro e wb ⟨rfl, h2⟩; have HB := Lib.hid (HA.out.thenNo h2); clear h2)
          | (go_at_call 23; refine (HRF.out _ HB.out).mono ?_; rintro e wc ⟨rfl, h2⟩; have HC := Lib.hid (HB.out.thenNo h2); clear h2))
        go_ret
        exact ⟨rfl, HC.out⟩
end Go.Proofs.Ytbcgffnmbmbjdaa
