/-
  Chapter 17: the statement HeapStays walked.
-/
import Derived.Test.YtbcgffnmbmbjdaaHpV
namespace Go.Proofs.Ytbcgffnmbmbjdaa
open Go Go.RowKit

theorem OTris.addr {e : TypeId} {M : Nat → Prop} {w : World} {A : Option Addr} {n cap : Nat} {l : List Tri} (h : OTris e M w (.slice A n cap) l) (hA : A ≠ none) : ∃ g o, A = some ⟨g, o, none⟩ := by
  rcases (OTris.iff.1 h).1.2 with ⟨e, _⟩ | ⟨g, o, cap', cur, e, _⟩
  · injection e with e1
    exact absurd e1 hA
  · injection e with e1
    exact ⟨g, o, e1⟩
def zTri : Tri := (0, ByteArray.empty, 0)
theorem zTri_ok : TriOk zTri := ⟨by unfold I64 zTri; decide, by show (0 : Nat) ≤ maxLen; decide, by unfold I64 zTri; decide⟩

/-- What was answered, and the arguments, at whatever world where only the two copies have changed. -/
structure Stay (w w4 : World) (sv dv jv : Value) (LS LD LJ : List Tri) (W : World) : Prop where
  ch : Chg No w W
  s : OTris 39 (fun k => w4.heap.size ≤ k) W sv LS
  d : OTris 39 (fun k => w4.heap.size ≤ k) W dv LD
  j : OTris 25 (fun k => w4.heap.size ≤ k) W jv LJ
theorem Stay.go {w w4 : World} {sv dv jv : Value} {LS LD LJ : List Tri} {W W' : World} (h : Stay w w4 sv dv jv LS LD LJ W) {S : Nat → Prop} (c : Chg S W W') (hS : ∀ k, S k → w.heap.size ≤ k ∧ k < w4.heap.size) : Stay w w4 sv dv jv LS LD LJ W' :=
  ⟨h.ch.trans c (fun k hk hlt => by have := hS k hk; omega),
   h.s.chg triV_good c (fun k hk hs => by have := (h.s.mine k hk).1; have := hS k hs; omega) (fun _ f => f.elim),
   h.d.chg triV_good c (fun k hk hs => by have := (h.d.mine k hk).1; have := hS k hs; omega) (fun _ f => f.elim),
   h.j.chg triV_good c (fun k hk hs => by have := (h.j.mine k hk).1; have := hS k hs; omega) (fun _ f => f.elim)⟩
theorem Stay.no {w w4 : World} {sv dv jv : Value} {LS LD LJ : List Tri} {W W' : World} (h : Stay w w4 sv dv jv LS LD LJ W) (c : Chg No W W') : Stay w w4 sv dv jv LS LD LJ W' := h.go c (fun _ f => f.elim)
def dropQ (l : List Tri) (k : Tri) : List Tri := if hasL l k = true then dropP l k else []

set_option maxRecDepth 100000 in
set_option maxHeartbeats 8000000 in
theorem heapStays_walk {R : Nat → Prop} {w : World} {A B : Option Addr} {l b : List Tri} {cap cb : Nat} (hl : Tris R w A l cap) (a : Int) (ha : I64 a) (f : ByteArray) (hf : f.size ≤ maxLen) (hb : Tris R w B b cb) :
    Calls Try.prog 5 #[.slice A l.length cap, .int .i64 a, .string f, .slice B b.length cb] w fun e w' => e = .returned (.bool true) ∧ Chg No w w' := by
  have HU := Lib.hid (up_any w)
  have HST := Lib.hid (fun W (h : Chg No w W) => refStands_any (hl.no triE_good h))
  have hba := hl.big
  have hbb := hb.big
  unfold big at hba hbb
  by_cases h1 : 500 < l.length
  · have d1 : decide ((500 : Int) < (l.length : Int)) = true := decide_eq_true (by omega)
    clear hl hb
    go_enter Try.func5, Try.ntmps5
    go_wp2_with (first
      | (go_at_call 8; refine HU.out.mono ?_; rintro e w1 ⟨rfl, h2⟩; have H1 := Lib.hid h2; clear h2)
      | (go_at_call 14; refine (HST.out _ H1.out).mono ?_; rintro e w2 ⟨rfl, h2⟩; have H2 := Lib.hid (H1.out.thenNo h2); clear h2))
    go_ret
    exact ⟨rfl, H2.out⟩
  have d1 : decide ((500 : Int) < (l.length : Int)) = false := decide_eq_false (by omega)
  by_cases h2 : 100 < b.length
  · have d2 : decide ((100 : Int) < (b.length : Int)) = true := decide_eq_true (by omega)
    clear hl hb
    go_enter Try.func5, Try.ntmps5
    go_wp2_with (first
      | (go_at_call 8; refine HU.out.mono ?_; rintro e w1 ⟨rfl, h2⟩; have H1 := Lib.hid h2; clear h2)
      | (go_at_call 14; refine (HST.out _ H1.out).mono ?_; rintro e w2 ⟨rfl, h2⟩; have H2 := Lib.hid (H1.out.thenNo h2); clear h2))
    go_ret
    exact ⟨rfl, H2.out⟩
  have d2 : decide ((100 : Int) < (b.length : Int)) = false := decide_eq_false (by omega)
  cases hst : standsB l
  · rw [hst] at HST
    clear hst hl hb
    go_enter Try.func5, Try.ntmps5
    go_wp2_with (first
      | (go_at_call 8; refine HU.out.mono ?_; rintro e w1 ⟨rfl, h2⟩; have H1 := Lib.hid h2; clear h2)
      | (go_at_call 14; refine (HST.out _ H1.out).mono ?_; rintro e w2 ⟨rfl, h2⟩; have H2 := Lib.hid (H1.out.thenNo h2); clear h2))
    go_ret
    exact ⟨rfl, H2.out⟩
  rw [hst] at HST
  have hS : Strict l := of_decide_eq_true hst
  clear hst
  have hlen : l.length ≤ 500 := by omega
  have hblen : b.length ≤ 100 := by omega
  have hk : TriOk (a, f, 5) := ⟨ha, hf, (by unfold I64; decide : I64 5)⟩
  have HLA := Lib.hid (fun W (h : Chg No w W) => hl.no triE_good h)
  have HLB := Lib.hid (fun W (h : Chg No w W) => hb.no triE_good h)
  have HSET : Hid (∀ W A1 c1 (R1 : Nat → Prop), Tris R1 W A1 l c1 → Calls Try.prog 15 #[.slice A1 l.length c1, .int .i64 a, .string f, .int .i64 5] W (SetRet W (setP l (a, f, 5)))) := fun W A1 c1 R1 h => set_any h hS (by omega) a f 5 hk
  have HDR : Hid (∀ W A1 c1 (R1 : Nat → Prop), Tris R1 W A1 l c1 → Calls Try.prog 16 #[.slice A1 l.length c1, .int .i64 a, .string f] W fun e w' => ∃ A' n' cap', e = .returned (.tuple #[.slice A' n' cap', noneV (hasL l (a, f, 0))]) ∧ n' = (dropQ l (a, f, 0)).length ∧ OTris 39 (fun k => W.heap.size ≤ k) w' (.slice A' n' cap') (dropQ l (a, f, 0)) ∧ Chg No W w') := fun W A1 c1 R1 h => drop_any h hS (by omega) a f
  have HJ : Hid (∀ W A1 c1 (R1 : Nat → Prop), Tris R1 W A1 b c1 → Calls Try.prog 10 #[.slice A1 b.length c1, .slice A1 b.length c1] W fun e w' => ∃ A' cap', e = .returned (.slice A' (addsS (b ++ b)).length cap') ∧ OTris 25 (fun k => W.heap.size ≤ k) w' (.slice A' (addsS (b ++ b)).length cap') (addsS (b ++ b)) ∧ Chg No W w') := fun W A1 c1 R1 h => join_ref h h (by omega)
  have HRS : Hid (∀ W, Chg No w W → Calls Try.prog 18 #[.slice A l.length cap, .int .i64 a, .string f, .int .i64 5] W (SetRet W (setP l (a, f, 5)))) := fun W h => by
    have := refSet_any (hl.no triE_good h) (by omega) a f 5 hk
    rwa [setR_eq hS] at this
  have HRJ := Lib.hid (fun W (h : Chg No w W) => refJoin_any (hb.no triE_good h) (hb.no triE_good h) (by omega))
  have HSC : Hid (∀ (L : List Tri) W R1 R2 A1 A2 c1 c2, Tris R1 W A1 L c1 → Tris R2 W A2 L c2 → Calls Try.prog 17 #[.slice A1 L.length c1, .slice A2 L.length c2] W fun e w' => e = .returned (.bool true) ∧ Chg No W w') := fun L W R1 R2 A1 A2 c1 c2 g1 g2 => by
    have := sameCell_any g1 g2
    rwa [show decide (L = L) = true by simp] at this
  have HSS : Hid (∀ (L : List Tri) W R1 R2 A1 A2 c1 c2, Tris R1 W A1 L c1 → Tris R2 W A2 L c2 → Calls Try.prog 9 #[.slice A1 L.length c1, .slice A2 L.length c2] W fun e w' => e = .returned (.bool true) ∧ Chg No W w') := fun L W R1 R2 A1 A2 c1 c2 g1 g2 => by
    have := sameShare_any g1 g2
    rwa [show decide (L = L) = true by simp] at this
  have hsl := setP_len (a, f, 5) l
  have hdl : (dropQ l (a, f, 0)).length ≤ l.length := by
    unfold dropQ
    split
    · exact dropP_len _ _
    · simp
  have hjl := addsS_len (b ++ b)
  rw [List.length_append] at hjl
  have HB1 : Hid ((setP l (a, f, 5)).length * 32 ≤ big) := by unfold Hid big; omega
  have HB2 : Hid ((dropQ l (a, f, 0)).length * 32 ≤ big) := by unfold Hid big; omega
  have HB3 : Hid ((addsS (b ++ b)).length * 32 ≤ big) := by unfold Hid big; omega
  have HB4 : Hid (l.length * 32 ≤ big) := by unfold Hid big; omega
  have HB5 : Hid (b.length * 32 ≤ big) := by unfold Hid big; omega
  clear hsl hdl hjl hk ha hf hl hb hS
  generalize setP l (a, f, 5) = LS at *
  generalize dropQ l (a, f, 0) = LD at *
  generalize addsS (b ++ b) = LJ at *
  generalize noneV (hasL l (a, f, 0)) = nv at *
  go_enter Try.func5, Try.ntmps5
  go_wp2_with (first
    | (go_at_call 8; refine HU.out.mono ?_; rintro e w1 ⟨rfl, h2⟩; have H1 := Lib.hid h2; clear h2)
    | (go_at_call 14; refine (HST.out _ H1.out).mono ?_; rintro e w2 ⟨rfl, h2⟩; have H2 := Lib.hid (H1.out.thenNo h2); clear h2))
  go_loopw [11] (fun s11 wr => ∃ k : Nat, k ≤ b.length ∧ s11 = .int .i64 k ∧ wr = w2) (fun s11 _ => b.length - (intOf s11).toNat)
  case atStart => exact ⟨0, Nat.zero_le _, rfl, rfl⟩
  case round =>
    obtain ⟨k, hk, rfl, rfl⟩ := hrel
    by_cases hlt : k < b.length
    · obtain ⟨p, off, hA, c0, c1, c2⟩ := (HLB.out _ H2.out).tri_at k hlt
      subst hA
      generalize b[k].2.2 = z at *
      clear c0 c1
      by_cases g1 : (1099511627776 : Int) < z
      · have e1 : decide ((1099511627776 : Int) < z) = true := decide_eq_true g1
        go_wp2_with fail
        go_ret
        exact ⟨rfl, H2.out⟩
      have e1 : decide ((1099511627776 : Int) < z) = false := decide_eq_false g1
      by_cases g2 : z < -1099511627776
      · have e2 : decide (z < -1099511627776) = true := decide_eq_true g2
        go_wp2_with fail
        go_ret
        exact ⟨rfl, H2.out⟩
      have e2 : decide (z < -1099511627776) = false := decide_eq_false g2
      go_wp2_with fail
      go_roundw
      case rel => exact ⟨k + 1, hlt, by go_num, trivial⟩
      case measure => simp [intOf]; omega
    · have HL2 := Lib.hid (HLA.out _ H2.out)
      go_upto_region 11 with (at_builtin; refine wpList_copyL triV_good tri_one cellsTy rfl (.tmp 59) (.tmp 60) rfl rfl rfl HL2.out rfl ?_; intro A3 c3 w3 h1 h2 h3; have G3 := Lib.hid (OTris.of h1); have H3 := Lib.hid (H2.out.thenNo h2); have N3 := Lib.hid h3; clear h1 h2 h3)
      have HL3 := Lib.hid (HLB.out _ H3.out)
      go_upto_region 12 with (at_builtin; refine wpList_copyL triV_good tri_one sharesTy rfl (.tmp 62) (.tmp 63) rfl rfl rfl HL3.out rfl ?_; intro A4 c4 w4 h1 h2 h3; have G4 := Lib.hid (OTris.of h1); have K4 := Lib.hid (G3.out.no triV_good h2); have H4 := Lib.hid (H3.out.thenNo h2); have N4 := Lib.hid h3; have Z4 := Lib.hid h2.size; clear h1 h2 h3)
      obtain ⟨g3, o3, rfl⟩ := G3.out.addr N3.out
      obtain ⟨g4, o4, rfl⟩ := G4.out.addr N4.out
      have hg3 := (G3.out.mine g3 (by simp [Value.ownBlock]))
      have hg4 := (G4.out.mine g4 (by simp [Value.ownBlock]))
      have HGG : Hid (w.heap.size ≤ g3 ∧ g3 < w4.heap.size ∧ w.heap.size ≤ g4 ∧ g4 < w4.heap.size ∧ g3 ≠ g4) := by
        have e1 := H2.out.size
        have e2 := H3.out.size
        have e3 := Z4.out
        have e4 := hg3.1
        have e5 := hg3.2
        have e6 := hg4.1
        have e7 := hg4.2
        exact ⟨by omega, by omega, by omega, by omega, by omega⟩
      have T3 := Lib.hid (OTris.tris K4.out HB4.out)
      have T4 := Lib.hid (OTris.tris G4.out HB5.out)
      clear hg3 hg4
      go_upto_region 17 with (first
        | (go_at_call 15; (with_reducible refine (HSET.out _ _ _ _ T3.out).mono ?_); rintro e w5 ⟨A5, n5, c5, rfl, h1, h2, h3⟩; subst h1; have S5 := Lib.hid h2; have C5 := Lib.hid h3; have T5 := Lib.hid (T3.out.no triE_good h3); clear h2 h3)
        | (go_at_call 16; (with_reducible refine (HDR.out _ _ _ _ T5.out).mono ?_); rintro e w6 ⟨A6, n6, c6, rfl, h1, h2, h3⟩; subst h1; have S6 := Lib.hid (S5.out.no triV_good h3); have D6 := Lib.hid h2; have C6 := Lib.hid (C5.out.thenNo h3); clear h2 h3; have T6 := Lib.hid (T4.out.no triE_good C6.out))
        | (go_at_call 10; (with_reducible refine (HJ.out _ _ _ _ T6.out).mono ?_); rintro e w7 ⟨A7, c7, rfl, h2, h3⟩; have S7 := Lib.hid (S6.out.no triV_good h3); have D7 := Lib.hid (D6.out.no triV_good h3); have J7 := Lib.hid h2; have C7 := Lib.hid (C6.out.thenNo h3); clear h2 h3; have Q7 := Lib.hid (T3.out.no triE_good C7.out))
        | (go_at_call 17; (with_reducible refine (HSC.out _ _ _ _ _ _ _ _ Q7.out (HLA.out _ (H4.out.thenNo C7.out))).mono ?_); rintro e w8 ⟨rfl, h2⟩; have C8 := Lib.hid (C7.out.thenNo h2); have C78 := Lib.hid h2; clear h2; have Q8 := Lib.hid (T4.out.no triE_good C8.out))
        | (go_at_call 9; (with_reducible refine (HSS.out _ _ _ _ _ _ _ _ Q8.out (HLB.out _ (H4.out.thenNo C8.out))).mono ?_); rintro e w9 ⟨rfl, h2⟩; have C9 := Lib.hid (C8.out.thenNo h2); have C79 := Lib.hid (C78.out.thenNo h2); clear h2))
      have ST : Hid (Stay w w4 (.slice A5 LS.length c5) (.slice A6 LD.length c6) (.slice A7 LJ.length c7) LS LD LJ w9) := by
        have hz5 := C5.out.size
        have hz6 := C6.out.size
        have hz7 := C7.out.size
        exact ⟨H4.out.thenNo C9.out, (S7.out.no triV_good C79.out), (D7.out.no triV_good C79.out).mono triV_good (fun q _ h => by omega) (fun _ _ f => f), (J7.out.no triV_good C79.out).mono triV_good (fun q _ h => by omega) (fun _ _ f => f)⟩
      have O3 := Lib.hid (K4.out.no triV_good C9.out)
      have O4 := Lib.hid (G4.out.no triV_good C9.out)
      clear T3 T4 T5 T6 S5 S6 S7 D6 D7 J7 C5 C6 C7 C8 C78 C79 C9 Q7 Q8 HSET HJ G3 G4 K4 N3 N4 H3 H4 HL2 HL3
      go_wp2_with fail
      generalize wr.heap.size = B3 at *
      generalize w3.heap.size = B4 at *
      go_loopw [18] (fun s wr => ∃ (k : Nat) (L : List Tri), k ≤ l.length ∧ s = .int .i64 k ∧ Hid (L.length = l.length) ∧ Hid (OTris 39 (fun k => B3 ≤ k) wr (.slice (some ⟨g3, o3, none⟩) l.length c3) L) ∧ Hid (Stay w w4 (.slice A5 LS.length c5) (.slice A6 LD.length c6) (.slice A7 LJ.length c7) LS LD LJ wr) ∧ Hid (OTris 25 (fun k => B4 ≤ k) wr (.slice (some ⟨g4, o4, none⟩) b.length c4) b)) (fun s _ => l.length - (intOf s).toNat)
      case atStart => exact ⟨0, l, Nat.zero_le _, rfl, rfl, O3, ST, O4⟩
      case round =>
        clear O3 O4 ST hlt hk
        obtain ⟨k, L, hk, rfl, hL, O3, ST, O4⟩ := hrel
        by_cases hlt : k < l.length
        · obtain ⟨hfz, _, hO⟩ := OTris.setC O3.out k (by have := hL.out; omega) zTri_ok
          obtain ⟨f0, u0, c0⟩ := hfz 0 (by omega)
          obtain ⟨f1, u1, c1⟩ := hfz 1 (by omega)
          obtain ⟨f2, u2, c2⟩ := hfz 2 (by omega)
          rw [Nat.add_zero] at f0 c0
          have HO := Lib.hid hO
          have HST2 := Lib.hid (ST.out.go (S := fun q => q = g3) ((((Chg.refl (fun q => q = g3) _).setCell ⟨g3, o3 + k * 3, none⟩ (.int .i64 0) (fun _ => rfl)).setCell ⟨g3, o3 + k * 3 + 1, none⟩ (.string ByteArray.empty) (fun _ => rfl)).setCell ⟨g3, o3 + k * 3 + 2, none⟩ (.int .i64 0) (fun _ => rfl)) (fun q hq => by subst hq; exact ⟨HGG.out.1, HGG.out.2.1⟩))
          have HO4 := Lib.hid (O4.out.chg triV_good (S := fun q => q = g3) ((((Chg.refl (fun q => q = g3) _).setCell ⟨g3, o3 + k * 3, none⟩ (.int .i64 0) (fun _ => rfl)).setCell ⟨g3, o3 + k * 3 + 1, none⟩ (.string ByteArray.empty) (fun _ => rfl)).setCell ⟨g3, o3 + k * 3 + 2, none⟩ (.int .i64 0) (fun _ => rfl)) (fun q hq e => by simp [Value.ownBlock] at hq; have := HGG.out.2.2.2.2; omega) (fun _ f => f.elim))
          have HLL : Hid ((L.set k zTri).length = l.length) := by unfold Hid; rw [List.length_set]; exact hL.out
          clear hfz hO
          go_wp2_with fail
          go_roundw
          case rel => exact ⟨k + 1, L.set k zTri, hlt, by go_num, HLL, HO, HST2, HO4⟩
          case measure => simp [intOf]; omega
        · clear O3 hL
          go_wp2_with fail
          go_loopw [19] (fun s wr => ∃ (k : Nat) (L : List Tri), k ≤ b.length ∧ s = .int .i64 k ∧ Hid (L.length = b.length) ∧ Hid (OTris 25 (fun k => B4 ≤ k) wr (.slice (some ⟨g4, o4, none⟩) b.length c4) L) ∧ Hid (Stay w w4 (.slice A5 LS.length c5) (.slice A6 LD.length c6) (.slice A7 LJ.length c7) LS LD LJ wr)) (fun s _ => b.length - (intOf s).toNat)
          case atStart => exact ⟨0, b, Nat.zero_le _, rfl, rfl, O4, ST⟩
          case round =>
            clear O4 ST hlt hk
            obtain ⟨k, L, hk, rfl, hL, O4, ST⟩ := hrel
            by_cases hlt : k < b.length
            · obtain ⟨hfz, _, hO⟩ := OTris.setC O4.out k (by have := hL.out; omega) zTri_ok
              obtain ⟨f0, u0, c0⟩ := hfz 0 (by omega)
              obtain ⟨f1, u1, c1⟩ := hfz 1 (by omega)
              obtain ⟨f2, u2, c2⟩ := hfz 2 (by omega)
              rw [Nat.add_zero] at f0 c0
              have HO := Lib.hid hO
              have HST2 := Lib.hid (ST.out.go (S := fun q => q = g4) ((((Chg.refl (fun q => q = g4) _).setCell ⟨g4, o4 + k * 3, none⟩ (.int .i64 0) (fun _ => rfl)).setCell ⟨g4, o4 + k * 3 + 1, none⟩ (.string ByteArray.empty) (fun _ => rfl)).setCell ⟨g4, o4 + k * 3 + 2, none⟩ (.int .i64 0) (fun _ => rfl)) (fun q hq => by subst hq; exact ⟨HGG.out.2.2.1, HGG.out.2.2.2.1⟩))
              have HLL : Hid ((L.set k zTri).length = b.length) := by unfold Hid; rw [List.length_set]; exact hL.out
              clear hfz hO
              go_wp2_with fail
              go_roundw
              case rel => exact ⟨k + 1, L.set k zTri, hlt, by go_num, HLL, HO, HST2⟩
              case measure => simp [intOf]; omega
            · clear O4 hL
              have E1 := Lib.hid (ST.out.s.tris HB1.out)
              have E2 := Lib.hid (ST.out.d.tris HB2.out)
              have E3 := Lib.hid (ST.out.j.tris HB3.out)
              have E0 := Lib.hid ST.out.ch
              clear ST
              go_wp2_with (first
                | (go_at_call 16; (with_reducible refine (HDR.out _ _ _ _ (HLA.out _ E0.out)).mono ?_); rintro e wa ⟨Aa, na, ca, rfl, h1, h2, h3⟩; subst h1; have FA := Lib.hid (OTris.tris h2 HB2.out); have E1a := Lib.hid (E1.out.no triE_good h3); have E2a := Lib.hid (E2.out.no triE_good h3); have E3a := Lib.hid (E3.out.no triE_good h3); have E0a := Lib.hid (E0.out.thenNo h3); clear h2 h3)
                | (go_at_call 18; (with_reducible refine (HRS.out _ E0a.out).mono ?_); rintro e wb ⟨Ab, nb, cb2, rfl, h1, h2, h3⟩; subst h1; have FB := Lib.hid (OTris.tris h2 HB1.out); have E1b := Lib.hid (E1a.out.no triE_good h3); have CB := Lib.hid h3; have E0b := Lib.hid (E0a.out.thenNo h3); clear h2 h3)
                | (go_at_call 17; (with_reducible refine (HSC.out _ _ _ _ _ _ _ _ E1b.out FB.out).mono ?_); rintro e wc ⟨rfl, h3⟩; have CC := Lib.hid (CB.out.thenNo h3); have E2c := Lib.hid (E2a.out.no triE_good CC.out); have FAc := Lib.hid (FA.out.no triE_good CC.out); have E0c := Lib.hid (E0b.out.thenNo h3); clear h3)
                | (go_at_call 17; (with_reducible refine (HSC.out _ _ _ _ _ _ _ _ E2c.out FAc.out).mono ?_); rintro e wd ⟨rfl, h3⟩; have CD := Lib.hid (CC.out.thenNo h3); have E0d := Lib.hid (E0c.out.thenNo h3); clear h3)
                | (go_at_call 11; (with_reducible refine (HRJ.out _ E0d.out).mono ?_); rintro e we ⟨Ae, ce, rfl, h2, h3⟩; have FE := Lib.hid (OTris.tris h2 HB3.out); have E3e := Lib.hid (E3a.out.no triE_good (CD.out.thenNo h3)); have E0e := Lib.hid (E0d.out.thenNo h3); clear h2 h3)
                | (go_at_call 9; (with_reducible refine (HSS.out _ _ _ _ _ _ _ _ E3e.out FE.out).mono ?_); rintro e wf ⟨rfl, h3⟩; have E0f := Lib.hid (E0e.out.thenNo h3); clear h3))
              go_ret
              exact ⟨rfl, E0f.out⟩
end Go.Proofs.Ytbcgffnmbmbjdaa
