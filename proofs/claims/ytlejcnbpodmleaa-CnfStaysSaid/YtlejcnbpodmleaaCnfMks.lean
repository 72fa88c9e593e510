/-
  The walk over CnfMakes: it returns true and changes nothing.
-/
import Derived.Test.YtlejcnbpodmleaaCnfJ
namespace Go.Proofs.Ytlejcnbpodmleaa
open Go Go.RowKit

theorem form_of {n : Nat} {R : Nat → Prop} {w : World} {x : Node (FT n)} {A B : Option Addr} {cap capk : Nat} (h1 : I64 x.kind) (h2 : I64 x.lin.1) (h3 : Monos R w A x.lin.2 cap) (h4 : Forms R w B x.kids capk) :
    (formV (n + 1)) R w [.int .i64 x.kind, .int .i64 x.lin.1, .slice A x.lin.2.length cap, .slice B x.kids.length capk] x :=
  ⟨A, cap, B, capk, rfl, h1, h2, h3, by rw [formV_sz]; exact h4⟩
theorem cnfErr_range (n : Nat) (f : FT n) : 0 ≤ cnfErr n f ∧ cnfErr n f ≤ 16 := by
  unfold cnfErr
  split
  · split <;> omega
  · omega
theorem own_lins {M R : Nat → Prop} {w : World} {A : Option Addr} {n cap : Nat} {l : List Lin} (h : OwnL linW 24 M R w (.slice A n cap) l) (hl : l.length ≤ 100000) : n = l.length ∧ Lins Any w A l cap := by
  have h1 := (ownW_lins h).sl_of linV_good (by show l.length * 32 ≤ big; unfold big; omega)
  exact ⟨h1.1, h1.2.mono linE_good (fun _ _ _ => trivial)⟩
theorem own_rows {M R : Nat → Prop} {w : World} {A : Option Addr} {n cap : Nat} {l : List (List Int)} (h : OwnL rowV 47 M R w (.slice A n cap) l) (hl : l.length ≤ 1000000) : n = l.length ∧ Rows2 Any w A l cap := by
  have h1 := h.sl_of rowV_good (by show l.length * 24 ≤ big; unfold big; omega)
  exact ⟨h1.1, rows_mem (h1.2.mono rowV_good.mem (fun _ _ _ => trivial))⟩
theorem cnfOut_len (n : Nat) (f : FT n) : (cnfOut n f).2.1.length ≤ 100000 ∧ (cnfOut n f).2.2.length ≤ 1000000 := by
  unfold cnfOut
  split
  · rename_i h
    have hB : isB n f = true := by
      cases hB : isB n f with
      | true => rfl
      | false => unfold cnfErr at h; rw [hB] at h; simp at h
    obtain ⟨hon, hcn⟩ := is_only hB
    have hal := atoms_len n f []
    have hr := litF_range (atomsF n f []) n f hon (atomsF n f []).length [] (Int.le_refl _)
    simp only [List.length_nil, Nat.zero_add] at hal hr
    unfold cnfAll
    simp only [List.length_append, List.length_cons, List.length_nil]
    omega
  · simp

set_option maxRecDepth 100000 in
set_option maxHeartbeats 2000000 in
theorem cnfMakes_walk {n : Nat} {f : FT n} {R : Nat → Prop} {w : World} {cs : List Value} (h : (formV n) R w cs f) :
    Calls Try.prog 3 #[.agg cs.toArray] w fun e w' => e = .returned (.bool true) ∧ Chg No w w' := by
  have hg := formV_good n
  obtain ⟨kd, c, A, tl, cap, B, kl, capk, rfl⟩ := form_shape h
  have HU := Lib.hid (fun W => up9_any W)
  have HS := Lib.hid (fun W (hc : Chg No w W) => small_any (hg.no h hc))
  have HM := Lib.hid (fun W (hc : Chg No w W) => make9_any (hg.no h hc))
  have HR := Lib.hid (fun W (hc : Chg No w W) => refMake_any (hg.no h hc))
  have HCd := Lib.hid (fun W => code_any W (cnfErr n f) (cnfErr_range n f).1 (cnfErr_range n f).2)
  obtain ⟨l1, l2⟩ := cnfOut_len n f
  clear h
  generalize cnfErr n f = er at *
  generalize cnfOut n f = o at *
  obtain ⟨oN, oA, oC⟩ := o
  simp only at l1 l2
  have h0 : Hid (Chg No w (w.alloc (.cells #[.int .i64 kd, .int .i64 c, .slice A tl cap, .slice B kl capk] 27)) ∧ (w.alloc (.cells #[.int .i64 kd, .int .i64 c, .slice A tl cap, .slice B kl capk] 27)).heap[w.heap.size]? = some (.cells #[.int .i64 kd, .int .i64 c, .slice A tl cap, .slice B kl capk] 27 (0, 0))) := ⟨(Chg.refl _ _).alloc _, heap_alloc_new _ _⟩
  go_enter Try.func3, Try.ntmps3
  go_upto_region 3 with (first
    | (go_at_call 7; refine (HU.out _).mono ?_; rintro e w1 ⟨rfl, h1⟩; have O1 := Lib.hid (h1.obj h0.out.2 id); obtain ⟨p0, p1, p2, p3⟩ := obj_four O1.out; have H1 := Lib.hid (h0.out.1.thenNo h1); clear h1)
    | (go_at_call 8; refine (HS.out _ H1.out).mono ?_; rintro e w2 ⟨q, rfl, h2⟩; have O2 := Lib.hid (h2.obj O1.out id); clear p0 p1 p2 p3; obtain ⟨p0, p1, p2, p3⟩ := obj_four O2.out; have H2 := Lib.hid (H1.out.thenNo h2); clear h2))
  cases q
  · go_wp2_with fail
    go_ret
    exact ⟨rfl, H2.out⟩
  go_upto_region 6 with (go_at_call 9; (with_reducible refine (HM.out _ H2.out).mono ?_); rintro e w3 ⟨A1, c1, B1, d1, Z, rfl, _, g1, g2, h3⟩; have G1 := Lib.hid (own_rows g1 l2).2; have G2 := Lib.hid (own_lins g2 l1).2; have C3 := Lib.hid h3; clear g1 g2 h3)
  obtain ⟨w4, hw4⟩ : ∃ w4, w4 = w3.alloc (.cells #[.int .i64 oN, .slice A1 oA.length c1, .slice B1 oC.length d1] 33) := ⟨_, rfl⟩
  rw [← hw4]
  have C4 : Hid (Chg No w3 w4 ∧ w4.heap[w3.heap.size]? = some (.cells #[.int .i64 oN, .slice A1 oA.length c1, .slice B1 oC.length d1] 33 (0, 0))) := by rw [hw4]; exact ⟨(Chg.refl _ _).alloc _, heap_alloc_new _ _⟩
  clear hw4 p0 p1 p2 p3
  have C24 := Lib.hid (C3.out.thenNo C4.out.1)
  obtain ⟨p0, p1, p2, p3⟩ := obj_four (C24.out.obj O2.out id)
  go_upto_region 7 with (go_at_call 10; (with_reducible refine (HR.out _ (H2.out.thenNo C24.out)).mono ?_); rintro e w5 ⟨A2, c2, B2, d2, rfl, g3, g4, h5⟩; have G3 := Lib.hid g3; have G4 := Lib.hid g4; have C5 := Lib.hid h5; clear h5 g3 g4)
  obtain ⟨w6, hw6⟩ : ∃ w6, w6 = w5.alloc (.cells #[.int .i64 oN, .slice A2 oA.length c2, .slice B2 oC.length d2] 33) := ⟨_, rfl⟩
  rw [← hw6]
  have C6 : Hid (Chg No w5 w6 ∧ w6.heap[w5.heap.size]? = some (.cells #[.int .i64 oN, .slice A2 oA.length c2, .slice B2 oC.length d2] 33 (0, 0))) := by rw [hw6]; exact ⟨(Chg.refl _ _).alloc _, heap_alloc_new _ _⟩
  clear hw6 p0 p1 p2 p3
  have CEL : Hid (∀ W, Chg No w6 W → Chg No w W ∧ (W.cell? ⟨w3.heap.size, 0, none⟩ = some (.int .i64 oN) ∧ W.cell? ⟨w3.heap.size, 1, none⟩ = some (.slice A1 oA.length c1) ∧ W.cell? ⟨w3.heap.size, 2, none⟩ = some (.slice B1 oC.length d1)) ∧ (W.cell? ⟨w5.heap.size, 0, none⟩ = some (.int .i64 oN) ∧ W.cell? ⟨w5.heap.size, 1, none⟩ = some (.slice A2 oA.length c2) ∧ W.cell? ⟨w5.heap.size, 2, none⟩ = some (.slice B2 oC.length d2)) ∧ Lins Any W A1 oA c1 ∧ Lins Any W A2 oA c2 ∧ Rows2 Any W B1 oC d1 ∧ Rows2 Any W B2 oC d2) := fun W hW => by
    have c45 := (C4.out.1.thenNo C5.out).thenNo (C6.out.1.thenNo hW)
    have c46 := C5.out.thenNo (C6.out.1.thenNo hW)
    obtain ⟨a0, a1, a2, _⟩ := obj_three (c46.obj C4.out.2 id)
    obtain ⟨b0, b1, b2, _⟩ := obj_three (hW.obj C6.out.2 id)
    exact ⟨(H2.out.thenNo C24.out).thenNo c46, ⟨a0, a1, a2⟩, ⟨b0, b1, b2⟩, G2.out.no linE_good c45, G3.out.no linE_good (C6.out.1.thenNo hW), G1.out.no rowE_good c45, G4.out.no rowE_good (C6.out.1.thenNo hW)⟩
  obtain ⟨_, ⟨a0, a1, a2⟩, ⟨b0, b1, b2⟩, _⟩ := CEL.out w6 (Chg.refl _ _)
  go_wp2_with (first
    | (go_at_call 11; refine (HCd.out _).mono ?_; rintro e w7 ⟨rfl, rfl⟩)
    | (go_at_call 12; refine (sameLins_any (CEL.out w6 (Chg.refl _ _)).2.2.2.1 (CEL.out w6 (Chg.refl _ _)).2.2.2.2.1).mono ?_; rintro e w7 ⟨rfl, h7⟩; have C7 := Lib.hid h7; obtain ⟨_, ⟨d0, d1', d2'⟩, ⟨e0, e1, e2⟩, _⟩ := CEL.out w7 h7; clear h7)
    | (go_at_call 13; refine (sameRows_any (CEL.out w7 C7.out).2.2.2.2.2.1 (CEL.out w7 C7.out).2.2.2.2.2.2).mono ?_; rintro e w8 ⟨rfl, h8⟩))
  go_ret
  exact ⟨rfl, (CEL.out w8 (C7.out.thenNo h8)).1⟩
end Go.Proofs.Ytlejcnbpodmleaa
