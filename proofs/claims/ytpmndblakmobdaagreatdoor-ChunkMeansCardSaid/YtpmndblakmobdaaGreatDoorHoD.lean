/-
  chunk.compared: a comparison's formula.
-/
import Derived.Test.YtpmndblakmobdaaGreatDoorHoC
import Derived.Deep.DeepCutAuto
namespace Go.Proofs.YtpmndblakmobdaaGreatDoor
open Go Go.RowKit

/-- A call returns a formula in new memory, or that it is far. -/
def CpRet (n : Nat) (w : World) (o : Option (FT (n + 2))) (e : Ending) (w' : World) : Prop :=
  ∃ (k c : Int) (A : Option Addr) (lA cA : Nat) (B : Option Addr) (lB cB : Nat), e = .returned (.tuple #[.agg #[.int .i64 k, .int .i64 c, .slice A lA cA, .slice B lB cB], errV 83 (if o.isNone = true then 3 else 0)]) ∧
    (∀ f, o = some f → (formV (n + 2)) (fun q => w.heap.size ≤ q) w' [.int .i64 k, .int .i64 c, .slice A lA cA, .slice B lB cB] f) ∧ Chg No w w'
theorem CpRet.none {n : Nat} {w w' : World} {k c : Int} {A : Option Addr} {lA cA : Nat} {B : Option Addr} {lB cB : Nat} (h : Chg No w w') : CpRet n w none (.returned (.tuple #[.agg #[.int .i64 k, .int .i64 c, .slice A lA cA, .slice B lB cB], .iface 83 (.int .i64 3)])) w' :=
  ⟨k, c, A, lA, cA, B, lB, cB, by rw [show (if (Option.none : Option (FT (n + 2))).isNone = true then (3 : Int) else 0) = 3 from rfl, errV_of _ (by decide)], (fun _ h => by cases h), h⟩
theorem CpRet.some {n : Nat} {w w' : World} {f : FT (n + 2)} {k c : Int} {A : Option Addr} {lA cA : Nat} {B : Option Addr} {lB cB : Nat} (hf : (formV (n + 2)) (fun q => w.heap.size ≤ q) w' [.int .i64 k, .int .i64 c, .slice A lA cA, .slice B lB cB] f) (h : Chg No w w') :
    CpRet n w (some f) (.returned (.tuple #[.agg #[.int .i64 k, .int .i64 c, .slice A lA cA, .slice B lB cB], .nilIface])) w' :=
  ⟨k, c, A, lA, cA, B, lB, cB, by rw [show (if (Option.some f).isNone = true then (3 : Int) else 0) = 0 from rfl, errV_zero], (fun g h => by injection h with h; subst h; exact hf), h⟩

set_option maxRecDepth 100000 in
set_option maxHeartbeats 8000000 in
theorem compared_any (n : Nat) {m : Nat} {ea eb : ET m} {R Rs : Nat → Prop} {w : World} {kd : Int} (hkd : kd = 2 ∨ kd = 3 ∨ kd = 4 ∨ kd = 5) {Ae : Option Addr} {cape : Nat} (he : Exprs R w Ae [ea, eb] cape) (h1 : okE m ea = true) (h2 : okE m eb = true) (B : Option Addr) (kl capk : Nat) {As : Option Addr} {l : List Sym} {caps : Nat} (hl : Syms Rs w As l caps) (hRs : ∀ k, Rs k → k < w.heap.size) (hsB : l.all symB = true) :
    Calls Tryz.prog 61 #[.agg #[.int .i64 kd, .slice Ae 2 cape, .slice B kl capk], .slice As l.length caps] w (CpRet n w (cmpE m n kd [ea, eb] l)) := by
  have HKA := Lib.hid (fun W (hW : Chg No w W) => he.no (exprE_good m) hW)
  have HEX : Hid (∀ x : ET m, okE m x = true → ∀ (W : World) (R' : Nat → Prop) cs', Chg No w W → (exprV m) R' W cs' x → Calls Tryz.prog 34 #[.agg cs'.toArray, .slice As l.length caps] W (XRet Rs W (lexp m x l))) := fun x hx W R' cs' hW hcs =>
    cexpr_any m x R' Rs W cs' As l caps hcs hx (hl.no symE_good hW) (fun k hk => Nat.lt_of_lt_of_le (hRs k hk) hW.size) hsB
  have HSND := Lib.hid (fun (x : ET m) (hx : okE m x = true) r (hr : lexp m x l = some r) => lexp_sound m x l hsB hx r hr)
  obtain ⟨ans, hans⟩ : ∃ ans, ans = cmpE m n kd [ea, eb] l := ⟨_, rfl⟩
  rw [← hans]
  have HA : Hid (ans = (match lexp m ea l with | none => none | some A => match lexp m eb l with | none => none | some B => cmpF n kd A B)) := hans
  have HOA := Lib.hid h1
  have HOB := Lib.hid h2
  have hbig := hl.big
  unfold big at hbig
  clear hans h1 h2 he hl hRs hsB
  obtain ⟨w3, hw3⟩ : ∃ w3, w3 = (w.alloc (.cells #[.int .i64 kd, .slice Ae 2 cape, .slice B kl capk] 56)).alloc (.cells #[.int .i64 0, .int .i64 0, .slice none 0 0, .slice none 0 0] 49) := ⟨_, rfl⟩
  have h3 : Hid (Chg No w w3 ∧ w3.heap[w.heap.size]? = some (.cells #[.int .i64 kd, .slice Ae 2 cape, .slice B kl capk] 56 (0, 0)) ∧ w3.heap[w.heap.size + 1]? = some (.cells #[.int .i64 0, .int .i64 0, .slice none 0 0, .slice none 0 0] 49 (0, 0)) ∧ w3.heap.size = w.heap.size + 2) := by
    rw [hw3]
    exact ⟨((Chg.refl _ _).alloc _).alloc _, at_old (heap_alloc_new _ _), at_new (by simp), by simp⟩
  have HSET : Hid (∀ W u0 u1 u2 u3, Chg No w3 W → Chg No w ((((W.setCell ⟨w.heap.size + 1, 0, none⟩ u0).setCell ⟨w.heap.size + 1, 1, none⟩ u1).setCell ⟨w.heap.size + 1, 2, none⟩ u2).setCell ⟨w.heap.size + 1, 3, none⟩ u3)) := fun W u0 u1 u2 u3 hW =>
    chgpast2 (h3.out.1.thenNo hW) (set4_chg W _ u0 u1 u2 u3) (fun k hk => by omega)
  have HRET : Hid (∀ (y : FT (n + 2)) (W : World) (u0 u1 u2 u3 : Value), Chg No w3 W → (formV (n + 2)) (fun k => w3.heap.size ≤ k) W [u0, u1, u2, u3] y →
      (formV (n + 2)) (fun k => w.heap.size ≤ k) ((((W.setCell ⟨w.heap.size + 1, 0, none⟩ u0).setCell ⟨w.heap.size + 1, 1, none⟩ u1).setCell ⟨w.heap.size + 1, 2, none⟩ u2).setCell ⟨w.heap.size + 1, 3, none⟩ u3) [u0, u1, u2, u3] y) := fun y W u0 u1 u2 u3 hW hy => by
    have hz := h3.out.2.2.2
    exact (formV_good _).mono ((formV_good _).chg hy (set4_chg W (w.heap.size + 1) u0 u1 u2 u3) (fun k hk e => by omega)) (fun k _ hk => by omega)
  have HO : Hid (∀ W, Chg No w3 W → (W.cell? ⟨w.heap.size, 0, none⟩ = some (.int .i64 kd) ∧ W.cell? ⟨w.heap.size, 1, none⟩ = some (.slice Ae 2 cape) ∧ W.cell? ⟨w.heap.size, 2, none⟩ = some (.slice B kl capk)) ∧
      (W.cell? ⟨w.heap.size + 1, 0, none⟩ = some (.int .i64 0) ∧ W.cell? ⟨w.heap.size + 1, 1, none⟩ = some (.int .i64 0) ∧ W.cell? ⟨w.heap.size + 1, 2, none⟩ = some (.slice none 0 0) ∧ W.cell? ⟨w.heap.size + 1, 3, none⟩ = some (.slice none 0 0)) ∧ W.frozen? ⟨w.heap.size + 1, 0, none⟩ = false ∧ W.frozen? ⟨w.heap.size + 1, 1, none⟩ = false ∧ W.frozen? ⟨w.heap.size + 1, 2, none⟩ = false ∧ W.frozen? ⟨w.heap.size + 1, 3, none⟩ = false) := fun W hW =>
    ⟨obj_3 (hW.obj h3.out.2.1 id), obj_4f (hW.obj h3.out.2.2.1 id)⟩
  obtain ⟨b, o, hB⟩ : ∃ b o, Ae = some ⟨b, o, none⟩ := by
    obtain ⟨b, o, _, _, _, _, _, _, hB, _⟩ := exprs_at (HKA.out w3 h3.out.1) 0 (by simp)
    exact ⟨b, o, hB⟩
  subst hB
  have HI0 : ∀ k : Int, 0 ≤ k → k ≤ 16 → I64 k := fun k h1 h2 => I64.of (by omega) (by omega)
  have HI := Lib.hid HI0
  clear HI0
  obtain ⟨k0, m0, s0, B0, l0, d0, hv, x0, x1, x2, x3⟩ := exprs_some (HKA.out w3 h3.out.1) 0 (by simp)
  have HI1 := Lib.hid (HEX.out ea HOA.out w3 R _ h3.out.1 hv)
  simp only [Nat.zero_mul, Nat.add_zero] at x0 x1 x2 x3
  clear hv
  unfold XRet at HI1
  obtain ⟨⟨p0, p1, p2⟩, ⟨r0, r1, r2, r3⟩, f0, f1, f2, f3⟩ := HO.out w3 (Chg.refl _ _)
  cases hla : lexp m ea l with
  | none =>
    rw [hla, show optE (none : Option Lin) = 3 from rfl, errV_of _ (by decide), show optL none = (0, []) from rfl] at HI1
    obtain rfl : ans = none := by rw [HA.out, hla]
    clear HA hla HEX HSND hkd
    go_enter Tryz.func61, Tryz.ntmps61
    go_upto_region 1 with fail
    rw [← hw3]
    clear hw3
    go_upto_region 2 with (go_at_call 34; refine HI1.out.mono ?_; rintro e w4 ⟨A4, c4, rfl, g4, h4⟩; have H4 := Lib.hid h4; clear g4 h4)
    obtain ⟨w5, hw5⟩ : ∃ w5, w5 = w4.alloc (.cells #[.int .i64 0, .slice A4 0 c4] 32) := ⟨_, rfl⟩
    rw [← hw5]
    obtain ⟨b5, hb5⟩ : ∃ b5, b5 = w4.heap.size := ⟨_, rfl⟩
    rw [← hb5]
    have C5 : Hid (Chg No w3 w5) := by rw [hw5]; exact H4.out.alloc _
    clear hw5 hb5 p0 p1 p2 r0 r1 r2 r3 f0 f1 f2 f3 x0 x1 x2 x3
    obtain ⟨⟨p0, p1, p2⟩, ⟨r0, r1, r2, r3⟩, f0, f1, f2, f3⟩ := HO.out w5 C5.out
    go_wp2_with fail
    exact bodyPost_ret (v := .tuple #[.agg #[.int .i64 0, .int .i64 0, .slice none 0 0, .slice none 0 0], .iface 83 (.int .i64 3)]) (by simp [results, Tryz.results61, go_sem, r0, r1, r2, r3]) rfl (CpRet.none (HSET.out _ _ _ _ _ C5.out))
  | some LA =>
    rw [hla, show optE (some LA) = 0 from rfl, errV_zero, show optL (some LA) = LA from rfl] at HI1
    go_enter Tryz.func61, Tryz.ntmps61
    go_upto_region 1 with fail
    rw [← hw3]
    clear hw3
    go_upto_region 2 with (go_at_call 34; refine HI1.out.mono ?_; rintro e w4 ⟨A4, c4, rfl, g4, h4⟩; have G4 := Lib.hid g4; have H4 := Lib.hid h4; clear g4 h4)
    obtain ⟨w5, hw5⟩ : ∃ w5, w5 = w4.alloc (.cells #[.int .i64 LA.1, .slice A4 LA.2.length c4] 32) := ⟨_, rfl⟩
    rw [← hw5]
    obtain ⟨b5, hb5⟩ : ∃ b5, b5 = w4.heap.size := ⟨_, rfl⟩
    rw [← hb5]
    have C5 : Hid (Chg No w3 w5 ∧ w5.heap[b5]? = some (.cells #[.int .i64 LA.1, .slice A4 LA.2.length c4] 32 (0, 0)) ∧ Monos (fun k => Rs k ∨ w3.heap.size ≤ k) w5 A4 LA.2 c4) := by
      rw [hw5, hb5]; exact ⟨H4.out.alloc _, heap_alloc_new _ _, G4.out.no monoE_good ((Chg.refl _ _).alloc _)⟩
    clear hw5 hb5 p0 p1 p2 r0 r1 r2 r3 f0 f1 f2 f3 x0 x1 x2 x3 G4 H4
    obtain ⟨⟨p0, p1, p2⟩, ⟨r0, r1, r2, r3⟩, f0, f1, f2, f3⟩ := HO.out w5 C5.out.1
    obtain ⟨k0, m0, s0, B0, l0, d0, hv, x0, x1, x2, x3⟩ := exprs_some (HKA.out w5 (h3.out.1.thenNo C5.out.1)) 1 (by simp)
    have HI2 := Lib.hid (HEX.out eb HOB.out w5 R _ (h3.out.1.thenNo C5.out.1) hv)
    simp only [Nat.one_mul] at x0 x1 x2 x3
    clear hv
    unfold XRet at HI2
    cases hlb : lexp m eb l with
    | none =>
      rw [hlb, show optE (none : Option Lin) = 3 from rfl, errV_of _ (by decide), show optL none = (0, []) from rfl] at HI2
      obtain rfl : ans = none := by rw [HA.out, hla]; show (match lexp m eb l with | none => none | some B => cmpF n kd LA B) = none; rw [hlb]
      clear HA hla hlb HEX HSND hkd
      go_upto_region 5 with (go_at_call 34; refine HI2.out.mono ?_; rintro e w6 ⟨A6, c6, rfl, g6, h6⟩; have H6 := Lib.hid h6; clear g6 h6)
      obtain ⟨w7, hw7⟩ : ∃ w7, w7 = w6.alloc (.cells #[.int .i64 0, .slice A6 0 c6] 32) := ⟨_, rfl⟩
      rw [← hw7]
      obtain ⟨b7, hb7⟩ : ∃ b7, b7 = w6.heap.size := ⟨_, rfl⟩
      rw [← hb7]
      have C7 : Hid (Chg No w3 w7) := by rw [hw7]; exact (C5.out.1.thenNo H6.out).alloc _
      clear hw7 hb7 p0 p1 p2 r0 r1 r2 r3 f0 f1 f2 f3 x0 x1 x2 x3
      obtain ⟨⟨p0, p1, p2⟩, ⟨r0, r1, r2, r3⟩, f0, f1, f2, f3⟩ := HO.out w7 C7.out
      go_wp2_with fail
      exact bodyPost_ret (v := .tuple #[.agg #[.int .i64 0, .int .i64 0, .slice none 0 0, .slice none 0 0], .iface 83 (.int .i64 3)]) (by simp [results, Tryz.results61, go_sem, r0, r1, r2, r3]) rfl (CpRet.none (HSET.out _ _ _ _ _ C7.out))
    | some LB =>
      rw [hlb, show optE (some LB) = 0 from rfl, errV_zero, show optL (some LB) = LB from rfl] at HI2
      have HAN : Hid (ans = cmpF n kd LA LB) := by unfold Hid; rw [HA.out, hla]; show (match lexp m eb l with | none => none | some B => cmpF n kd LA B) = _; rw [hlb]
      clear HA hla hlb HEX HSND
      go_upto_region 5 with (go_at_call 34; refine HI2.out.mono ?_; rintro e w6 ⟨A6, c6, rfl, g6, h6⟩; have G6 := Lib.hid g6; have H6 := Lib.hid h6; clear g6 h6)
      obtain ⟨w7, hw7⟩ : ∃ w7, w7 = w6.alloc (.cells #[.int .i64 LB.1, .slice A6 LB.2.length c6] 32) := ⟨_, rfl⟩
      rw [← hw7]
      obtain ⟨b7, hb7⟩ : ∃ b7, b7 = w6.heap.size := ⟨_, rfl⟩
      rw [← hb7]
      have C7 : Hid (Chg No w3 w7 ∧ w7.heap[b7]? = some (.cells #[.int .i64 LB.1, .slice A6 LB.2.length c6] 32 (0, 0)) ∧ w7.heap[b5]? = some (.cells #[.int .i64 LA.1, .slice A4 LA.2.length c4] 32 (0, 0)) ∧ Monos (fun k => Rs k ∨ w5.heap.size ≤ k) w7 A6 LB.2 c6 ∧ Monos (fun k => Rs k ∨ w3.heap.size ≤ k) w7 A4 LA.2 c4) := by
        rw [hw7, hb7]
        have ha : Chg No w6 (w6.alloc (.cells #[.int .i64 LB.1, .slice A6 LB.2.length c6] 32)) := (Chg.refl _ _).alloc _
        exact ⟨(C5.out.1.thenNo H6.out).alloc _, heap_alloc_new _ _, (H6.out.alloc _).obj C5.out.2.1 id, G6.out.no monoE_good ha, C5.out.2.2.no monoE_good (H6.out.alloc _)⟩
      have HSM := Lib.hid (csum_any (w := w7) LA LB C7.out.2.2.2.2 C7.out.2.2.2.1 (-1))
      clear hw7 hb7 p0 p1 p2 r0 r1 r2 r3 f0 f1 f2 f3 x0 x1 x2 x3 G6 H6
      obtain ⟨q0, q1, _, _⟩ := obj_2 C7.out.2.1
      obtain ⟨u0, u1, _, _⟩ := obj_2 C7.out.2.2.1
      unfold LinRet at HSM
      cases hs : sumO LA LB (-1) with
      | none =>
        rw [hs, show optE (none : Option Lin) = 3 from rfl, errV_of _ (by decide), show optL none = (0, []) from rfl] at HSM
        obtain rfl : ans = none := by rw [HAN.out]; unfold cmpF; rw [hs]
        clear HAN hs hkd
        go_upto_region 8 with (go_at_call 27; refine HSM.out.mono ?_; rintro e w8 ⟨A8, c8, rfl, g8, h8⟩; have H8 := Lib.hid h8; clear g8 h8)
        obtain ⟨w9, hw9⟩ : ∃ w9, w9 = w8.alloc (.cells #[.int .i64 0, .slice A8 0 c8] 32) := ⟨_, rfl⟩
        rw [← hw9]
        obtain ⟨b9, hb9⟩ : ∃ b9, b9 = w8.heap.size := ⟨_, rfl⟩
        rw [← hb9]
        have C9 : Hid (Chg No w3 w9) := by rw [hw9]; exact (C7.out.1.thenNo H8.out).alloc _
        clear hw9 hb9 q0 q1 u0 u1
        obtain ⟨⟨p0, p1, p2⟩, ⟨r0, r1, r2, r3⟩, f0, f1, f2, f3⟩ := HO.out w9 C9.out
        go_wp2_with fail
        exact bodyPost_ret (v := .tuple #[.agg #[.int .i64 0, .int .i64 0, .slice none 0 0, .slice none 0 0], .iface 83 (.int .i64 3)]) (by simp [results, Tryz.results61, go_sem, r0, r1, r2, r3]) rfl (CpRet.none (HSET.out _ _ _ _ _ C9.out))
      | some X =>
        rw [hs, show optE (some X) = 0 from rfl, errV_zero, show optL (some X) = X from rfl] at HSM
        have HAX : Hid (ans = if kd = 4 then (match sumO X (1, []) 1 with | none => none | some y => some (leafF (n + 1) 2 y)) else if kd = 5 then some (leafF (n + 1) 2 X) else if kd = 3 then some (notF n X) else some (leafF (n + 1) 3 X)) := by
          unfold Hid; rw [HAN.out]; unfold cmpF; rw [hs]; rfl
        have HXI : Hid (I64 X.1) := by
          have := coefB_le (linB_sound (sumO_sound hs)).1
          exact I64.of (by omega) (by omega)
        clear HAN hs
        go_upto_region 8 with (go_at_call 27; refine HSM.out.mono ?_; rintro e w8 ⟨A8, c8, rfl, g8, h8⟩; have G8 := Lib.hid g8; have H8 := Lib.hid h8; clear g8 h8)
        obtain ⟨w9, hw9⟩ : ∃ w9, w9 = w8.alloc (.cells #[.int .i64 X.1, .slice A8 X.2.length c8] 32) := ⟨_, rfl⟩
        rw [← hw9]
        obtain ⟨b9, hb9⟩ : ∃ b9, b9 = w8.heap.size := ⟨_, rfl⟩
        rw [← hb9]
        have C9 : Hid (Chg No w3 w9 ∧ w9.heap[b9]? = some (.cells #[.int .i64 X.1, .slice A8 X.2.length c8] 32 (0, 0)) ∧ Monos (fun k => w3.heap.size ≤ k) w9 A8 X.2 c8 ∧ w3.heap.size ≤ b9) := by
          rw [hw9, hb9]
          exact ⟨(C7.out.1.thenNo H8.out).alloc _, heap_alloc_new _ _, (G8.out.no monoE_good ((Chg.refl _ _).alloc _)).mono monoE_good (fun k _ hk => Nat.le_trans C7.out.1.size hk), (C7.out.1.thenNo H8.out).size⟩
        clear hw9 hb9 q0 q1 u0 u1 G8 H8 C7 C5
        obtain ⟨q0, q1, _, _⟩ := obj_2 C9.out.2.1
        go_upto_region 11 with fail
        obtain ⟨w10, hw10⟩ : ∃ w10, w10 = w9.alloc (.cells #[.int .i64 3, .int .i64 X.1, .slice A8 X.2.length c8, .slice none 0 0] 49) := ⟨_, rfl⟩
        rw [← hw10]
        obtain ⟨b10, hb10⟩ : ∃ b10, b10 = w9.heap.size := ⟨_, rfl⟩
        rw [← hb10]
        have C10 : Hid (Chg No w3 w10 ∧ w10.heap[b10]? = some (.cells #[.int .i64 3, .int .i64 X.1, .slice A8 X.2.length c8, .slice none 0 0] 49 (0, 0)) ∧ w10.heap[b9]? = some (.cells #[.int .i64 X.1, .slice A8 X.2.length c8] 32 (0, 0)) ∧ Monos (fun k => w3.heap.size ≤ k) w10 A8 X.2 c8 ∧ w3.heap.size ≤ b9 ∧ w3.heap.size ≤ b10 ∧ b9 ≠ b10 ∧ Monos (fun k => w3.heap.size ≤ k ∧ k ≠ b10) w10 A8 X.2 c8) := by
          have ha : Chg No w9 (w9.alloc (.cells #[.int .i64 3, .int .i64 X.1, .slice A8 X.2.length c8, .slice none 0 0] 49)) := (Chg.refl _ _).alloc _
          have hlt := (Array.getElem?_eq_some_iff.1 C9.out.2.1).1
          rw [hw10, hb10]
          exact ⟨C9.out.1.thenNo ha, heap_alloc_new _ _, ha.obj C9.out.2.1 id, C9.out.2.2.1.no monoE_good ha, C9.out.2.2.2, C9.out.1.size, by omega, (C9.out.2.2.1.mono monoE_good (R' := fun k => w3.heap.size ≤ k ∧ k ≠ w9.heap.size) (fun k hk h => ⟨h, by omega⟩)).no monoE_good ha⟩
        clear hw10 hb10 q0 q1 C9
        obtain ⟨⟨p0, p1, p2⟩, ⟨r0, r1, r2, r3⟩, f0, f1, f2, f3⟩ := HO.out w10 C10.out.1
        obtain ⟨⟨q0, q1, q2, q3⟩, g0, g1, g2, g3⟩ := obj_4f C10.out.2.1
        rcases hkd with rfl | rfl | rfl | rfl
        · obtain rfl : ans = some (leafF (n + 1) 3 X) := HAX.out
          go_wp2_with fail
          exact bodyPost_ret (v := .tuple #[.agg #[.int .i64 3, .int .i64 X.1, .slice A8 X.2.length c8, .slice none 0 0], .nilIface]) (by simp [results, Tryz.results61, go_sem, r0, r1, r2, r3]) rfl (CpRet.some (HRET.out _ _ _ _ _ _ C10.out.1 (leaf_is (r := X) (HI.out 3 (by omega) (by omega)) HXI.out C10.out.2.2.2.1)) (HSET.out _ _ _ _ _ C10.out.1))
        · obtain rfl : ans = some (notF n X) := HAX.out
          have HN : Hid (∀ g, g = w10.heap.size → (formV (n + 2)) (fun k => w3.heap.size ≤ k) (w10.alloc (.cells #[.int .i64 3, .int .i64 X.1, .slice A8 X.2.length c8, .slice none 0 0] 49)) [.int .i64 4, .int .i64 0, .slice none 0 0, .slice (some ⟨g, 0, none⟩) 1 1] (notF n X)) := fun g hg => by
            subst hg
            exact not_is (cs := [.int .i64 3, .int .i64 X.1, .slice A8 X.2.length c8, .slice none 0 0]) (heap_alloc_new _ _) C10.out.1.size (leaf_is (r := X) (HI.out 3 (by omega) (by omega)) HXI.out (C10.out.2.2.2.1.no monoE_good ((Chg.refl _ _).alloc _)))
          go_upto_region 13 with fail
          obtain ⟨w11, hw11⟩ : ∃ w11, w11 = w10.alloc (.cells #[.int .i64 3, .int .i64 X.1, .slice A8 X.2.length c8, .slice none 0 0] 49) := ⟨_, rfl⟩
          obtain ⟨⟨_, _, _⟩, ⟨s0, s1, s2, s3⟩, t0, t1, t2, t3⟩ := HO.out w11 (by rw [hw11]; exact C10.out.1.alloc _)
          have HC11 : Hid (Chg No w3 w11) := by rw [hw11]; exact C10.out.1.alloc _
          rw [← hw11] at HN
          rw [hw11] at s0 s1 s2 s3 t0 t1 t2 t3
          go_wp2_with fail
          rw [← hw11] at s0 s1 s2 s3 t0 t1 t2 t3
          rw [← hw11]
          exact bodyPost_ret (v := .tuple #[.agg #[.int .i64 4, .int .i64 0, .slice none 0 0, .slice (some ⟨w10.heap.size, 0, none⟩) 1 1], .nilIface]) (by simp [results, Tryz.results61, go_sem, s0, s1, s2, s3]) rfl (CpRet.some (HRET.out _ _ _ _ _ _ HC11.out (HN.out _ rfl)) (HSET.out _ _ _ _ _ HC11.out))
        · have HAY : Hid (ans = (match sumO X (1, []) 1 with | none => none | some y => some (leafF (n + 1) 2 y))) := HAX.out
          have HS2 := Lib.hid (csum_any (w := w10) X (1, []) C10.out.2.2.2.1 (Sl.empty (R := No)) 1)
          have HYI : Hid (∀ y, sumO X (1, []) 1 = some y → I64 y.1) := fun y hy => by
            have := coefB_le (linB_sound (sumO_sound hy)).1
            exact I64.of (by omega) (by omega)
          obtain ⟨y, hy⟩ : ∃ y, y = sumO X (1, []) 1 := ⟨_, rfl⟩
          rw [← hy] at HAY HS2 HYI
          clear hy HAX
          unfold LinRet at HS2
          obtain ⟨e0, e1, e2, e3⟩ := obj_2 C10.out.2.2.1
          go_upto_region 15 with fail
          go_upto_region 16 with (go_at_call 27; refine HS2.out.mono ?_; rintro e w11 ⟨A11, c11, rfl, g11, h11⟩; have G11 := Lib.hid g11; have H11 := Lib.hid h11; obtain ⟨d0, d1, d2, d3⟩ := obj_2 (h11.obj C10.out.2.2.1 id); clear g11 h11)
          obtain ⟨w12, hw12⟩ : ∃ w12, w12 = (w11.setCell ⟨b9, 0, none⟩ (.int .i64 (optL y).1)).setCell ⟨b9, 1, none⟩ (.slice A11 (optL y).2.length c11) := ⟨_, rfl⟩
          rw [← hw12]
          have C12 : Hid (Chg No w3 w12 ∧ w12.heap[b9]? = some (.cells #[.int .i64 (optL y).1, .slice A11 (optL y).2.length c11] 32 (0, 0)) ∧ Monos (fun k => w3.heap.size ≤ k) w12 A11 (optL y).2 c11) := by
            have hs : Chg (fun k => k = b9) w11 ((w11.setCell ⟨b9, 0, none⟩ (.int .i64 (optL y).1)).setCell ⟨b9, 1, none⟩ (.slice A11 (optL y).2.length c11)) := ((Chg.refl (fun q => q = b9) w11).setCell _ _ (fun _ => rfl)).setCell _ _ (fun _ => rfl)
            rw [hw12]
            have hlt := (Array.getElem?_eq_some_iff.1 C10.out.2.2.1).1
            refine ⟨chgpast2 (C10.out.1.thenNo H11.out) hs (fun k hk => by have := C10.out.2.2.2.2.1; omega), objset2 (j := 1) _ (objset2 (j := 0) _ (H11.out.obj C10.out.2.2.1 id)), ?_⟩
            exact (G11.out.chg monoE_good hs (fun k hk e => by omega)).mono monoE_good (fun k _ hk => Nat.le_trans C10.out.1.size hk)
          clear hw12 p0 p1 p2 r0 r1 r2 r3 f0 f1 f2 f3 q0 q1 q2 q3 g0 g1 g2 g3 e0 e1 e2 e3 d0 d1 d2 d3
          obtain ⟨⟨p0, p1, p2⟩, ⟨r0, r1, r2, r3⟩, f0, f1, f2, f3⟩ := HO.out w12 C12.out.1
          obtain ⟨e0, e1, e2, e3⟩ := obj_2 C12.out.2.1
          cases y with
          | none =>
            obtain rfl : ans = none := HAY.out
            rw [show optE (none : Option Lin) = 3 from rfl, errV_of _ (by decide)]
            rw [show optL none = (0, []) from rfl] at e0 e1
            go_wp2_with fail
            exact bodyPost_ret (v := .tuple #[.agg #[.int .i64 2, .int .i64 0, .slice A11 0 c11, .slice none 0 0], .iface 83 (.int .i64 3)]) (by simp [results, Tryz.results61, go_sem, r0, r1, r2, r3]) rfl (CpRet.none (HSET.out _ _ _ _ _ C12.out.1))
          | some y =>
            obtain rfl : ans = some (leafF (n + 1) 2 y) := HAY.out
            rw [show optE (some y) = 0 from rfl, errV_zero]
            rw [show optL (some y) = y from rfl] at e0 e1 C12
            go_wp2_with fail
            exact bodyPost_ret (v := .tuple #[.agg #[.int .i64 2, .int .i64 y.1, .slice A11 y.2.length c11, .slice none 0 0], .nilIface]) (by simp [results, Tryz.results61, go_sem, r0, r1, r2, r3]) rfl (CpRet.some (HRET.out _ _ _ _ _ _ C12.out.1 (leaf_is (r := y) (HI.out 2 (by omega) (by omega)) (HYI.out y rfl) C12.out.2.2)) (HSET.out _ _ _ _ _ C12.out.1))
        · obtain rfl : ans = some (leafF (n + 1) 2 X) := HAX.out
          go_upto_region 19 with fail
          obtain ⟨w11, hw11⟩ : ∃ w11, w11 = w10.setCell ⟨b10, 0, none⟩ (.int .i64 2) := ⟨_, rfl⟩
          rw [← hw11]
          have C11 : Hid (Chg No w3 w11 ∧ w11.heap[b10]? = some (.cells #[.int .i64 2, .int .i64 X.1, .slice A8 X.2.length c8, .slice none 0 0] 49 (0, 0)) ∧ Monos (fun k => w3.heap.size ≤ k) w11 A8 X.2 c8) := by
            have hs : Chg (fun k => k = b10) w10 (w10.setCell ⟨b10, 0, none⟩ (.int .i64 2)) := (Chg.refl (fun q => q = b10) w10).setCell _ _ (fun _ => rfl)
            rw [hw11]
            refine ⟨chgpast2 C10.out.1 hs (fun k hk => by have := C10.out.2.2.2.2.2.1; omega), objset2 (j := 0) _ C10.out.2.1, ?_⟩
            exact (C10.out.2.2.2.2.2.2.2.chg monoE_good hs (fun k hk e => hk.2 e)).mono monoE_good (fun k _ hk => hk.1)
          clear hw11 p0 p1 p2 r0 r1 r2 r3 f0 f1 f2 f3 q0 q1 q2 q3 g0 g1 g2 g3
          obtain ⟨⟨p0, p1, p2⟩, ⟨r0, r1, r2, r3⟩, f0, f1, f2, f3⟩ := HO.out w11 C11.out.1
          obtain ⟨q0, q1, q2, q3⟩ := (obj_4f C11.out.2.1).1
          go_wp2_with fail
          exact bodyPost_ret (v := .tuple #[.agg #[.int .i64 2, .int .i64 X.1, .slice A8 X.2.length c8, .slice none 0 0], .nilIface]) (by simp [results, Tryz.results61, go_sem, r0, r1, r2, r3]) rfl (CpRet.some (HRET.out _ _ _ _ _ _ C11.out.1 (leaf_is (r := X) (HI.out 2 (by omega) (by omega)) HXI.out C11.out.2.2)) (HSET.out _ _ _ _ _ C11.out.1))
end Go.Proofs.YtpmndblakmobdaaGreatDoor
