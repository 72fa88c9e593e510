/-
  sat.Solve.
-/
import Derived.Test.YtiklknilnmkbmaaSatH
namespace Go.Proofs.Ytiklknilnmkbmaa
open Go Go.RowKit

/-- What Solve finds: the kind, the proof, the values, the code. -/
def SolveIs (n : Int) (cl : List (List Int)) (f kind : Int) (st : List (List Int)) (vs : List Bool) (c : Int) : Prop :=
  (chk n cl ≠ 0 ∧ c = chk n cl ∧ kind = 0 ∧ st = [] ∧ vs = []) ∨
  (chk n cl = 0 ∧ c = 0 ∧ kind = 0 ∧ st = [] ∧ vs = [] ∧ ¬ (1 ≤ f ∧ Enough n cl [] f [])) ∨
  (chk n cl = 0 ∧ c = 0 ∧ 1 ≤ f ∧ kind = 1 ∧ st = [] ∧ allB cl vs = true ∧ (vs.length : Int) = n) ∨
  (chk n cl = 0 ∧ c = 0 ∧ 1 ≤ f ∧ kind = 2 ∧ vs = [] ∧ RupIs n cl st 0 (-1) ∧ st.length ≤ 20001)
def SolveRet (n : Int) (cl : List (List Int)) (f : Int) (w : World) (e : Ending) (w' : World) : Prop :=
  ∃ kind st vs c AS cs AV cv, SolveIs n cl f kind st vs c ∧ e = .returned (.tuple #[.agg #[.int .i64 kind, .slice AS st.length cs, .slice AV vs.length cv], errV 49 c]) ∧ Rows2 (fun _ => True) w' AS st cs ∧ Bools (fun _ => True) w' AV vs cv ∧ Chg No w w'
theorem obj_three {w : World} {b : Nat} {x y z : Value} {t : TypeId} (h : w.heap[b]? = some (.cells #[x, y, z] t (0, 0))) :
    (w.cell? ⟨b, 0, none⟩ = some x ∧ w.cell? ⟨b, 1, none⟩ = some y ∧ w.cell? ⟨b, 2, none⟩ = some z) ∧ ∀ i, w.frozen? ⟨b, i, none⟩ = false := by
  simp [World.cell?, World.frozen?, h]
/-- The proof of a search without decisions. -/
theorem rup_of_chain {n : Int} {cl L : List (List Int)} {c p : Int} (h : RupIs n cl L c p) (hk : chk n cl = 0) (hch : Chain n cl L) (hl : [] ∈ L) : p = -1 ∧ ((chk n (cl ++ L) = 0 ∧ c = 0) ∨ (chk n (cl ++ L) ≠ 0 ∧ c = chk n (cl ++ L))) := by
  rcases h with ⟨h1, _⟩ | ⟨_, h2, h3, h4⟩ | ⟨_, h2, i, h3, _, _, h5, _⟩ | ⟨_, h2, _, h4, h5⟩
  · exact absurd hk h1
  · exact ⟨h4, .inr ⟨h2, h3⟩⟩
  · exact absurd (hch i h3) h5
  · refine ⟨h4, .inl ⟨h2, ?_⟩⟩
    have : (cl ++ L).any (fun r => decide (r.length = 0)) = true := by
      rw [List.any_eq_true]
      exact ⟨[], List.mem_append_right _ hl, by simp⟩
    rw [h5, if_pos this]
theorem chain_nil (n : Int) (cl : List (List Int)) : Chain n cl [] := fun i h => absurd h (Nat.not_lt_zero i)

set_option maxRecDepth 100000 in
set_option maxHeartbeats 8000000 in
theorem solve_any {R : Nat → Prop} {w : World} (n : Int) {A : Option Addr} {cl : List (List Int)} {cap : Nat} (hcl : Rows2 R w A cl cap) (f : Int) (hf : f ≤ 20000) :
    Calls Try.prog 8 #[.int .i64 n, .slice A cl.length cap, .int .i64 f] w (SolveRet n cl f w) := by
  have hcl := hcl.mono rowE_good (R' := fun k => R k ∧ k < w.heap.size) (fun k hk h => ⟨h, hk⟩)
  obtain ⟨R, hR⟩ : ∃ R' : Nat → Prop, R' = fun k => R k ∧ k < w.heap.size := ⟨_, rfl⟩
  rw [← hR] at hcl
  have HRR : Hid (∀ k, R k → k < w.heap.size) := fun k hk => by rw [hR] at hk; exact hk.2
  have HCL := Lib.hid (fun W (h : Chg No w W) => hcl.no rowE_good h)
  clear hR
  obtain ⟨b, hb⟩ : ∃ b, b = w.heap.size := ⟨_, rfl⟩
  obtain ⟨w0, hw0⟩ : ∃ w0, w0 = w.alloc (.cells #[.int .i64 0, .slice none 0 0, .slice none 0 0] 27) := ⟨_, rfl⟩
  have h0 : Hid (Chg No w w0 ∧ w0.heap[b]? = some (.cells #[.int .i64 0, .slice none 0 0, .slice none 0 0] 27 (0, 0)) ∧ w0.heap.size = b + 1) := by
    rw [hw0, hb]; exact ⟨(Chg.refl _ _).alloc _, heap_alloc_new _ _, by show (w.heap.push _).size = _; rw [Array.size_push]⟩
  have HB := Lib.hid hb
  have HW0 := Lib.hid hw0
  have HCK : Hid (Calls Try.prog 15 #[.int .i64 n, .slice A cl.length cap] w0 fun e w' => e = .returned (errV 49 (chk n cl)) ∧ Hid (Chg No w w') ∧ ((w'.cell? ⟨b, 0, none⟩ = some (.int .i64 0) ∧ w'.cell? ⟨b, 1, none⟩ = some (.slice none 0 0) ∧ w'.cell? ⟨b, 2, none⟩ = some (.slice none 0 0)) ∧ ∀ i, w'.frozen? ⟨b, i, none⟩ = false) ∧ Hid (Chg No w0 w')) :=
    (check_any n _ _ A cl cap (HCL.out _ h0.out.1)).mono (by
      rintro e w' ⟨rfl, h⟩
      exact ⟨rfl, h0.out.1.thenNo h, obj_three (h.obj h0.out.2.1 id), h⟩)
  have HST : Hid (∀ W x y z, Chg No w W → Chg No w (((W.setCell ⟨b, 0, none⟩ x).setCell ⟨b, 1, none⟩ y).setCell ⟨b, 2, none⟩ z)) := fun W x y z h =>
    ((h.setCell _ _ (fun h => absurd h (by show ¬ b < w.heap.size; omega))).setCell _ _ (fun h => absurd h (by show ¬ b < w.heap.size; omega))).setCell _ _ (fun h => absurd h (by show ¬ b < w.heap.size; omega))
  clear hcl hb hw0
  by_cases hk : chk n cl = 0
  rotate_left
  · have HEND : Hid (∀ W, Chg No w W → SolveRet n cl f w (.returned (.tuple #[.agg #[.int .i64 0, .slice none 0 0, .slice none 0 0], .iface 49 (.int .i64 (chk n cl))])) W) := fun W hW =>
      ⟨0, [], [], chk n cl, none, 0, none, 0, .inl ⟨hk, rfl, rfl, rfl, rfl⟩, by rw [errV_of _ hk]; rfl, Sl.empty, Sl.empty, hW⟩
    rw [errV_of _ hk] at HCK
    generalize chk n cl = ck at *
    clear hk HCL h0
    go_enter Try.func8, Try.ntmps8
    go_upto_region 1 with fail
    rw [← HW0.out, ← HB.out]
    go_wp2_with (go_at_call 15; refine HCK.out.mono ?_; rintro e w1 ⟨rfl, H1, ⟨⟨r0, r1, r2⟩, rf⟩, _⟩)
    exact bodyPost_ret (v := .tuple #[.agg #[.int .i64 0, .slice none 0 0, .slice none 0 0], .iface 49 (.int .i64 ck)]) (by simp [results, Try.results8, go_sem, r0, r1, r2]) rfl (HEND.out _ (HST.out _ _ _ _ H1.out))
  have hck0 := hk
  rw [hk, errV_zero] at HCK
  have HEND0 : Hid (¬ (1 ≤ f ∧ Enough n cl [] f []) → ∀ W, Chg No w W → SolveRet n cl f w (.returned (.tuple #[.agg #[.int .i64 0, .slice none 0 0, .slice none 0 0], .nilIface])) W) := fun hno W hW =>
    ⟨0, [], [], 0, none, 0, none, 0, .inr (.inl ⟨hk, rfl, rfl, rfl, rfl, hno⟩), by rw [errV_zero]; rfl, Sl.empty, Sl.empty, hW⟩
  by_cases hf1 : f < 1
  · have HEND := Lib.hid (HEND0.out (fun h => by omega))
    clear HEND0 HCL h0 hk hck0
    go_enter Try.func8, Try.ntmps8
    go_upto_region 1 with fail
    rw [← HW0.out, ← HB.out]
    go_wp2_with (go_at_call 15; refine HCK.out.mono ?_; rintro e w1 ⟨rfl, H1, ⟨⟨r0, r1, r2⟩, rf⟩, _⟩)
    exact bodyPost_ret (v := .tuple #[.agg #[.int .i64 0, .slice none 0 0, .slice none 0 0], .nilIface]) (by simp [results, Try.results8, go_sem, r0, r1, r2]) rfl (HEND.out _ (HST.out _ _ _ _ H1.out))
  obtain ⟨fn, rfl⟩ : ∃ fn : Nat, f = fn := ⟨f.toNat, by omega⟩
  have hfn1 : 1 ≤ fn := by omega
  have hcl16 : cl.length ≤ 16384 := by obtain ⟨_, _, _, h, _⟩ := chk_zero hk; exact h
  have HK := Lib.hid hk
  have HF1 := Lib.hid hfn1
  have H16 := Lib.hid hcl16
  have HF2 := Lib.hid hf
  clear hk hck0 hfn1 hcl16 hf
  go_enter Try.func8, Try.ntmps8
  go_upto_region 1 with fail
  rw [← HW0.out, ← HB.out]
  go_upto_region 6 with (go_at_call 15; refine HCK.out.mono ?_; rintro e w1 ⟨rfl, H1, _, H10⟩)
  clear HCK
  have HCLO : Hid (Calls Try.prog 16 #[.slice A cl.length cap] w1 fun e w' => ∃ A' cap', e = .returned (.slice A' cl.length cap') ∧ Hid (OwnL rowV 40 (fun k => w1.heap.size ≤ k) R w' (.slice A' cl.length cap') cl ∧ Chg No w1 w')) :=
    (cloneRows_any (HCL.out w1 H1.out)).mono (by rintro e w' ⟨A', cap', rfl, g1, g2⟩; exact ⟨A', cap', rfl, g1, g2⟩)
  go_upto_region 7 with (go_at_call 16; refine HCLO.out.mono ?_; rintro e w2 ⟨A2, cap2, rfl, H2⟩)
  clear HCLO
  obtain ⟨q, hq⟩ : ∃ q, q = w2.heap.size := ⟨_, rfl⟩
  obtain ⟨w3, hw3⟩ : ∃ w3, w3 = w2.alloc (.cells #[.int .i64 n, .slice A2 cl.length cap2, .slice none 0 0, .int .i64 fn, .slice none 0 0] 45) := ⟨_, rfl⟩
  rw [← hw3, ← hq]
  have HBR : Hid (Calls Try.prog 17 #[.pointer (some ⟨q, 0, none⟩), .slice none 0 0] w3 fun e w4 => ∃ out f' L' vs AS cs vV', e = .returned (.int .i64 out) ∧ Hid (out = 0 ∨ out = 1 ∨ out = 2) ∧ (w4.cell? ⟨q, 2, none⟩ = some (.slice AS L'.length cs) ∧ w4.cell? ⟨q, 4, none⟩ = some vV') ∧
      Hid (w4.heap[b]? = some (.cells #[.int .i64 0, .slice none 0 0, .slice none 0 0] 27 (0, 0))) ∧ Hid (L'.length ≤ 20001) ∧
      Hid (Chg No w w4) ∧ Hid (Rows2 (fun k => k ≠ b) w4 AS L' cs) ∧ Hid (out = 1 → ∃ Av cv, vV' = .slice Av vs.length cv ∧ Bools (fun k => k ≠ b) w4 Av vs cv) ∧ Hid (BrLaw n cl [] fn [] out f' L' vs)) := by
    have z1 := H10.out.size
    have z2 := H2.out.2.size
    have z0 := h0.out.2.2
    have hb := HB.out
    have h23 : Chg No w2 w3 := by rw [hw3]; exact (Chg.refl _ _).alloc _
    have ho3 : w3.heap[q]? = some (.cells #[.int .i64 n, .slice A2 cl.length cap2, .slice none 0 0, .int .i64 fn, .slice none 0 0] 45 (0, 0)) := by rw [hw3, hq]; exact heap_alloc_new _ _
    have hfn1 := HF1.out
    have hcl16 := H16.out
    have hf := HF2.out
    have hown : ∀ k, (Value.slice A2 cl.length cap2).ownBlock = some k → w1.heap.size ≤ k ∧ k < w2.heap.size := H2.out.1.mine
    have hsol : Sol R w1.heap.size w3 q n cl [] fn (.slice A2 cl.length cap2) (.slice none 0 0) (.slice none 0 0) := ⟨ho3, by
      rw [List.append_nil]
      have h1 := H2.out.1.mono rowV_good (M' := OwnIn w1.heap.size q (.slice none 0 0)) (R' := fun k => (R k ∧ k < w2.heap.size)) (fun k hk hM => ⟨hM, by omega, fun e => by cases e⟩) (fun k hk hR => ⟨hR, hk⟩)
      exact (h1.mono rowV_good (R' := RowsIn R w1.heap.size q (.slice none 0 0)) (fun k hk hM => hM) (fun k hk hR => ⟨by
        rcases Nat.lt_or_ge k w1.heap.size with g | g
        · exact .inl ⟨hR.1, g⟩
        · exact .inr g, by omega, fun e => by cases e⟩)).no rowV_good h23, OwnL.nil _ _ _ _ _, by omega⟩
    have hbr := branch_any fn fn (Nat.le_refl _) R (fun _ => False) w1.heap.size w3 q n cl [] [] _ _ _ none 0 hsol Sl.empty (fun k hk => hk.elim) (by simp; omega) (by simp; omega)
    refine hbr.mono ?_
    rintro e w4 ⟨out, f', L', vs, vC', vS', vV', rfl, g1, g2, g3, g4, g5, g6⟩
    have hgrow : L'.length ≤ 20001 := by
      obtain ⟨M, e, hM⟩ := g6.grow
      have := g6.fuel
      rw [e, List.nil_append]
      omega
    obtain ⟨AS, cs, rfl, hst⟩ := g1.st.sl rowV_good (by show L'.length * 24 ≤ big; unfold big; omega)
    have hmine : ∀ k, Mine q (.slice A2 cl.length cap2) (.slice none 0 0) k → w1.heap.size ≤ k := fun k hk => by
      rcases hk with h | h | h
      · omega
      · exact (hown k h).1
      · cases h
    have hwb : w1.heap[b]? = some (.cells #[.int .i64 0, .slice none 0 0, .slice none 0 0] 27 (0, 0)) := H10.out.obj h0.out.2.1 id
    have hb4 := g2.obj (h23.obj (H2.out.2.obj hwb id) id) (fun h => by have := hmine b h; omega)
    have hw3c : Chg No w w3 := (H1.out.thenNo H2.out.2).thenNo h23
    have hzz := H1.out.size
    exact ⟨out, f', L', vs, AS, cs, vV', rfl, g6.out3, ⟨(obj_five g1.obj).1.2.2.1, (obj_five g1.obj).1.2.2.2.2⟩, hb4, hgrow, hw3c.trans g2 (fun k hk hlt => by have := hmine k hk; omega), (rows_mem hst).mono rowE_good (fun k _ hk e => by
      rcases hk with hk | hk
      · have := hk.1; omega
      · rcases hk.1 with g | g
        · have := HRR.out k g.1; omega
        · omega), fun h => by
      obtain ⟨Av, cv, e, hB⟩ := g5 h
      exact ⟨Av, cv, e, hB.mono boolE_good (fun k _ hk e => by have hk' : w3.heap.size ≤ k := hk; have := h23.size; omega)⟩, g6⟩
  clear hq hw3 H2 H10 h0 H1
  go_upto_region 8 with fail
  with_reducible refine HBR.out.mono ?_
  rintro e w4 ⟨out, f', L', vs, AS, cs, vV', rfl, HOUT, ⟨q2, q4⟩, HB4, HL', HW4, HROWS, HVAL, HLAW⟩
  clear HBR
  have HSC : Hid (∀ W x y z, Chg (fun k => k = b) W (((W.setCell ⟨b, 0, none⟩ x).setCell ⟨b, 1, none⟩ y).setCell ⟨b, 2, none⟩ z)) := fun W x y z => (((Chg.refl (fun k => k = b) W).setCell ⟨b, 0, none⟩ x (fun _ => rfl)).setCell ⟨b, 1, none⟩ y (fun _ => rfl)).setCell ⟨b, 2, none⟩ z (fun _ => rfl)
  rcases HOUT.out with rfl | rfl | rfl
  · have HEND := Lib.hid (HEND0.out (fun h => (HLAW.out.enough h.2).1 rfl))
    obtain ⟨⟨r0, r1, r2⟩, rf⟩ := obj_three HB4.out
    clear HEND0 HOUT HLAW HVAL HROWS q2 q4
    go_wp2_with fail
    exact bodyPost_ret (v := .tuple #[.agg #[.int .i64 0, .slice none 0 0, .slice none 0 0], .nilIface]) (by simp [results, Try.results8, go_sem, r0, r1, r2]) rfl (HEND.out _ (HST.out _ _ _ _ HW4.out))
  · obtain ⟨Av, cv, rfl, hB⟩ := HVAL.out rfl
    obtain ⟨ha, hl⟩ := HLAW.out.found rfl
    have HVA : Hid (Calls Try.prog 18 #[.slice A cl.length cap, .slice Av vs.length cv] w4 fun e w' => e = .returned (.bool true) ∧ (w'.cell? ⟨q, 4, none⟩ = some (.slice Av vs.length cv)) ∧ ((w'.cell? ⟨b, 0, none⟩ = some (.int .i64 0) ∧ w'.cell? ⟨b, 1, none⟩ = some (.slice none 0 0) ∧ w'.cell? ⟨b, 2, none⟩ = some (.slice none 0 0)) ∧ ∀ i, w'.frozen? ⟨b, i, none⟩ = false) ∧ Hid (Chg No w4 w')) :=
      (value_any (HCL.out w4 HW4.out) hB).mono (by
        rintro e w' ⟨rfl, h⟩
        rw [ha]
        exact ⟨rfl, h.cell q4 id, obj_three (h.obj HB4.out id), h⟩)
    have HEND : Hid (∀ W, Chg No w4 W → SolveRet n cl fn w (.returned (.tuple #[.agg #[.int .i64 1, .slice none 0 0, .slice Av vs.length cv], .nilIface])) (((W.setCell ⟨b, 0, none⟩ (.int .i64 1)).setCell ⟨b, 1, none⟩ (.slice none 0 0)).setCell ⟨b, 2, none⟩ (.slice Av vs.length cv))) := fun W hW =>
      ⟨1, [], vs, 0, none, 0, Av, cv, .inr (.inr (.inl ⟨HK.out, rfl, by omega, rfl, rfl, ha, hl⟩)), by rw [errV_zero]; rfl, Sl.empty, ((hB.no boolE_good hW).chg boolE_good (HSC.out _ _ _ _) (fun k hk e => hk e)).mono boolE_good (fun _ _ _ => trivial), HST.out _ _ _ _ (HW4.out.thenNo hW)⟩
    clear HEND0 HLAW HVAL HROWS q2 ha hl hB HB4 HOUT
    go_wp2_with (go_at_call 18; refine HVA.out.mono ?_; rintro e w5 ⟨rfl, q4, ⟨⟨r0, r1, r2⟩, rf⟩, H5⟩)
    exact bodyPost_ret (v := .tuple #[.agg #[.int .i64 1, .slice none 0 0, .slice Av vs.length cv], .nilIface]) (by simp [results, Try.results8, go_sem, r0, r1, r2]) rfl (HEND.out _ H5.out)
  · have hchain := HLAW.out.chain rfl (chain_nil n cl)
    have hlast : [] ∈ L' := HLAW.out.last rfl
    have hmono : ∀ w', Chg No w4 w' → (w'.cell? ⟨q, 2, none⟩ = some (.slice AS L'.length cs)) ∧ ((w'.cell? ⟨b, 0, none⟩ = some (.int .i64 0) ∧ w'.cell? ⟨b, 1, none⟩ = some (.slice none 0 0) ∧ w'.cell? ⟨b, 2, none⟩ = some (.slice none 0 0)) ∧ ∀ i, w'.frozen? ⟨b, i, none⟩ = false) ∧ Hid (Chg No w4 w') := fun w' h =>
      ⟨h.cell q2 id, obj_three (h.obj HB4.out id), h⟩
    have hru := rupCheck_any n (HCL.out w4 HW4.out) HROWS.out (by have := HL'.out; have := H16.out; omega)
    by_cases hk2 : chk n (cl ++ L') = 0
    · have HRU : Hid (Calls Try.prog 19 #[.int .i64 n, .slice A cl.length cap, .slice AS L'.length cs] w4 fun e w' => e = .returned .nilIface ∧ (w'.cell? ⟨q, 2, none⟩ = some (.slice AS L'.length cs)) ∧ ((w'.cell? ⟨b, 0, none⟩ = some (.int .i64 0) ∧ w'.cell? ⟨b, 1, none⟩ = some (.slice none 0 0) ∧ w'.cell? ⟨b, 2, none⟩ = some (.slice none 0 0)) ∧ ∀ i, w'.frozen? ⟨b, i, none⟩ = false) ∧ Hid (Chg No w4 w')) :=
        hru.mono (by
          rintro e w' ⟨h, c, p, hi, hc⟩
          obtain ⟨hp, ⟨_, h3⟩ | ⟨h2, _⟩⟩ := rup_of_chain hi HK.out hchain hlast
          · rcases hc with ⟨_, _, _, rfl⟩ | ⟨hp2, _⟩
            · rw [h3, errV_zero]
              exact ⟨rfl, hmono w' h⟩
            · omega
          · exact absurd hk2 h2)
      have hri : RupIs n cl L' 0 (-1) := .inr (.inr (.inr ⟨HK.out, hk2, hchain, rfl, by
        have : (cl ++ L').any (fun r => decide (r.length = 0)) = true := by
          rw [List.any_eq_true]
          exact ⟨[], List.mem_append_right _ hlast, by simp⟩
        rw [if_pos this]⟩))
      have HEND : Hid (∀ W, Chg No w4 W → SolveRet n cl fn w (.returned (.tuple #[.agg #[.int .i64 2, .slice AS L'.length cs, .slice none 0 0], .nilIface])) (((W.setCell ⟨b, 0, none⟩ (.int .i64 2)).setCell ⟨b, 1, none⟩ (.slice AS L'.length cs)).setCell ⟨b, 2, none⟩ (.slice none 0 0))) := fun W hW =>
        ⟨2, L', [], 0, AS, cs, none, 0, .inr (.inr (.inr ⟨HK.out, rfl, by omega, rfl, rfl, hri, HL'.out⟩)), by rw [errV_zero]; rfl, ((HROWS.out.no rowE_good hW).chg rowE_good (HSC.out _ _ _ _) (fun k hk e => hk e)).mono rowE_good (fun _ _ _ => trivial), Sl.empty, HST.out _ _ _ _ (HW4.out.thenNo hW)⟩
      clear HEND0 HOUT HLAW HVAL HROWS q4 hchain hlast hmono hru hri hk2 HB4
      go_wp2_with (go_at_call 19; refine HRU.out.mono ?_; rintro e w5 ⟨rfl, q2, ⟨⟨r0, r1, r2⟩, rf⟩, H5⟩)
      exact bodyPost_ret (v := .tuple #[.agg #[.int .i64 2, .slice AS L'.length cs, .slice none 0 0], .nilIface]) (by simp [results, Try.results8, go_sem, r0, r1, r2]) rfl (HEND.out _ H5.out)
    · have HRU : Hid (Calls Try.prog 19 #[.int .i64 n, .slice A cl.length cap, .slice AS L'.length cs] w4 fun e w' => e = .returned (.iface 49 (.int .i64 (chk n (cl ++ L')))) ∧ (w'.cell? ⟨q, 2, none⟩ = some (.slice AS L'.length cs)) ∧ ((w'.cell? ⟨b, 0, none⟩ = some (.int .i64 0) ∧ w'.cell? ⟨b, 1, none⟩ = some (.slice none 0 0) ∧ w'.cell? ⟨b, 2, none⟩ = some (.slice none 0 0)) ∧ ∀ i, w'.frozen? ⟨b, i, none⟩ = false) ∧ Hid (Chg No w4 w')) :=
        hru.mono (by
          rintro e w' ⟨h, c, p, hi, hc⟩
          obtain ⟨hp, ⟨h3, _⟩ | ⟨h2, h3⟩⟩ := rup_of_chain hi HK.out hchain hlast
          · exact absurd h3 hk2
          · rcases hc with ⟨_, _, _, rfl⟩ | ⟨hp2, _⟩
            · rw [h3, errV_of _ h2]
              exact ⟨rfl, hmono w' h⟩
            · omega)
      have HEND := Lib.hid (HEND0.out (fun h => by
        obtain ⟨_, _, M, e, hM, hc⟩ := HLAW.out.enough h.2
        refine hk2 ?_
        rw [e]
        refine (h.2.2.2 M ?_ hc).1
        have := HF2.out
        have := pow_cast (n.toNat - ([] : List Int).length + 1)
        omega))
      clear HEND0 HOUT HLAW HVAL HROWS q4 hchain hlast hmono hru hk2 HB4
      generalize chk n (cl ++ L') = ck at *
      go_wp2_with (go_at_call 19; refine HRU.out.mono ?_; rintro e w5 ⟨rfl, q2, ⟨⟨r0, r1, r2⟩, rf⟩, H5⟩)
      exact bodyPost_ret (v := .tuple #[.agg #[.int .i64 0, .slice none 0 0, .slice none 0 0], .nilIface]) (by simp [results, Try.results8, go_sem, r0, r1, r2]) rfl (HEND.out _ (HST.out _ _ _ _ (HW4.out.thenNo H5.out)))
end Go.Proofs.Ytiklknilnmkbmaa
