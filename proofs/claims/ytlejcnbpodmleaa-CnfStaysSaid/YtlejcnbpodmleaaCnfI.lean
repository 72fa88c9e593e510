/-
  cnf.Make.
-/
import Derived.Test.YtlejcnbpodmleaaCnfH
namespace Go.Proofs.Ytlejcnbpodmleaa
open Go Go.RowKit

theorem monosTy : SliceTy Try.prog 22 49 2 16 (.agg #[.int .i64 0, .int .i64 0]) := ⟨Try.underlying22, by kernel_rfl, rfl, by decide, by decide⟩
theorem mono_one {R : Nat → Prop} {w : World} {cs : List Value} {x : Mono} (h : monoV R w cs x) : ∀ u ∈ cs, u.oneCell' = true := by
  obtain ⟨rfl, _⟩ := mono_cells h
  simp [Value.oneCell']
set_option maxHeartbeats 400000 in
theorem cloneMono_any {R : Nat → Prop} {w : World} {A : Option Addr} {l : List Mono} {cap : Nat} (hl : Monos R w A l cap) :
    Calls Try.prog 25 #[.slice A l.length cap] w fun e w' => ∃ A' cap', e = .returned (.slice A' l.length cap') ∧ OwnL monoV 49 (fun k => w.heap.size ≤ k) R w' (.slice A' l.length cap') l ∧ Chg No w w' := by
  cases hA : A with
  | none =>
    subst hA
    have h0 : l = [] := List.eq_nil_of_length_eq_zero (by have := hl.le; have := hl.nil rfl; omega)
    have hc : cap = 0 := hl.nil rfl
    subst h0; subst hc
    have he : ∀ W, (binOp .eql 22 (.slice none 0 0) (.slice none 0 0)).run Try.prog W = .ok (.bool true) W := fun W => by kernel_rfl
    clear hl
    go_enter Try.func25, Try.ntmps25
    go_wp2
    go_ret
    exact ⟨none, 0, rfl, OwnL.nil _ _ _ _ _, Chg.refl _ _⟩
  | some a =>
    subst hA
    have HL := Lib.hid hl
    have he := fun W => Lib.run_eql_slice_nil (P := Try.prog) W 22 49 (some a) l.length cap 0 0 Try.underlying22
    clear hl
    go_enter Try.func25, Try.ntmps25
    go_wp2_with (at_builtin; refine wpList_copyL monoV_good mono_one monosTy rfl (.tmp 5) (.tmp 6) rfl rfl rfl HL.out rfl ?_; intro A' cap' w' h1 h2 h3)
    go_ret
    exact ⟨A', cap', rfl, h1, h2⟩
/-- A clone is a slice of terms in new blocks. -/
theorem clone_monos {M R : Nat → Prop} {w : World} {A : Option Addr} {n cap : Nat} {l : List Mono} (h : OwnL monoV 49 M R w (.slice A n cap) l) (hb : l.length * 16 ≤ big) : Monos M w A l cap := by
  obtain ⟨C, h1, h2, h3⟩ := h
  have h' : OwnL monoV 49 M No w (.slice A n cap) l := ⟨C, h1, h2, fun i hi hi' => by
    obtain ⟨e, g1, g2⟩ := mono_cells (h3 i hi hi')
    rw [e]
    exact mono_of g1 g2⟩
  exact (OwnL.sl_of monoV_good h' hb).2.mono monoE_good (fun k _ hk => hk.elim id (fun f => f.elim))

/-- A form whose terms may be written. -/
abbrev linW : ElV Lin := pairV intV (slV (WrE MonoE) 2) 32 (by decide)
theorem linW_good : linW.Good := pairV_good intV_good (slV_good (wrE_good monoE_good) 2) _ _
theorem linW_of {R : Nat → Prop} {w : World} {A : Option Addr} {l : Lin} {cap : Nat} (hi : I64 l.1) (h : Sl (WrE MonoE) 2 R w A l.2 cap) : linW R w [.int .i64 l.1, .slice A l.2.length cap] l :=
  ⟨[.int .i64 l.1], [.slice A l.2.length cap], rfl, rfl, ⟨rfl, hi⟩, A, cap, rfl, h⟩
theorem linW_lin {R : Nat → Prop} {w : World} {cs : List Value} {l : Lin} (h : linW R w cs l) : linV R w cs l := by
  obtain ⟨c1, c2, e, e2, h1, A, cap, e3, h2⟩ := h
  exact ⟨c1, c2, e, e2, h1, A, cap, e3, h2.unwr⟩
theorem ownW_lins {M R : Nat → Prop} {w : World} {v : Value} {l : List Lin} (h : OwnL linW 24 M R w v l) : OwnL linV 24 M R w v l := by
  obtain ⟨C, h1, h2, h3⟩ := h
  exact ⟨C, h1, h2, fun i a b => linW_lin (h3 i a b)⟩
theorem OwnL.frozen {α : Type} {V : ElV α} {e : TypeId} {M R : Nat → Prop} {w : World} {A : Option Addr} {n cap : Nat} {l : List α} (h : OwnL V e M R w (.slice A n cap) l) : ∀ g o, A = some ⟨g, o, none⟩ → ∀ j, w.frozen? ⟨g, j, none⟩ = false := by
  obtain ⟨C, h1, _⟩ := h
  exact h1.frozen

/-- What Make answers. -/
def MakeRet9 (w : World) (er : Int) (o : Int × List Lin × List (List Int)) (e : Ending) (w' : World) : Prop :=
  ∃ AA ca BB cb Z, e = .returned (.tuple #[.agg #[.int .i64 o.1, .slice AA o.2.1.length ca, .slice BB o.2.2.length cb], errV 43 er]) ∧ w.heap.size ≤ Z ∧
    OwnL rowV 47 (fun k => w.heap.size ≤ k ∧ k < Z) (fun k => w.heap.size ≤ k ∧ k < Z) w' (.slice BB o.2.2.length cb) o.2.2 ∧ OwnL linW 24 (fun k => Z ≤ k) (fun k => Z ≤ k) w' (.slice AA o.2.1.length ca) o.2.1 ∧ Chg No w w'
theorem MakeRet9.bad {w w' : World} (er : Int) (h : Chg No w w') : MakeRet9 w er (0, [], []) (.returned (.tuple #[.agg #[.int .i64 0, .slice none 0 0, .slice none 0 0], errV 43 er])) w' :=
  ⟨none, 0, none, 0, w.heap.size, rfl, Nat.le_refl _, OwnL.nil _ _ _ _ _, OwnL.nil _ _ _ _ _, h⟩

set_option maxRecDepth 100000 in
set_option maxHeartbeats 4000000 in
theorem make9_any {n : Nat} {f : FT n} {R : Nat → Prop} {w : World} {cs : List Value} (h : (formV n) R w cs f) :
    Calls Try.prog 9 #[.agg cs.toArray] w (MakeRet9 w (cnfErr n f) (cnfOut n f)) := by
  obtain ⟨kd, c, A, tl, cap, B, kl, capk, rfl⟩ := form_shape h
  have hg := formV_good n
  obtain ⟨w3, hw3⟩ : ∃ w3, w3 = (w.alloc (.cells #[.int .i64 kd, .int .i64 c, .slice A tl cap, .slice B kl capk] 27)).alloc (.cells #[.int .i64 0, .slice none 0 0, .slice none 0 0] 33) := ⟨_, rfl⟩
  have h3 : Hid (Chg No w w3 ∧ w3.heap[w.heap.size]? = some (.cells #[.int .i64 kd, .int .i64 c, .slice A tl cap, .slice B kl capk] 27 (0, 0)) ∧ w3.heap[w.heap.size + 1]? = some (.cells #[.int .i64 0, .slice none 0 0, .slice none 0 0] 33 (0, 0)) ∧ w3.heap.size = w.heap.size + 2) := by
    rw [hw3]
    refine ⟨((Chg.refl _ _).alloc _).alloc _, at_old (heap_alloc_new _ _), at_new (by simp), by simp⟩
  have HI := Lib.hid (normIs_any (hg.no h h3.out.1))
  have hF3 : (formV n) (fun k => k < w.heap.size) w3 [.int .i64 kd, .int .i64 c, .slice A tl cap, .slice B kl capk] f := hg.no (hg.mono h (fun k hk _ => hk)) h3.out.1
  have HF3 := Lib.hid hF3
  clear h hF3
  have hset : ∀ (W : World) u0 u1 u2, Chg (fun k => k = w.heap.size + 1) W (((W.setCell ⟨w.heap.size + 1, 0, none⟩ u0).setCell ⟨w.heap.size + 1, 1, none⟩ u1).setCell ⟨w.heap.size + 1, 2, none⟩ u2) := fun W u0 u1 u2 =>
    (((Chg.refl (fun k => k = w.heap.size + 1) _).setCell _ _ (fun _ => rfl)).setCell _ _ (fun _ => rfl)).setCell _ _ (fun _ => rfl)
  have HSET := Lib.hid hset
  clear hset
  cases hB : isB n f
  · have e1 : cnfErr n f = 5 := by unfold cnfErr; rw [hB]; rfl
    have e2 : cnfOut n f = (0, [], []) := by unfold cnfOut; rw [e1]; rfl
    rw [e1, e2]
    rw [hB] at HI
    clear e1 e2 HF3
    go_enter Try.func9, Try.ntmps9
    go_upto_region 1 with fail
    rw [← hw3]
    clear hw3
    obtain ⟨p0, p1, p2, p3⟩ := obj_four h3.out.2.1
    go_wp2_with (go_at_call 21; refine HI.out.mono ?_; rintro e w4 ⟨rfl, h4⟩; have H4 := Lib.hid h4; obtain ⟨r0, r1, r2, f0, f1, f2⟩ := obj_three (h4.obj h3.out.2.2.1 id); clear h4)
    refine bodyPost_ret (v := .tuple #[.agg #[.int .i64 0, .slice none 0 0, .slice none 0 0], .iface 43 (.int .i64 5)]) (by simp [results, Try.results9, go_sem, r0, r1, r2]) rfl ?_
    exact MakeRet9.bad 5 (chg_new (h3.out.1.thenNo H4.out) (HSET.out _ _ _ _) (fun k hk => by omega))
  · obtain ⟨hon, hcn⟩ := is_only hB
    rw [hB] at HI
    have hal := atoms_len n f []
    simp only [List.length_nil, Nat.zero_add] at hal
    have hr := litF_range (atomsF n f []) n f hon (atomsF n f []).length [] (Int.le_refl _)
    have HGa := Lib.hid (fun (X : Nat → Prop) mb W hF hX hXs vN vC vL hobj => gather_any n f X mb W [.int .i64 kd, .int .i64 c, .slice A tl cap, .slice B kl capk] hF hon hX hXs (.slice none 0 0) [] vN vC vL hobj (OwnL.nil _ _ _ _ _) (by simp; omega))
    have HLi := Lib.hid (fun (X : Nat → Prop) mb W hF hX hXs AA ca hA vL hobj => lit_any n f X mb W [.int .i64 kd, .int .i64 c, .slice A tl cap, .slice B kl capk] hF hon hX hXs (atomsF n f []) AA ca hA (atomsF n f []).length (.slice none 0 0) [] vL hobj (OwnL.nil _ _ _ _ _) (Int.le_refl _) (by omega) (by simp; omega))
    have e1 : cnfErr n f = if 8192 < (cnfAll n f).1 ∨ chk (cnfAll n f).1 (cnfAll n f).2 ≠ 0 then 2 else 0 := by unfold cnfErr; rw [if_pos hB]
    have e2 : cnfOut n f = if cnfErr n f = 0 then ((cnfAll n f).1, atomsF n f [], (cnfAll n f).2) else (0, [], []) := rfl
    unfold cnfAll at e1 e2
    rw [e1] at e2
    rw [e1, e2]
    clear e1 e2
    generalize hlt : litF n f (atomsF n f []) (atomsF n f []).length [] = r at *
    clear hlt
    generalize atomsF n f [] = l at *
    obtain ⟨rN, rO, rK⟩ := r
    simp only [List.length_nil] at hr HLi ⊢
    have hrN : rN ≤ 100000 := by omega
    have hrN0 : 0 ≤ rN := by omega
    have hrO : rO.length ≤ 200000 := by omega
    have hK1 : -100000 ≤ rK := by omega
    have hK2 : rK ≤ 100000 := by omega
    have hll : l.length ≤ 20480 := by omega
    obtain ⟨cl, hcl⟩ : ∃ cl, cl = rO ++ [[rK]] := ⟨_, rfl⟩
    have hcll : cl.length = rO.length + 1 := by rw [hcl]; simp
    rw [← hcl]
    have HCL := Lib.hid hcl
    have HCLL := Lib.hid hcll
    obtain ⟨er, her⟩ : ∃ er : Int, er = if 8192 < rN ∨ chk rN cl ≠ 0 then 2 else 0 := ⟨_, rfl⟩
    rw [← her]
    have HER := Lib.hid her
    obtain ⟨ou, hou⟩ : ∃ ou, ou = (if er = 0 then (rN, l, cl) else (0, [], []) : Int × List Lin × List (List Int)) := ⟨_, rfl⟩
    rw [← hou]
    have HOU := Lib.hid hou
    clear her hcl hcll hr hal hcn hon hou
    go_enter Try.func9, Try.ntmps9
    go_upto_region 1 with fail
    rw [← hw3]
    clear hw3
    obtain ⟨p0, p1, p2, p3⟩ := obj_four h3.out.2.1
    go_upto_region 4 with (go_at_call 21; refine HI.out.mono ?_; rintro e w4 ⟨rfl, h4⟩; have H4 := Lib.hid h4; clear h4)
    clear p0 p1 p2 p3 HI
    obtain ⟨w5, hw5⟩ : ∃ w5, w5 = w4.alloc (.cells #[.int .i64 0, .slice none 0 0, .slice none 0 0, .bool false] 61) := ⟨_, rfl⟩
    rw [← hw5]
    have h5 : Hid (Chg No w3 w5 ∧ w5.heap[w4.heap.size]? = some (.cells #[.int .i64 0, .slice none 0 0, .slice none 0 0, .bool false] 61 (0, 0)) ∧ w5.heap.size = w4.heap.size + 1 ∧ w.heap.size + 2 ≤ w4.heap.size) := by
      rw [hw5]
      exact ⟨H4.out.alloc _, heap_alloc_new _ _, by simp, by have := H4.out.size; have := h3.out.2.2.2; omega⟩
    clear hw5
    obtain ⟨p0, p1, p2, p3⟩ := obj_four (h5.out.1.obj h3.out.2.1 id)
    have HG5 := Lib.hid (HGa.out (fun k => k < w5.heap.size) w4.heap.size w5 (ElV.of_st hg (hg.no HF3.out h5.out.1) (fun k hk => ⟨by have := h5.out.2.2; omega, by have := h5.out.2.2; omega⟩)) (by have := h5.out.2.2.1; omega) (fun k hk => hk) _ _ _ h5.out.2.1)
    clear HGa
    go_upto_region 5 with (go_at_call 22; refine HG5.out.mono ?_; rintro e w6 ⟨v6, rfl, o6, g6, c6⟩; have O6 := Lib.hid o6; have G6 := Lib.hid g6; have C6 := Lib.hid c6; clear o6 g6 c6)
    clear p0 p1 p2 p3 HG5
    obtain ⟨AA, ca, rfl, _⟩ := G6.out.sl linV_good (by show l.length * 32 ≤ big; unfold big; omega)
    obtain ⟨m0, m1, m2, m3⟩ := obj_four O6.out
    have mf := obj_frozen O6.out 0
    have H7 : Hid (∀ w7, w7 = w6.setCell ⟨w4.heap.size, 0, none⟩ (.int .i64 l.length) → Chg (Mk (fun k => k < w5.heap.size) w4.heap.size) w5 w7 ∧ w7.heap[w4.heap.size]? = some (.cells #[.int .i64 l.length, .slice AA l.length ca, .slice none 0 0, .bool false] 61 (0, 0)) ∧
        Lins (St9 (fun k => k < w7.heap.size) w4.heap.size) w7 AA l ca ∧ w5.heap.size ≤ w7.heap.size) := fun w7 hw7 => by
      subst hw7
      have hs := (Chg.refl (fun q => q = w4.heap.size) w6).setCell ⟨w4.heap.size, 0, none⟩ (.int .i64 l.length) (fun _ => rfl)
      have h2 := G6.out.chg linV_good hs (fun k hk e => (G6.out.mine k hk).1 (by have := h5.out.2.2.1; omega)) (fun k hk _ e => hk.2 e)
      obtain ⟨AA', ca', e', hs'⟩ := h2.sl linV_good (by show l.length * 32 ≤ big; unfold big; omega)
      cases e'
      have hc := C6.out.trans hs (fun k hk _ => .inl hk)
      refine ⟨hc, obj_set _ O6.out, hs'.mono linE_good (fun k hk h => ⟨hk, fun e => ?_⟩), hc.size⟩
      have := h5.out.2.2.1
      rcases h with h | h
      · exact h (by omega)
      · exact h.2 e
    go_upto_region 6 with fail
    obtain ⟨w7, hw7⟩ : ∃ w7, w7 = w6.setCell ⟨w4.heap.size, 0, none⟩ (.int .i64 l.length) := ⟨_, rfl⟩
    rw [← hw7]
    have K7 := Lib.hid (H7.out w7 hw7)
    clear hw7 H7 m0 m1 m2 m3 mf
    have B1 : ∀ k, k < w5.heap.size → k ≠ w4.heap.size → ¬ Mk (fun k => k < w5.heap.size) w4.heap.size k := fun k h1 h2 g => g.elim h2 (fun g => g h1)
    have HB1 := Lib.hid B1
    clear B1
    obtain ⟨p0, p1, p2, p3⟩ := obj_four (K7.out.1.obj (h5.out.1.obj h3.out.2.1 id) (HB1.out _ (by have := h5.out.2.2; omega) (by have := h5.out.2.2; omega)))
    have HL7 := Lib.hid (HLi.out (fun k => k < w7.heap.size) w4.heap.size w7 (ElV.of_st hg (hg.chg (hg.no HF3.out h5.out.1) K7.out.1 (fun k hk => HB1.out k (by have := h5.out.2.2; omega) (by have := h5.out.2.2; omega))) (fun k hk => ⟨by have := h5.out.2.2; have := K7.out.2.2.2; omega, by have := h5.out.2.2; omega⟩)) (by have := h5.out.2.2.1; have := K7.out.2.2.2; omega) (fun k hk => hk) AA ca K7.out.2.2.1 _ K7.out.2.1)
    clear HLi
    go_upto_region 7 with (go_at_call 23; refine HL7.out.mono ?_; rintro e w8 ⟨v8, rfl, o8, g8, c8⟩; have O8 := Lib.hid o8; have G8 := Lib.hid g8; have C8 := Lib.hid c8; clear o8 g8 c8)
    clear p0 p1 p2 p3 HL7
    obtain ⟨m0, m1, m2, m3⟩ := obj_four O8.out
    have hz8 : Hid (w7.heap.size ≤ w8.heap.size) := C8.out.size
    have HROW : Hid (rowV (fun q => (¬ q < w7.heap.size) ∧ v8.ownBlock ≠ some q) (w8.alloc (.cells #[.int .i64 rK] 3)) [.slice (some ⟨w8.heap.size, 0, none⟩) 1 1] [rK]) :=
      row_of rfl (intsW_of_block (l := [rK]) (heap_alloc_new _ _) ⟨by have := hz8.out; omega, fun g => by have := (G8.out.mine _ g).2; omega⟩ (by simp [big]) (by simp; exact I64.of (by omega) (by omega)))
    have HOW1 : Hid (ORows (fun k => k < w7.heap.size) (w8.alloc (.cells #[.int .i64 rK] 3)) v8 rO) := G8.out.no rowV_good ((Chg.refl _ _).alloc _)
    have HFR : Hid (∀ q, (w8.alloc (.cells #[.int .i64 rK] 3)).heap.size ≤ q → ¬ q < w7.heap.size) := fun q hq => by
      have := (((Chg.refl No w8).alloc (.cells #[.int .i64 rK] 3))).size
      have := hz8.out
      omega
    have HSZ1 : Hid ((w8.alloc (.cells #[.int .i64 rK] 3)).heap.size = w8.heap.size + 1) := by unfold Hid; simp
    have HP : Hid (∀ A9 cap9 w9, ORows (fun k => k < w7.heap.size) w9 (.slice A9 (rO.length + 1) cap9) (rO ++ [[rK]]) → Chg (fun q => v8.ownBlock = some q) (w8.alloc (.cells #[.int .i64 rK] 3)) w9 →
        (w9.cell? ⟨w4.heap.size, 2, none⟩ = some v8 ∧ w9.frozen? ⟨w4.heap.size, 2, none⟩ = false) ∧
        Hid (∀ wA, wA = w9.setCell ⟨w4.heap.size, 2, none⟩ (.slice A9 (rO.length + 1) cap9) → Chg No w wA ∧ wA.heap[w.heap.size + 1]? = some (.cells #[.int .i64 0, .slice none 0 0, .slice none 0 0] 33 (0, 0)) ∧
          wA.heap[w4.heap.size]? = some (.cells #[.int .i64 rN, .slice AA l.length ca, .slice A9 (rO.length + 1) cap9, .bool false] 61 (0, 0)) ∧ OwnL rowV 47 (fun k => w4.heap.size < k) (fun k => w4.heap.size < k) wA (.slice A9 (rO.length + 1) cap9) cl ∧
          Lins (fun k => k ≠ w4.heap.size) wA AA l ca)) := fun A9 cap9 w9 g1 g2 => by
      have z3 := h3.out.2.2.2
      have z5 := h5.out.2.2
      have z7 := K7.out.2.2.2
      have z8 := hz8.out
      have hv8 : ∀ q, v8.ownBlock = some q → ¬ q < w7.heap.size := fun q hq => (G8.out.mine q hq).1
      have c9 : Chg (Mk (fun k => k < w7.heap.size) w4.heap.size) w7 w9 := (C8.out.thenNo ((Chg.refl _ _).alloc _)).trans g2 (fun q hq _ => .inr (hv8 q hq))
      have o9 : w9.heap[w4.heap.size]? = some (.cells #[.int .i64 rN, .slice AA l.length ca, v8, .bool false] 61 (0, 0)) := g2.obj (((Chg.refl No w8).alloc _).obj O8.out id) (fun e => hv8 _ e (by omega))
      refine ⟨⟨(obj_four o9).2.2.1, obj_frozen o9 2⟩, fun wA hwA => ?_⟩
      subst hwA
      have hs := (Chg.refl (fun q => q = w4.heap.size) w9).setCell ⟨w4.heap.size, 2, none⟩ (.slice A9 (rO.length + 1) cap9) (fun _ => rfl)
      have cA : Chg (Mk (fun k => k < w7.heap.size) w4.heap.size) w7 (w9.setCell ⟨w4.heap.size, 2, none⟩ (.slice A9 (rO.length + 1) cap9)) := c9.trans hs (fun k hk _ => .inl hk)
      have keep : ∀ k, k < w7.heap.size → k ≠ w4.heap.size → ¬ Mk (fun k => k < w7.heap.size) w4.heap.size k := fun k h1 h2 g => g.elim h2 (fun g => g h1)
      refine ⟨chg_new (chg_new (h3.out.1.thenNo h5.out.1) K7.out.1 (fun k hk => ?_)) cA (fun k hk => ?_), cA.obj (K7.out.1.obj (h5.out.1.obj h3.out.2.2.1 id) (HB1.out _ (by omega) (by omega))) (keep _ (by omega) (by omega)), obj_set _ o9, ?_, ?_⟩
      · rcases hk with hk | hk
        · omega
        · have : ¬ k < w5.heap.size := hk
          omega
      · rcases hk with hk | hk
        · omega
        · have : ¬ k < w7.heap.size := hk
          omega
      · rw [HCL.out]
        refine (g1.chg rowV_good hs (fun k hk e => (g1.mine k hk).1 (by omega)) (fun k hk _ e => hk (by omega))).mono rowV_good (fun k _ h => ?_) (fun k _ h => ?_)
        · have : ¬ k < w7.heap.size := h
          omega
        · have : ¬ k < w7.heap.size := h
          omega
      · exact (K7.out.2.2.1.chg linE_good cA (fun k hk => keep k hk.1 hk.2)).mono linE_good (fun k _ hk => hk.2)
    clear G8 C8 O6 G6 C6
    go_upto_region 8 with (at_builtin; refine wpList_pushL' rowV_good rowsTyC rfl (.tmp 37) (.tmp 40) rfl HFR.out HOW1.out rfl HROW.out (by simp [Value.oneCell']) HSZ1.out rfl (show (rO.length + 1) * 24 ≤ 140737488355328 by omega) ?_; intro A9 cap9 w9 g1 g2; obtain ⟨⟨q1, q2⟩, GP⟩ := HP.out A9 cap9 w9 g1 g2; clear g1 g2)
    obtain ⟨wA, hwA⟩ : ∃ wA, wA = w9.setCell ⟨w4.heap.size, 2, none⟩ (.slice A9 (rO.length + 1) cap9) := ⟨_, rfl⟩
    rw [← hwA]
    have GA := Lib.hid (GP.out wA hwA)
    clear hwA GP HP HROW HOW1 HFR HSZ1 m0 m1 m2 m3 q1 q2 O8 hz8 K7 HB1 HF3
    obtain ⟨m0, m1, m2, m3⟩ := obj_four GA.out.2.2.1
    have HCH : Hid (∀ d os, Calls Try.prog 24 #[.int .i64 rN, .slice A9 (rO.length + 1) cap9] (later wA d os) fun e w' => e = .returned (errV 43 (chk rN cl)) ∧ Chg No (later wA d os) w') := fun d os => by
      have h1 := GA.out.2.2.2.1.no rowV_good (chg_later wA d os)
      obtain ⟨A', c', e', hs⟩ := h1.sl rowV_good (by show cl.length * 24 ≤ big; have := HCLL.out; unfold big; omega)
      injection e' with e1 e2 e3
      subst e1; subst e3
      rw [e2]
      exact check_any rN _ (later wA d os) A9 cl cap9 (rows_mem hs)
    have n0 := cell_later m0
    have n1 := cell_later m1
    have n2 := cell_later m2
    have HBAD : Hid (er = 0 ∨ er = 2) := by
      unfold Hid; rw [HER.out]; split
      · exact .inr rfl
      · exact .inl rfl
    go_cut [64] (fun s64 wx => s64 = .bool (decide (er ≠ 0)) ∧ Hid (Chg No wA wx))
    case first =>
      rename_i K hK J K' hJ hM
      clear hK
      have HJ := Lib.hid hJ
      clear hJ
      by_cases hN : 8192 < rN
      · have he : er = 2 := by rw [HER.out, if_pos (.inl hN)]
        have hd : decide (8192 < rN) = true := by simpa using hN
        clear HER HCH HOU
        subst he
        refine wp_region_later (by kernel_rfl) (by kernel_rfl) ?_
        repeat (go_big_quiet_step (fail))
        refine wpQuiet_nil ?_
        intro _ hw'
        obtain ⟨⟨dq, osq⟩, hw''⟩ := hw'
        subst hw''
        have hJ := HJ.out
        go_wp2_with fail
        go_meet
        exact ⟨rfl, chg_later wA dq osq⟩
      · have hd : decide (8192 < rN) = false := by simpa using hN
        by_cases hc0 : chk rN cl = 0
        · have he : er = 0 := by rw [HER.out, if_neg (fun h => h.elim hN (fun h => h hc0))]
          have HC2 : Hid (∀ d os, _) := fun d os => Calls.later_of (HCH.out d os)
          rw [hc0, errV_zero] at HC2
          clear HER HCH HOU
          subst he
          refine wp_region_later (by kernel_rfl) (by kernel_rfl) ?_
          repeat (go_big_quiet_step ((go_at_call 24; exact HC2.out _ _)))
          refine wpQuiet_nil ?_
          intro _ hw'
          obtain ⟨⟨dq, osq⟩, hw''⟩ := hw'
          subst hw''
          have hJ := HJ.out
          go_wp2_with fail
          go_meet
          exact ⟨rfl, chg_later wA dq osq⟩
        · have he : er = 2 := by rw [HER.out, if_pos (.inr hc0)]
          have HC2 : Hid (∀ d os, _) := fun d os => Calls.later_of (HCH.out d os)
          rw [errV_of _ hc0] at HC2
          clear HER HCH HOU
          subst he
          generalize chk rN cl = ck at *
          refine wp_region_later (by kernel_rfl) (by kernel_rfl) ?_
          repeat (go_big_quiet_step ((go_at_call 24; exact HC2.out _ _)))
          refine wpQuiet_nil ?_
          intro _ hw'
          obtain ⟨⟨dq, osq⟩, hw''⟩ := hw'
          subst hw''
          have hJ := HJ.out
          go_wp2_with fail
          go_meet
          exact ⟨rfl, chg_later wA dq osq⟩
    case rest =>
    obtain ⟨rfl, GB⟩ := hcut
    clear n0 n1 n2 HCH HER
    rcases HBAD.out with rfl | rfl
    case' inr =>
      have ho : ou = (0, [], []) := by rw [HOU.out]; rfl
      clear HOU HBAD
      subst ho
      obtain ⟨r0, r1, r2, f0, f1, f2⟩ := obj_three (GB.out.obj GA.out.2.1 id)
      go_wp2_with fail
      refine bodyPost_ret (v := .tuple #[.agg #[.int .i64 0, .slice none 0 0, .slice none 0 0], .iface 43 (.int .i64 2)]) (by simp [results, Try.results9, go_sem, r0, r1, r2]) rfl ?_
      exact MakeRet9.bad 2 (chg_new (GA.out.1.thenNo GB.out) (HSET.out _ _ _ _) (fun k hk => by omega))
    have ho : ou = (rN, l, cl) := by rw [HOU.out]; rfl
    clear HOU HBAD
    subst ho
    clear m0 m1 m2 m3
    obtain ⟨m0, m1, m2, m3⟩ := obj_four (GB.out.obj GA.out.2.2.1 id)
    have HLA : Hid (∀ W, Chg No wc W → Lins (fun k => k ≠ w4.heap.size) W AA l ca) := fun W hW => GA.out.2.2.2.2.no linE_good (GB.out.thenNo hW)
    have HRW : Hid (∀ W, Chg No wc W → OwnL rowV 47 (fun k => w4.heap.size < k ∧ k < wc.heap.size) (fun k => w4.heap.size < k ∧ k < wc.heap.size) W (.slice A9 (rO.length + 1) cap9) cl) := fun W hW =>
      ((GA.out.2.2.2.1.no rowV_good GB.out).mono rowV_good (M' := fun k => w4.heap.size < k ∧ k < wc.heap.size) (R' := fun k => w4.heap.size < k ∧ k < wc.heap.size) (fun k hk h => ⟨h, hk⟩) (fun k hk h => ⟨h, hk⟩)).no rowV_good hW
    have HOB : Hid (∀ W, Chg No wc W → W.heap[w4.heap.size]? = some (.cells #[.int .i64 rN, .slice AA l.length ca, .slice A9 (rO.length + 1) cap9, .bool false] 61 (0, 0)) ∧ W.heap[w.heap.size + 1]? = some (.cells #[.int .i64 0, .slice none 0 0, .slice none 0 0] 33 (0, 0)) ∧ Chg No w W) := fun W hW =>
      ⟨hW.obj (GB.out.obj GA.out.2.2.1 id) id, hW.obj (GB.out.obj GA.out.2.1 id) id, (GA.out.1.thenNo GB.out).thenNo hW⟩
    have HZ : Hid (w.heap.size + 2 ≤ w4.heap.size ∧ w4.heap.size < wc.heap.size) := ⟨h5.out.2.2.2, (Array.getElem?_eq_some_iff.1 (GB.out.obj GA.out.2.2.1 id)).1⟩
    clear GA GB h5 H4 h3
    go_wp2_with fail
    go_loopw [6, 73] (fun s6 s73 wr => ∃ (i : Nat) (vA : Value), vA = s6 ∧ s73 = .int .i64 i ∧ i ≤ l.length ∧ Hid (OwnL linW 24 (fun q => wc.heap.size ≤ q) (fun q => wc.heap.size ≤ q) wr vA (l.take i) ∧ Chg No wc wr)) (fun _ s73 _ => l.length - (intOf s73).toNat)
    case atStart => exact ⟨0, _, rfl, rfl, Nat.zero_le _, OwnL.nil _ _ _ _ _, Chg.refl _ _⟩
    case round =>
      obtain ⟨i, vA, rfl, rfl, gi, hst⟩ := hrel
      clear m0 m1 m2 m3
      by_cases hlt : i < l.length
      · obtain ⟨b, o, Ai, ci, rfl, _, x0, x1, hi64, hmo⟩ := lins_at (HLA.out wr hst.out.2) i hlt
        have i0 : (0 : Int) ≤ (i : Int) := by omega
        have i1 : (i : Int) < (l.length : Int) := by omega
        have HCl : Hid (∀ W, Chg No wr W → Calls Try.prog 25 #[.slice Ai l[i].2.length ci] W fun e w' => ∃ A' cap', e = .returned (.slice A' l[i].2.length cap') ∧ OwnL monoV 49 (fun k => W.heap.size ≤ k) (fun k => k ≠ w4.heap.size) w' (.slice A' l[i].2.length cap') l[i].2 ∧ Chg No W w') := fun W hW => cloneMono_any (hmo.no monoE_good hW)
        have HTK : Hid (l.take (i + 1) = l.take i ++ [(l[i].1, l[i].2)]) := List.take_succ_eq_append_getElem hlt
        have hti : (l.take i).length = i := by rw [List.length_take]; omega
        have hzr := hst.out.2.size
        have hb := hmo.room
        generalize hT' : l.take (i + 1) = T' at *
        have HT' := Lib.hid hT'
        clear hT'
        generalize l.take i = T at *
        have hTl : T.length ≤ 20480 := by omega
        clear hti
        generalize l[i].1 = cc at *
        generalize l[i].2 = tt at *
        have HC6 : Hid (∀ W w6 A6 cap6, Chg No wr W → W.heap[wr.heap.size]? = some (.cells #[.int .i64 cc, .slice Ai tt.length ci] 24 (0, 0)) → OwnL monoV 49 (fun k => W.heap.size ≤ k) (fun k => k ≠ w4.heap.size) w6 (.slice A6 tt.length cap6) tt → Chg No W w6 →
            (w6.cell? ⟨wr.heap.size, 0, none⟩ = some (.int .i64 cc) ∧ w6.cell? ⟨wr.heap.size, 1, none⟩ = some (.slice Ai tt.length ci)) ∧ Hid (linW (fun q => wc.heap.size ≤ q ∧ vA.ownBlock ≠ some q) w6 [.int .i64 cc, .slice A6 tt.length cap6] (cc, tt)) ∧ Hid (OwnL linW 24 (fun q => wc.heap.size ≤ q) (fun q => wc.heap.size ≤ q) w6 vA T) ∧ Hid (∀ q, w6.heap.size ≤ q → wc.heap.size ≤ q) ∧
            Hid (∀ A8 cap8 w8, OwnL linW 24 (fun q => wc.heap.size ≤ q) (fun q => wc.heap.size ≤ q) w8 (.slice A8 (T.length + 1) cap8) (T ++ [(cc, tt)]) → Chg (fun q => vA.ownBlock = some q) w6 w8 → Hid (OwnL linW 24 (fun q => wc.heap.size ≤ q) (fun q => wc.heap.size ≤ q) w8 (.slice A8 (T.length + 1) cap8) T' ∧ Chg No wc w8))) := fun W w6 A6 cap6 hW hbx g6 c6 => by
          have s1 := hW.size
          have s2 := c6.size
          have hmine : ∀ q, vA.ownBlock = some q → wc.heap.size ≤ q ∧ q < wr.heap.size := fun q hq => hst.out.1.mine q hq
          refine ⟨obj_two' (c6.obj hbx id), ?_, (hst.out.1.no linW_good hW).no linW_good c6, fun q hq => by omega, fun A8 cap8 w8 g1 g2 => ⟨by rw [HTK.out]; exact g1, ?_⟩⟩
          · exact linW_of (l := (cc, tt)) hi64 (((clone_monos g6 hb).wr g6.frozen).mono (wrE_good monoE_good) (fun q _ hq => ⟨by omega, fun e => by have := (hmine q e).2; omega⟩))
          · exact chg_new ((hst.out.2.thenNo hW).thenNo c6) g2 (fun q hq => (hmine q hq).1)
        have hwD : Chg No wr (wr.alloc (.cells #[.int .i64 cc, .slice Ai tt.length ci] 24)).drew := ((Chg.refl No wr).alloc _).drew
        have hoD : (wr.alloc (.cells #[.int .i64 cc, .slice Ai tt.length ci] 24)).drew.heap[wr.heap.size]? = some (.cells #[.int .i64 cc, .slice Ai tt.length ci] 24 (0, 0)) := heap_alloc_new wr (.cells #[.int .i64 cc, .slice Ai tt.length ci] 24)
        have HCW : Hid (Calls Try.prog 25 #[.slice Ai tt.length ci] (wr.alloc (.cells #[.int .i64 cc, .slice Ai tt.length ci] 24)).drew fun e w6 => ∃ A6 cap6, e = .returned (.slice A6 tt.length cap6) ∧ (w6.cell? ⟨wr.heap.size, 0, none⟩ = some (.int .i64 cc) ∧ w6.cell? ⟨wr.heap.size, 1, none⟩ = some (.slice Ai tt.length ci)) ∧ Hid (linW (fun q => wc.heap.size ≤ q ∧ vA.ownBlock ≠ some q) w6 [.int .i64 cc, .slice A6 tt.length cap6] (cc, tt)) ∧ Hid (OwnL linW 24 (fun q => wc.heap.size ≤ q) (fun q => wc.heap.size ≤ q) w6 vA T) ∧ Hid (∀ q, w6.heap.size ≤ q → wc.heap.size ≤ q) ∧
            Hid (∀ A8 cap8 w8, OwnL linW 24 (fun q => wc.heap.size ≤ q) (fun q => wc.heap.size ≤ q) w8 (.slice A8 (T.length + 1) cap8) (T ++ [(cc, tt)]) → Chg (fun q => vA.ownBlock = some q) w6 w8 → Hid (OwnL linW 24 (fun q => wc.heap.size ≤ q) (fun q => wc.heap.size ≤ q) w8 (.slice A8 (T.length + 1) cap8) T' ∧ Chg No wc w8))) := by
          refine (HCl.out _ hwD).mono ?_
          rintro e w6 ⟨A6, cap6, rfl, g6, c6⟩
          exact ⟨A6, cap6, rfl, HC6.out _ w6 A6 cap6 hwD hoD g6 c6⟩
        clear hmo HTK hst HLA HRW HOB hwD hoD HC6 HCl
        go_upto_region 14 with fail
        go_region_law
          ((first
            | (refine step_pushL linW_good linsTy (by rfl) (.tmp 77) (.tmp 84) (by rfl) (M := fun q => wc.heap.size ≤ q) (R := fun q => wc.heap.size ≤ q) (w := w6) G3.out G2.out (by rfl) G1.out (by simp [Value.oneCell']) ((Chg.refl No w6).alloc (.cells #[.int .i64 cc, .slice A6 tt.length cap6] 24)) (news_alloc _ [.int .i64 cc, .slice A6 tt.length cap6] 24) (by rfl) (show (T.length + 1) * 32 ≤ 140737488355328 by omega) ?_; intro A8 cap8 w8 g1 g2; have G8 := G4.out A8 cap8 w8 g1 g2; clear g1 g2)
            | (go_simp; go_at_call 25; refine HCW.out.mono ?_; rintro e w6 ⟨A6, cap6, rfl, ⟨q0, q1⟩, G1, G2, G3, G4⟩)))
        all_goals
          go_wp2
          go_roundw
          case rel =>
            repeat apply Exists.intro
            refine ⟨?_, rfl⟩
            exact ⟨i + 1, _, rfl, by go_num, hlt, by rw [HT'.out]; exact G8⟩
          case measure => simp [intOf]; omega
      · obtain rfl : i = l.length := by omega
        rw [List.take_of_length_le (Nat.le_refl _)] at hst
        obtain ⟨A8, cap8, rfl⟩ : ∃ A8 cap8, vA = .slice A8 l.length cap8 := by
          obtain ⟨A8, cap8, e, _⟩ := hst.out.1.value
          exact ⟨A8, cap8, e⟩
        obtain ⟨o1, o2, cw⟩ := HOB.out wr hst.out.2
        obtain ⟨m0, m1, m2, m3⟩ := obj_four o1
        have mf := obj_frozen o1 1
        have z1 := HZ.out
        have hs := (Chg.refl (fun q => q = w4.heap.size) wr).setCell ⟨w4.heap.size, 1, none⟩ (.slice A8 l.length cap8) (fun _ => rfl)
        obtain ⟨k0, k1, k2, k3⟩ := obj_four (obj_set (j := 1) (.slice A8 l.length cap8) o1)
        obtain ⟨r0, r1, r2, f0, f1, f2⟩ := obj_three (hs.obj o2 (fun e => by omega))
        have HFIN : Hid (∀ W u0 u1 u2, (((wr.setCell ⟨w4.heap.size, 1, none⟩ (.slice A8 l.length cap8)).setCell ⟨w.heap.size + 1, 0, none⟩ u0).setCell ⟨w.heap.size + 1, 1, none⟩ u1).setCell ⟨w.heap.size + 1, 2, none⟩ u2 = W →
            MakeRet9 w 0 (rN, l, cl) (.returned (.tuple #[.agg #[.int .i64 rN, .slice A8 l.length cap8, .slice A9 (rO.length + 1) cap9], .nilIface])) W) := fun W u0 u1 u2 hW => by
          subst hW
          have hw := HSET.out (wr.setCell ⟨w4.heap.size, 1, none⟩ (.slice A8 l.length cap8)) u0 u1 u2
          have hl : cl.length = rO.length + 1 := HCLL.out
          refine ⟨A8, cap8, A9, cap9, wc.heap.size, by rw [hl, errV_zero], by omega, ?_, ?_, chg_new (chg_new cw hs (fun k hk => by omega)) hw (fun k hk => by omega)⟩
          · have g := HRW.out wr hst.out.2
            rw [hl]
            exact ((g.chg rowV_good hs (fun k hk e => by have := (g.mine k hk).1; omega) (fun k hk _ e => by omega)).chg rowV_good hw (fun k hk e => by have := (g.mine k hk).1; omega) (fun k hk _ e => by omega)).mono rowV_good (fun k _ hk => ⟨by omega, hk.2⟩) (fun k _ hk => ⟨by omega, hk.2⟩)
          · exact (hst.out.1.chg linW_good hs (fun k hk e => by have := (hst.out.1.mine k hk).1; omega) (fun k hk _ e => by omega)).chg linW_good hw (fun k hk e => by have := (hst.out.1.mine k hk).1; omega) (fun k hk _ e => by omega)
        clear hs o1 o2 cw hst HLA HRW HOB HSET HCL HCLL
        go_wp2_with fail
        exact bodyPost_ret (v := .tuple #[.agg #[.int .i64 rN, .slice A8 l.length cap8, .slice A9 (rO.length + 1) cap9], .nilIface]) (by simp [results, Try.results9, go_sem, r0, r1, r2]) rfl (HFIN.out _ _ _ _ rfl)
end Go.Proofs.Ytlejcnbpodmleaa
