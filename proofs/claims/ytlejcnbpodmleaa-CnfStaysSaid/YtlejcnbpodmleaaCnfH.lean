/-
  The reference's Make.
-/
import Derived.Test.YtlejcnbpodmleaaCnfG
import Derived.Test.YtlejcnbpodmleaaProp1
import Derived.Test.YtlejcnbpodmleaaProp5
namespace Go.Proofs.Ytlejcnbpodmleaa
open Go Go.RowKit

/-- All clauses of a formula. -/
def cnfAll (n : Nat) (f : FT n) : Int × List (List Int) :=
  ((litF n f (atomsF n f []) (atomsF n f []).length []).1, (litF n f (atomsF n f []) (atomsF n f []).length []).2.1 ++ [[(litF n f (atomsF n f []) (atomsF n f []).length []).2.2]])
def cnfErr (n : Nat) (f : FT n) : Int := if isB n f = true then (if 8192 < (cnfAll n f).1 ∨ chk (cnfAll n f).1 (cnfAll n f).2 ≠ 0 then 2 else 0) else 5
def cnfOut (n : Nat) (f : FT n) : Int × List Lin × List (List Int) := if cnfErr n f = 0 then ((cnfAll n f).1, atomsF n f [], (cnfAll n f).2) else (0, [], [])

theorem rows_mem {R : Nat → Prop} {w : World} {A : Option Addr} {l : List (List Int)} {cap : Nat} (h : Sl rowV.mem rowV.sz R w A l cap) : Rows2 R w A l cap :=
  ⟨h.le, h.max, h.room, h.nil, fun i hi => by
    obtain ⟨b, o, e, hR, cs, hl, hc, hv⟩ := h.at_ i hi
    obtain ⟨A', cap', rfl, hs⟩ := hv
    exact ⟨b, o, e, hR, A', cap', hc 0 _ rfl, hs.unwr⟩⟩
theorem obj_three {w : World} {b : Nat} {x y z : Value} {t : TypeId} (h : w.heap[b]? = some (.cells #[x, y, z] t (0, 0))) :
    w.cell? ⟨b, 0, none⟩ = some x ∧ w.cell? ⟨b, 1, none⟩ = some y ∧ w.cell? ⟨b, 2, none⟩ = some z ∧ w.frozen? ⟨b, 0, none⟩ = false ∧ w.frozen? ⟨b, 1, none⟩ = false ∧ w.frozen? ⟨b, 2, none⟩ = false := by
  simp [World.cell?, World.frozen?, h]
/-- Anywhere. -/
def Any : Nat → Prop := fun _ => True

/-- What the reference's Make answers. -/
def RefMakeRet (w : World) (er : Int) (o : Int × List Lin × List (List Int)) (e : Ending) (w' : World) : Prop :=
  ∃ AA ca BB cb, e = .returned (.tuple #[.agg #[.int .i64 o.1, .slice AA o.2.1.length ca, .slice BB o.2.2.length cb], .int .i64 er]) ∧ Lins Any w' AA o.2.1 ca ∧ Rows2 Any w' BB o.2.2 cb ∧ Chg No w w'

theorem chg_new {S : Nat → Prop} {w w1 w2 : World} (h : Chg No w w1) (g : Chg S w1 w2) (hS : ∀ k, S k → w.heap.size ≤ k) : Chg No w w2 :=
  h.trans g (fun k hk hlt => by have := hS k hk; omega)

set_option maxRecDepth 100000 in
set_option maxHeartbeats 4000000 in
theorem refMake_any {n : Nat} {f : FT n} {R : Nat → Prop} {w : World} {cs : List Value} (h : (formV n) R w cs f) :
    Calls Try.prog 10 #[.agg cs.toArray] w (RefMakeRet w (cnfErr n f) (cnfOut n f)) := by
  obtain ⟨kd, c, A, tl, cap, B, kl, capk, rfl⟩ := form_shape h
  have hg := formV_good n
  obtain ⟨w3, hw3⟩ : ∃ w3, w3 = (w.alloc (.cells #[.int .i64 kd, .int .i64 c, .slice A tl cap, .slice B kl capk] 27)).alloc (.cells #[.int .i64 0, .slice none 0 0, .slice none 0 0] 33) := ⟨_, rfl⟩
  have h3 : Hid (Chg No w w3 ∧ w3.heap[w.heap.size]? = some (.cells #[.int .i64 kd, .int .i64 c, .slice A tl cap, .slice B kl capk] 27 (0, 0)) ∧ w3.heap[w.heap.size + 1]? = some (.cells #[.int .i64 0, .slice none 0 0, .slice none 0 0] 33 (0, 0)) ∧ w3.heap.size = w.heap.size + 2) := by
    rw [hw3]
    refine ⟨((Chg.refl _ _).alloc _).alloc _, at_old (heap_alloc_new _ _), at_new (by simp), by simp⟩
  have HI := Lib.hid (ref03Is_any (hg.no h h3.out.1))
  have hF3 : (formV n) (fun k => k < w.heap.size) w3 [.int .i64 kd, .int .i64 c, .slice A tl cap, .slice B kl capk] f := hg.no (hg.mono h (fun k hk _ => hk)) h3.out.1
  have HF3 := Lib.hid hF3
  clear h hF3
  cases hB : isB n f
  · have e1 : cnfErr n f = 5 := by unfold cnfErr; rw [hB]; rfl
    have e2 : cnfOut n f = (0, [], []) := by unfold cnfOut; rw [e1]; rfl
    rw [e1, e2]
    rw [← is_eq, hB] at HI
    clear e1 e2 HF3
    go_enter Try.func10, Try.ntmps10
    go_upto_region 1 with fail
    rw [← hw3]
    clear hw3
    obtain ⟨p0, p1, p2, p3⟩ := obj_four h3.out.2.1
    go_wp2_with (go_at_call 26; refine HI.out.mono ?_; rintro e w4 ⟨rfl, h4⟩; have H4 := Lib.hid h4; obtain ⟨r0, r1, r2, f0, f1, f2⟩ := obj_three (h4.obj h3.out.2.2.1 id); clear h4)
    refine bodyPost_ret (v := .tuple #[.agg #[.int .i64 0, .slice none 0 0, .slice none 0 0], .int .i64 5]) (by simp [results, Try.results10, go_sem, r0, r1, r2]) rfl ⟨none, 0, none, 0, rfl, Sl.empty, Sl.empty, ?_⟩
    exact chg_new (S := fun k => k = w.heap.size + 1) (h3.out.1.thenNo H4.out) ((((Chg.refl (fun k => k = w.heap.size + 1) _).setCell _ _ (fun _ => rfl)).setCell _ _ (fun _ => rfl)).setCell _ _ (fun _ => rfl)) (fun k hk => by omega)
  · obtain ⟨hon, hcn⟩ := is_only hB
    rw [← is_eq, hB] at HI
    have hal := atoms_len n f []
    simp only [List.length_nil, Nat.zero_add] at hal
    have HAt := Lib.hid (fun W (h : Chg No w3 W) => atoms_any n f (fun k => k < w3.heap.size) (fun k => k < w.heap.size) W _ (hg.no HF3.out h) hon (fun _ h => Nat.lt_of_lt_of_le h h3.out.1.size) (fun k hk => Nat.lt_of_lt_of_le hk h.size) (.slice none 0 0) [] (OwnL.nil _ _ _ _ _) (by simp; omega))
    have hr := litF_range (atomsF n f []) n f hon (atomsF n f []).length [] (Int.le_refl _)
    have HMk := Lib.hid (fun W (h : Chg (fun k => ¬ k < w3.heap.size) w3 W) AA ca (hA : Lins (fun k => k < W.heap.size) W AA (atomsF n f []) ca) => make1_all n f (fun k => k < W.heap.size) W _ (ElV.of_st hg (hg.chg HF3.out h (fun k hk g => g (Nat.lt_of_lt_of_le hk h3.out.1.size))) (fun k hk => Nat.lt_of_lt_of_le hk (Nat.le_trans h3.out.1.size h.size))) hon (fun k hk => hk) (atomsF n f []) AA ca hA (atomsF n f []).length (.slice none 0 0) [] (OwnL.nil _ _ _ _ _) (Int.le_refl _) (by omega) (by simp; omega))
    have e1 : cnfErr n f = if 8192 < (cnfAll n f).1 ∨ chk (cnfAll n f).1 (cnfAll n f).2 ≠ 0 then 2 else 0 := by unfold cnfErr; rw [if_pos hB]
    have e2 : cnfOut n f = if cnfErr n f = 0 then ((cnfAll n f).1, atomsF n f [], (cnfAll n f).2) else (0, [], []) := rfl
    unfold cnfAll at e1 e2
    rw [e1] at e2
    rw [e1, e2]
    clear e1 e2
    generalize hlt : litF n f (atomsF n f []) (atomsF n f []).length [] = r at *
    clear hlt
    generalize atomsF n f [] = l at *
    obtain ⟨rN, rO, rK⟩ := r
    simp only [List.length_nil] at hr HMk ⊢
    have hrN : rN ≤ 100000 := by omega
    have hrO : rO.length ≤ 200000 := by omega
    have hK1 : -100000 ≤ rK := by omega
    have hK2 : rK ≤ 100000 := by omega
    have hll : l.length ≤ 20480 := by omega
    obtain ⟨cl, hcl⟩ : ∃ cl, cl = rO ++ [[rK]] := ⟨_, rfl⟩
    have hcll : cl.length = rO.length + 1 := by rw [hcl]; simp
    rw [← hcl]
    have HCL := Lib.hid hcl
    have HCLL := Lib.hid hcll
    obtain ⟨er, her⟩ : ∃ er : Int, er = if 8192 < rN ∨ chk rN cl ≠ 0 then 2 else 0 := ⟨_, rfl⟩
    rw [← her]
    have HER := Lib.hid her
    clear her hcl hcll hr hal hcn hon HF3
    have HCk := Lib.hid (fun W AA ca (h : Rows2 Any W AA cl ca) => refCheck_any rN Any W AA cl ca h)
    go_enter Try.func10, Try.ntmps10
    go_upto_region 1 with fail
    rw [← hw3]
    clear hw3
    obtain ⟨p0, p1, p2, p3⟩ := obj_four h3.out.2.1
    go_upto_region 4 with (go_at_call 26; refine HI.out.mono ?_; rintro e w4 ⟨rfl, h4⟩; have H4 := Lib.hid h4; clear h4)
    clear p0 p1 p2 p3
    obtain ⟨p0, p1, p2, p3⟩ := obj_four (H4.out.obj h3.out.2.1 id)
    go_upto_region 5 with (go_at_call 27; refine (HAt.out w4 H4.out).mono ?_; rintro e w5 ⟨v5, rfl, g5, c5⟩; have G5 := Lib.hid g5; have C5 := Lib.hid (H4.out.no.trans c5 (fun k hk _ => hk)); clear g5 c5)
    obtain ⟨AA, ca, rfl, hsl⟩ := G5.out.sl linV_good (by show l.length * 32 ≤ big; unfold big; omega)
    have HLn : Hid (Lins (fun k => k < w5.heap.size) w5 AA l ca) := hsl.mono linE_good (fun k hk _ => hk)
    clear hsl
    clear p0 p1 p2 p3
    obtain ⟨p0, p1, p2, p3⟩ := obj_four (C5.out.obj h3.out.2.1 (fun g => g (by have := h3.out.2.2.2; omega)))
    go_upto_region 6 with (go_at_call 28; refine (HMk.out w5 C5.out AA ca HLn.out).mono ?_; rintro e w6 ⟨v6, rfl, g6, c6⟩; have G6 := Lib.hid g6; have C6 := Lib.hid c6; clear g6 c6)
    have hsz5 : Hid (w3.heap.size ≤ w5.heap.size) := C5.out.size
    have hsz6 : Hid (w5.heap.size ≤ w6.heap.size) := C6.out.size
    have HROW : Hid (rowV (fun q => (¬ q < w5.heap.size) ∧ v6.ownBlock ≠ some q) (w6.alloc (.cells #[.int .i64 rK] 3)) [.slice (some ⟨w6.heap.size, 0, none⟩) 1 1] [rK]) :=
      row_of rfl (intsW_of_block (l := [rK]) (heap_alloc_new _ _) ⟨by have := hsz6.out; omega, fun g => by have := (G6.out.mine _ g).2; omega⟩ (by simp [big]) (by simp; exact I64.of (by omega) (by omega)))
    have HOW1 : Hid (ORows (fun k => k < w5.heap.size) (w6.alloc (.cells #[.int .i64 rK] 3)) v6 rO) := G6.out.no rowV_good ((Chg.refl _ _).alloc _)
    have HFR : Hid (∀ q, (w6.alloc (.cells #[.int .i64 rK] 3)).heap.size ≤ q → ¬ q < w5.heap.size) := fun q hq => by
      have := (((Chg.refl No w6).alloc (.cells #[.int .i64 rK] 3))).size
      have := hsz6.out
      omega
    have HSZ1 : Hid ((w6.alloc (.cells #[.int .i64 rK] 3)).heap.size = w6.heap.size + 1) := by unfold Hid; simp
    have HP : Hid (∀ A7 cap7 w7, ORows (fun k => k < w5.heap.size) w7 (.slice A7 (rO.length + 1) cap7) (rO ++ [[rK]]) → Chg (fun q => v6.ownBlock = some q) (w6.alloc (.cells #[.int .i64 rK] 3)) w7 →
        (w7.cell? ⟨w.heap.size + 1, 0, none⟩ = some (.int .i64 0) ∧ w7.cell? ⟨w.heap.size + 1, 1, none⟩ = some (.slice none 0 0) ∧ w7.cell? ⟨w.heap.size + 1, 2, none⟩ = some (.slice none 0 0) ∧ w7.frozen? ⟨w.heap.size + 1, 0, none⟩ = false ∧ w7.frozen? ⟨w.heap.size + 1, 1, none⟩ = false ∧ w7.frozen? ⟨w.heap.size + 1, 2, none⟩ = false) ∧
        Hid (∀ er W, ((w7.setCell ⟨w.heap.size + 1, 0, none⟩ (.int .i64 0)).setCell ⟨w.heap.size + 1, 1, none⟩ (.slice none 0 0)).setCell ⟨w.heap.size + 1, 2, none⟩ (.slice none 0 0) = W → RefMakeRet w er (0, [], []) (.returned (.tuple #[.agg #[.int .i64 0, .slice none 0 0, .slice none 0 0], .int .i64 er])) W) ∧
        Hid (∀ er W, ((w7.setCell ⟨w.heap.size + 1, 0, none⟩ (.int .i64 rN)).setCell ⟨w.heap.size + 1, 1, none⟩ (.slice AA l.length ca)).setCell ⟨w.heap.size + 1, 2, none⟩ (.slice A7 (rO.length + 1) cap7) = W → RefMakeRet w er (rN, l, cl) (.returned (.tuple #[.agg #[.int .i64 rN, .slice AA l.length ca, .slice A7 (rO.length + 1) cap7], .int .i64 er])) W) ∧
        Hid (Rows2 Any w7 A7 cl cap7)) := fun A7 cap7 w7 g1 g2 => by
      have z3 := h3.out.2.2.2
      have z5 := hsz5.out
      have z6 := hsz6.out
      have hv6 : ∀ q, v6.ownBlock = some q → ¬ q < w5.heap.size := fun q hq => (G6.out.mine q hq).1
      have c7 : Chg (fun k => ¬ k < w5.heap.size) w5 w7 := (C6.out.thenNo ((Chg.refl _ _).alloc _)).trans g2 (fun q hq _ => hv6 q hq)
      have o7 : w7.heap[w.heap.size + 1]? = some (.cells #[.int .i64 0, .slice none 0 0, .slice none 0 0] 33 (0, 0)) := c7.obj (C5.out.obj h3.out.2.2.1 (fun g => g (by omega))) (fun g => g (by omega))
      have c07 : Chg No w w7 := chg_new (chg_new h3.out.1 C5.out (fun k hk => by omega)) c7 (fun k hk => by omega)
      have hset : ∀ u0 u1 u2, Chg (fun k => k = w.heap.size + 1) w7 (((w7.setCell ⟨w.heap.size + 1, 0, none⟩ u0).setCell ⟨w.heap.size + 1, 1, none⟩ u1).setCell ⟨w.heap.size + 1, 2, none⟩ u2) := fun u0 u1 u2 =>
        (((Chg.refl (fun k => k = w.heap.size + 1) _).setCell _ _ (fun _ => rfl)).setCell _ _ (fun _ => rfl)).setCell _ _ (fun _ => rfl)
      have hl5 : Lins (fun k => (k < w5.heap.size ∧ k ≠ w.heap.size + 1)) w5 AA l ca := by
        obtain ⟨AA', ca', e', hs'⟩ := G5.out.sl linV_good (by show l.length * 32 ≤ big; unfold big; omega)
        cases e'
        exact hs'.mono linE_good (fun k hk h => ⟨hk, fun e => h.elim (fun h => h (by omega)) (fun h => by omega)⟩)
      obtain ⟨B7, cb7, e7, hs7⟩ := g1.sl rowV_good (by show (rO ++ [[rK]]).length * 24 ≤ big; simp; unfold big; omega)
      rw [← HCL.out] at hs7 e7
      have hlen : cl.length = rO.length + 1 := HCLL.out
      injection e7 with e71 e72 e73
      subst e71; subst e73
      have hrows : Rows2 (fun k => ¬ k < w5.heap.size) w7 A7 cl cap7 := rows_mem (hs7.mono rowV_good.mem (fun k _ h => h.elim id id))
      refine ⟨obj_three o7, fun er W hW => ⟨none, 0, none, 0, rfl, Sl.empty, Sl.empty, ?_⟩, fun er W hW => ⟨AA, ca, A7, cap7, by rw [hlen], ?_, ?_, ?_⟩, hrows.mono rowE_good (fun _ _ _ => trivial)⟩
      · subst hW; exact chg_new c07 (hset _ _ _) (fun k hk => by omega)
      · subst hW
        exact ((hl5.chg linE_good c7 (fun k hk g => g hk.1)).chg linE_good (hset _ _ _) (fun k hk g => hk.2 g)).mono linE_good (fun _ _ _ => trivial)
      · subst hW
        exact (hrows.chg rowE_good (hset _ _ _) (fun k hk g => hk (by omega))).mono rowE_good (fun _ _ _ => trivial)
      · subst hW; exact chg_new c07 (hset _ _ _) (fun k hk => by omega)
    have hA0 : (l.length : Int) ≤ 100000 := by omega
    clear HMk HAt HLn G5 HI hsz5 hsz6
    by_cases hN : 8192 < rN
    · have he : er = 2 := by rw [HER.out, if_pos (.inl hN)]
      subst he
      have hc : ((if (2 : Int) = 0 then (rN, l, cl) else (0, [], [])) : Int × List Lin × List (List Int)) = (0, [], []) := rfl
      rw [hc]
      have hd : decide (rN > 8192) = true := by simpa using hN
      clear HER HCk hc
      go_wp2_with (at_builtin; refine wpList_pushL' rowV_good rowsTyC rfl (.tmp 25) (.tmp 28) rfl HFR.out HOW1.out rfl HROW.out (by simp [Value.oneCell']) HSZ1.out rfl (show (rO.length + 1) * 24 ≤ 140737488355328 by omega) ?_; intro A7 cap7 w7 g1 g2; obtain ⟨⟨r0, r1, r2, f0, f1, f2⟩, E1, E2, _⟩ := HP.out A7 cap7 w7 g1 g2; clear g1 g2)
      exact bodyPost_ret (v := .tuple #[.agg #[.int .i64 0, .slice none 0 0, .slice none 0 0], .int .i64 2]) (by simp [results, Try.results10, go_sem, r0, r1, r2]) rfl (E1.out _ _ rfl)
    · by_cases hc0 : chk rN cl = 0
      · have he : er = 0 := by rw [HER.out, if_neg (fun h => h.elim hN (fun h => h hc0))]
        subst he
        have hc : ((if (0 : Int) = 0 then (rN, l, cl) else (0, [], [])) : Int × List Lin × List (List Int)) = (rN, l, cl) := rfl
        rw [hc]
        have hd : decide (rN > 8192) = false := by simpa using hN
        rw [hc0] at HCk
        clear HER hc hc0
        go_wp2_with (first
          | (at_builtin; refine wpList_pushL' rowV_good rowsTyC rfl (.tmp 25) (.tmp 28) rfl HFR.out HOW1.out rfl HROW.out (by simp [Value.oneCell']) HSZ1.out rfl (show (rO.length + 1) * 24 ≤ 140737488355328 by omega) ?_; intro A7 cap7 w7 g1 g2; obtain ⟨⟨r0, r1, r2, f0, f1, f2⟩, E1, E2, E3⟩ := HP.out A7 cap7 w7 g1 g2; rw [HCLL.out] at HCk; clear g1 g2)
          | (go_at_call 29; refine (HCk.out _ _ _ E3.out).mono ?_; rintro e w8 ⟨rfl, rfl⟩))
        exact bodyPost_ret (v := .tuple #[.agg #[.int .i64 rN, .slice AA l.length ca, .slice A7 (rO.length + 1) cap7], .int .i64 0]) (by simp [results, Try.results10, go_sem, r0, r1, r2]) rfl (E2.out _ _ rfl)
      · have he : er = 2 := by rw [HER.out, if_pos (.inr hc0)]
        subst he
        have hc : ((if (2 : Int) = 0 then (rN, l, cl) else (0, [], [])) : Int × List Lin × List (List Int)) = (0, [], []) := rfl
        rw [hc]
        have hd : decide (rN > 8192) = false := by simpa using hN
        have hd2 : (chk rN cl != 0) = true := by simpa using hc0
        clear HER hc hc0
        generalize chk rN cl = ck at *
        go_wp2_with (first
          | (at_builtin; refine wpList_pushL' rowV_good rowsTyC rfl (.tmp 25) (.tmp 28) rfl HFR.out HOW1.out rfl HROW.out (by simp [Value.oneCell']) HSZ1.out rfl (show (rO.length + 1) * 24 ≤ 140737488355328 by omega) ?_; intro A7 cap7 w7 g1 g2; obtain ⟨⟨r0, r1, r2, f0, f1, f2⟩, E1, E2, E3⟩ := HP.out A7 cap7 w7 g1 g2; rw [HCLL.out] at HCk; clear g1 g2)
          | (go_at_call 29; refine (HCk.out _ _ _ E3.out).mono ?_; rintro e w8 ⟨rfl, rfl⟩))
        exact bodyPost_ret (v := .tuple #[.agg #[.int .i64 0, .slice none 0 0, .slice none 0 0], .int .i64 2]) (by simp [results, Try.results10, go_sem, r0, r1, r2]) rfl (E1.out _ _ rfl)
end Go.Proofs.Ytlejcnbpodmleaa
