/-
  The reference's Copy of a formula.
-/
import Derived.Test.YtlejcnbpodmleaaFrmB
import Derived.Deep.RegionHeldLaw
namespace Go.Proofs.Ytlejcnbpodmleaa
open Go Go.RowKit

theorem monosTyF : SliceTy Try.prog 22 49 monoV.sz monoV.bytes (.agg #[.int .i64 0, .int .i64 0]) := ⟨Try.underlying22, by kernel_rfl, rfl, by decide, by decide⟩
theorem mono_oneF {R : Nat → Prop} {w : World} {cs : List Value} {x : Mono} (h : monoV R w cs x) : ∀ u ∈ cs, u.oneCell' = true := by
  obtain ⟨rfl, _⟩ := mono_cells h
  simp [Value.oneCell']
theorem formsTyN (n : Nat) : SliceTy Try.prog 25 27 (formV n).sz (formV n).bytes (.agg #[.int .i64 0, .int .i64 0, .slice none 0 0, .slice none 0 0]) := by
  rw [formV_sz, formV_bytes]
  exact ⟨Try.underlying25, by kernel_rfl, rfl, by decide, by decide⟩
theorem copy_monos {M R : Nat → Prop} {w : World} {A : Option Addr} {n cap : Nat} {l : List Mono} (h : OwnL monoV 49 M R w (.slice A n cap) l) (hb : l.length * 16 ≤ big) : Monos M w A l cap := by
  obtain ⟨C, h1, h2, h3⟩ := h
  have h' : OwnL monoV 49 M No w (.slice A n cap) l := ⟨C, h1, h2, fun i hi hi' => by
    obtain ⟨e, g1, g2⟩ := mono_cells (h3 i hi hi')
    rw [e]
    exact mono_of g1 g2⟩
  exact (OwnL.sl_of monoV_good h' hb).2.mono monoE_good (fun k _ hk => hk.elim id (fun f => f.elim))
theorem obj4_set {w : World} {b j : Nat} {cs : Array Value} {t : TypeId} (u : Value) (h : w.heap[b]? = some (.cells cs t (0, 0))) : (w.setCell ⟨b, j, none⟩ u).heap[b]? = some (.cells (cs.setIfInBounds j u) t (0, 0)) := by
  simp [World.setCell, Array.getElem?_modify, h]

theorem set4_far {w : World} {p q j : Nat} {u0 u1 u2 u3 : Value} (h : q ≠ p) : ((((w.setCell ⟨p, 0, none⟩ u0).setCell ⟨p, 1, none⟩ u1).setCell ⟨p, 2, none⟩ u2).setCell ⟨p, 3, none⟩ u3).cell? ⟨q, j, none⟩ = w.cell? ⟨q, j, none⟩ := by
  have hs : Chg (fun k => k = p) w ((((w.setCell ⟨p, 0, none⟩ u0).setCell ⟨p, 1, none⟩ u1).setCell ⟨p, 2, none⟩ u2).setCell ⟨p, 3, none⟩ u3) :=
    ((((Chg.refl (fun k => k = p) _).setCell _ _ (fun _ => rfl)).setCell _ _ (fun _ => rfl)).setCell _ _ (fun _ => rfl)).setCell _ _ (fun _ => rfl)
  by_cases hq : q < w.heap.size
  · exact cell_of_heap (hs.block q hq h)
  · have e1 : w.heap[q]? = none := Array.getElem?_eq_none (by omega)
    have e2 : ((((w.setCell ⟨p, 0, none⟩ u0).setCell ⟨p, 1, none⟩ u1).setCell ⟨p, 2, none⟩ u2).setCell ⟨p, 3, none⟩ u3).heap[q]? = none := Array.getElem?_eq_none (by simp [World.setCell]; omega)
    simp [World.cell?, e1, e2]

theorem chg_past {S : Nat → Prop} {w w1 w2 : World} (h : Chg No w w1) (g : Chg S w1 w2) (hS : ∀ k, S k → w.heap.size ≤ k) : Chg No w w2 :=
  h.trans g (fun k hk hlt => by have := hS k hk; omega)
def CopyOk (n : Nat) : Prop := ∀ (f : FT n) (R : Nat → Prop) (w : World) (cs : List Value), (formV n) R w cs f →
    Calls Try.prog 14 #[.agg cs.toArray] w fun e w' => ∃ cs', e = .returned (.agg cs'.toArray) ∧ (formV n) (fun k => w.heap.size ≤ k) w' cs' f ∧ Chg No w w'
set_option maxRecDepth 100000 in
set_option maxHeartbeats 2000000 in
theorem copy_step (n : Nat) (IH : Hid (CopyOk n)) : CopyOk (n + 1) := by
    rintro f R w cs h
    obtain ⟨A, cap, B, capk, rfl, i1, i2, hm, hk⟩ := node_cells h
    have HK := Lib.hid (fun W (h : Chg No w W) => hk.no (formE_good n) h)
    have hb2 := hk.big
    have hkr : (Node.kids f).length * 64 ≤ 140737488355328 := by
      have := hk.room
      have e : (formV n).mem.bytes = 64 := formV_bytes n
      rw [e] at this
      exact this
    have hmr : (Node.lin f).2.length * 16 ≤ 140737488355328 := hm.room
    unfold big at hb2
    obtain ⟨w3, hw3⟩ : ∃ w3, w3 = (w.alloc (.cells #[.int .i64 (Node.kind f), .int .i64 (Node.lin f).1, .slice A (Node.lin f).2.length cap, .slice B (Node.kids f).length capk] 27)).alloc (.cells #[.int .i64 0, .int .i64 0, .slice none 0 0, .slice none 0 0] 27) := ⟨_, rfl⟩
    have h3 : Hid (Chg No w w3 ∧ w3.heap[w.heap.size]? = some (.cells #[.int .i64 (Node.kind f), .int .i64 (Node.lin f).1, .slice A (Node.lin f).2.length cap, .slice B (Node.kids f).length capk] 27 (0, 0)) ∧ w3.heap[w.heap.size + 1]? = some (.cells #[.int .i64 0, .int .i64 0, .slice none 0 0, .slice none 0 0] 27 (0, 0)) ∧ w3.heap.size = w.heap.size + 2) := by
      rw [hw3]; exact ⟨((Chg.refl _ _).alloc _).alloc _, at_old (heap_alloc_new _ _), at_new (by simp), by simp⟩
    have HMo := Lib.hid (hm.no monoE_good h3.out.1)
    -- what the answer is made of
    have HEND : Hid (∀ (W : World) A' cap' B' capk', Monos (fun k => w.heap.size ≤ k) W A' (Node.lin f).2 cap' → Forms (fun k => w.heap.size ≤ k) W B' (Node.kids f) capk' → (formV (n + 1)) (fun k => w.heap.size ≤ k) W [.int .i64 (Node.kind f), .int .i64 (Node.lin f).1, .slice A' (Node.lin f).2.length cap', .slice B' (Node.kids f).length capk'] f) := fun W A' cap' B' capk' g1 g2 =>
      ⟨A', cap', B', capk', rfl, i1, i2, g1, by rw [formV_sz]; exact g2⟩
    clear h hm hk i1 i2
    generalize Node.kind f = kd at *
    generalize (Node.lin f).1 = c at *
    generalize (Node.lin f).2 = t at *
    generalize Node.kids f = ks at *
    go_enter Try.func14, Try.ntmps14
    go_upto_region 1 with fail
    rw [← hw3]
    clear hw3
    obtain ⟨p0, p1, p2, p3⟩ := obj_four h3.out.2.1
    go_cut [3] (fun s3 wx => ∃ p A' cap', s3 = .pointer (some ⟨p, 0, none⟩) ∧ Hid (wx.heap[p]? = some (.cells #[.int .i64 kd, .int .i64 c, .slice A' t.length cap', .slice none 0 0] 27 (0, 0)) ∧ Monos (fun k => w3.heap.size ≤ k ∧ k ≠ p) wx A' t cap' ∧ w3.heap.size ≤ p ∧ Chg No w3 wx))
    case first =>
      have HB7 : Hid (∀ W, Chg No w3 W → W.cell? ⟨w.heap.size, 0, none⟩ = some (.int .i64 kd) ∧ W.cell? ⟨w.heap.size, 1, none⟩ = some (.int .i64 c) ∧ W.cell? ⟨w.heap.size, 2, none⟩ = some (.slice A t.length cap)) := fun W hW => ⟨hW.cell p0 id, hW.cell p1 id, hW.cell p2 id⟩
      have HZ : Hid (∀ (p : Nat) (W w7 : World) (S : Nat → Prop), Chg S W w7 → W.heap[p]? = some (.cells #[.int .i64 0, .int .i64 0, .slice none 0 0, .slice none 0 0] 27 (0, 0)) → ¬ S p →
          (w7.cell? ⟨p, 0, none⟩ = some (.int .i64 0) ∧ w7.cell? ⟨p, 1, none⟩ = some (.int .i64 0) ∧ w7.cell? ⟨p, 2, none⟩ = some (.slice none 0 0) ∧ w7.cell? ⟨p, 3, none⟩ = some (.slice none 0 0)) ∧ (w7.frozen? ⟨p, 0, none⟩ = false ∧ w7.frozen? ⟨p, 1, none⟩ = false ∧ w7.frozen? ⟨p, 2, none⟩ = false ∧ w7.frozen? ⟨p, 3, none⟩ = false) ∧ Hid (w7.heap[p]? = some (.cells #[.int .i64 0, .int .i64 0, .slice none 0 0, .slice none 0 0] 27 (0, 0)))) := fun p W w7 S hc ho hs => by
        have o := hc.obj ho hs
        exact ⟨obj_four o, ⟨obj4_frozen o 0, obj4_frozen o 1, obj4_frozen o 2, obj4_frozen o 3⟩, o⟩
      have HA : Hid (∀ A7 cap7 w7, Hid (OwnL monoV 49 (fun k => w3.heap.size ≤ k) R w7 (.slice A7 t.length cap7) t) → Hid (Chg No w3 w7) → Hid ((w7.alloc (.cells #[.int .i64 kd, .int .i64 c, .slice A7 t.length cap7, .slice none 0 0] 27)).heap[w7.heap.size]? = some (.cells #[.int .i64 kd, .int .i64 c, .slice A7 t.length cap7, .slice none 0 0] 27 (0, 0)) ∧ Monos (fun k => w3.heap.size ≤ k ∧ k ≠ w7.heap.size) (w7.alloc (.cells #[.int .i64 kd, .int .i64 c, .slice A7 t.length cap7, .slice none 0 0] 27)) A7 t cap7 ∧ w3.heap.size ≤ w7.heap.size ∧ Chg No w3 (w7.alloc (.cells #[.int .i64 kd, .int .i64 c, .slice A7 t.length cap7, .slice none 0 0] 27)))) := fun A7 cap7 w7 g1 g2 =>
        ⟨heap_alloc_new _ _, ((copy_monos g1.out hmr).mono monoE_good (fun k hk h => ⟨h, by omega⟩)).no monoE_good ((Chg.refl _ _).alloc _), g2.out.size, g2.out.alloc _⟩
      have HBC : Hid (∀ (p : Nat) A7 cap7 w7, w3.heap.size ≤ p → Hid (OwnL monoV 49 (fun k => w3.heap.size ≤ k ∧ k ≠ p) R w7 (.slice A7 t.length cap7) t) → Hid (Chg No w3 w7) → Hid (w7.heap[p]? = some (.cells #[.int .i64 0, .int .i64 0, .slice none 0 0, .slice none 0 0] 27 (0, 0))) → ∀ W, (((w7.setCell ⟨p, 0, none⟩ (.int .i64 kd)).setCell ⟨p, 1, none⟩ (.int .i64 c)).setCell ⟨p, 2, none⟩ (.slice A7 t.length cap7)).setCell ⟨p, 3, none⟩ (.slice none 0 0) = W →
          Hid (W.heap[p]? = some (.cells #[.int .i64 kd, .int .i64 c, .slice A7 t.length cap7, .slice none 0 0] 27 (0, 0)) ∧ Monos (fun k => w3.heap.size ≤ k ∧ k ≠ p) W A7 t cap7 ∧ w3.heap.size ≤ p ∧ Chg No w3 W)) := fun p A7 cap7 w7 hp g1 g2 g3 W hW => by
        subst hW
        have hs : Chg (fun k => k = p) w7 ((((w7.setCell ⟨p, 0, none⟩ (.int .i64 kd)).setCell ⟨p, 1, none⟩ (.int .i64 c)).setCell ⟨p, 2, none⟩ (.slice A7 t.length cap7)).setCell ⟨p, 3, none⟩ (.slice none 0 0)) :=
          ((((Chg.refl (fun k => k = p) _).setCell _ _ (fun _ => rfl)).setCell _ _ (fun _ => rfl)).setCell _ _ (fun _ => rfl)).setCell _ _ (fun _ => rfl)
        refine ⟨obj4_set (j := 3) _ (obj4_set (j := 2) _ (obj4_set (j := 1) _ (obj4_set (j := 0) _ g3.out))), (copy_monos g1.out hmr).chg monoE_good hs (fun k hk e => hk.2 e), hp, g2.out.trans hs (fun k hk hlt => by omega)⟩
      have hz : w.heap.size + 2 ≤ w3.heap.size := by have := h3.out.2.2.2; omega
      clear h3
      go_region_held_law (fun W => W.cell? ⟨w.heap.size, 0, none⟩ = some (.int .i64 kd) ∧ W.cell? ⟨w.heap.size, 1, none⟩ = some (.int .i64 c) ∧ W.cell? ⟨w.heap.size, 2, none⟩ = some (.slice A t.length cap))
        (first | (refine ⟨?_, ?_, ?_⟩ <;> with_reducible assumption) | (refine ⟨?_, ?_, ?_⟩ <;> (with_reducible refine (set4_far (w := w7) (q := w.heap.size) (by omega)).trans ?_; with_reducible assumption)) | go_keep)
        ((first
          | (refine step_copyL monoV_good mono_oneF monosTyF (by rfl) (.tmp 10) (.tmp 13) (by rfl) (M := fun k => w3.heap.size ≤ k) (W0 := w3) (b := w3.heap.size) (R := R) (A := A) (l := t) (n := t.length) (cap := cap) (w := (w3.alloc (.cells #[] 49)).drew) (heap_alloc_new w3 _) (Nat.le_refl _) (fun k hk => Nat.le_trans ((Chg.refl No w3).alloc _).size hk) (fun k hk => hk) ((Chg.refl No w3).alloc _).drew (by rfl) (by rfl) HMo.out (by rfl) ?_; intro A7 cap7 w7 g1 g2 g3; clear p0 p1 p2; obtain ⟨p0, p1, p2⟩ := HB7.out w7 g2; have G1 := Lib.hid g1; have G2 := Lib.hid g2; clear g1 g2 g3)
          | (refine step_copyL monoV_good mono_oneF monosTyF (by rfl) (.tmp 10) (.tmp 13) (by rfl) (M := fun k => w3.heap.size ≤ k ∧ k ≠ w3.heap.size + 1) (W0 := w3) (b := w3.heap.size) (R := R) (A := A) (l := t) (n := t.length) (cap := cap) (w := ((w3.alloc (.cells #[] 49)).alloc (.cells #[.int .i64 0, .int .i64 0, .slice none 0 0, .slice none 0 0] 27)).drew) (at_old (heap_alloc_new w3 _)) (by omega) (fun k hk => by have e : w3.heap.size + 2 ≤ k := (by simpa [World.drew] using hk); omega) (fun k hk => hk.1) (((Chg.refl No w3).alloc _).alloc _).drew (by rfl) (by rfl) HMo.out (by rfl) ?_; intro A7 cap7 w7 g1 g2 g3; clear p0 p1 p2; obtain ⟨p0, p1, p2⟩ := HB7.out w7 g2; obtain ⟨⟨z0, z1, z2, z3⟩, ⟨y0, y1, y2, y3⟩, G3⟩ := HZ.out (w3.heap.size + 1) _ w7 _ g3 (at_new (by simp)) (by omega); have G1 := Lib.hid g1; have G2 := Lib.hid g2; clear g1 g2 g3)
          | (refine step_copyL monoV_good mono_oneF monosTyF (by rfl) (.tmp 10) (.tmp 13) (by rfl) (M := fun k => w3.heap.size ≤ k ∧ k ≠ w3.heap.size) (W0 := w3) (b := w3.heap.size + 1) (R := R) (A := A) (l := t) (n := t.length) (cap := cap) (w := ((w3.alloc (.cells #[.int .i64 0, .int .i64 0, .slice none 0 0, .slice none 0 0] 27)).alloc (.cells #[] 49)).drew) (at_new (by simp)) (by omega) (fun k hk => by have e : w3.heap.size + 2 ≤ k := (by simpa [World.drew] using hk); omega) (fun k hk => hk.1) (((Chg.refl No w3).alloc _).alloc _).drew (by rfl) (by rfl) HMo.out (by rfl) ?_; intro A7 cap7 w7 g1 g2 g3; clear p0 p1 p2; obtain ⟨p0, p1, p2⟩ := HB7.out w7 g2; obtain ⟨⟨z0, z1, z2, z3⟩, ⟨y0, y1, y2, y3⟩, G3⟩ := HZ.out w3.heap.size _ w7 _ g3 (at_old (heap_alloc_new w3 _)) (by omega); have G1 := Lib.hid g1; have G2 := Lib.hid g2; clear g1 g2 g3)))
      all_goals
        go_wp2_with fail
        go_meet
        first
          | exact ⟨_, _, _, rfl, HA.out _ _ _ G1 G2⟩
          | exact ⟨_, _, _, rfl, HBC.out (w3.heap.size + 1) _ _ _ (by omega) G1 G2 G3 _ rfl⟩
          | exact ⟨_, _, _, rfl, HBC.out w3.heap.size _ _ _ (by omega) G1 G2 G3 _ rfl⟩
    case rest =>
      obtain ⟨p, A', cap', rfl, HPo⟩ := hcut
      clear p0 p1 p2 p3
      obtain ⟨p0, p1, p2, p3⟩ := obj_four (HPo.out.2.2.2.obj h3.out.2.1 id)
      go_wp2_with fail
      clear p0 p1 p2 p3
      go_loopw [4] (fun s4 wr => ∃ (i : Nat) (vK : Value), s4 = .int .i64 i ∧ i ≤ ks.length ∧ Hid (wr.heap[p]? = some (.cells #[.int .i64 kd, .int .i64 c, .slice A' t.length cap', vK] 27 (0, 0)) ∧ OwnL (formV n) 27 (fun k => wc.heap.size ≤ k) (fun k => wc.heap.size ≤ k) wr vK (ks.take i) ∧ Monos (fun k => w3.heap.size ≤ k ∧ k ≠ p ∧ k < wc.heap.size) wr A' t cap' ∧ Chg No w3 wr ∧ wc.heap.size ≤ wr.heap.size)) (fun s4 _ => ks.length - (intOf s4).toNat)
      case atStart => exact ⟨0, _, rfl, Nat.zero_le _, HPo.out.1, OwnL.nil _ _ _ _ _, HPo.out.2.1.mono monoE_good (fun k hk h => ⟨h.1, h.2, hk⟩), HPo.out.2.2.2, Nat.le_refl _⟩
      case round =>
        obtain ⟨i, vK, rfl, gi, hst⟩ := hrel
        obtain ⟨p0, p1, p2, p3⟩ := obj_four (hst.out.2.2.2.1.obj h3.out.2.1 id)
        have hpb : w3.heap.size ≤ p := HPo.out.2.2.1
        have hpl : p < wc.heap.size := (Array.getElem?_eq_some_iff.1 HPo.out.1).1
        have hwc3 : w3.heap.size ≤ wc.heap.size := HPo.out.2.2.2.size
        by_cases hlt : i < ks.length
        · obtain ⟨b, o, v0, v1, v2, v3, rfl, hv, x0, x1, x2, x3⟩ := forms_at (HK.out wr (h3.out.1.thenNo hst.out.2.2.2.1)) i hlt
          have i0 : (0 : Int) ≤ (i : Int) := by omega
          have i1 : (i : Int) < (ks.length : Int) := by omega
          have HTK : Hid (ks.take (i + 1) = ks.take i ++ [ks[i]]) := List.take_succ_eq_append_getElem hlt
          have hti : (ks.take i).length = i := by rw [List.length_take]; omega
          have HBY : Hid (((ks.take i).length + 1) * (formV n).bytes ≤ 140737488355328) := by unfold Hid; rw [formV_bytes, hti]; omega
          generalize hT' : ks.take (i + 1) = T' at *
          have HT' := Lib.hid hT'
          clear hT' hti
          generalize ks.take i = T at *
          generalize ks[i] = kid at *
          have hwD : Chg No wr wr.drew := (Chg.refl No wr).drew
          have HI : Hid (Calls Try.prog 14 #[.agg #[v0, v1, v2, v3]] wr.drew fun e w6 => ∃ k1 c1 A1 l1 d1 B1 m1 e1, e = .returned (.agg #[.int .i64 k1, .int .i64 c1, .slice A1 l1 d1, .slice B1 m1 e1]) ∧ w6.cell? ⟨p, 3, none⟩ = some vK ∧
              Hid ((formV n) (fun q => wc.heap.size ≤ q ∧ vK.ownBlock ≠ some q) w6 [.int .i64 k1, .int .i64 c1, .slice A1 l1 d1, .slice B1 m1 e1] kid) ∧ Hid (OwnL (formV n) 27 (fun k => wc.heap.size ≤ k) (fun k => wc.heap.size ≤ k) w6 vK T) ∧ Hid (∀ q, w6.heap.size ≤ q → wc.heap.size ≤ q) ∧
              Hid (∀ A8 cap8 w8, OwnL (formV n) 27 (fun k => wc.heap.size ≤ k) (fun k => wc.heap.size ≤ k) w8 (.slice A8 (T.length + 1) cap8) (T ++ [kid]) → Chg (fun q => vK.ownBlock = some q) w6 w8 → (w8.cell? ⟨p, 3, none⟩ = some vK ∧ w8.frozen? ⟨p, 3, none⟩ = false) ∧
                Hid ((w8.setCell ⟨p, 3, none⟩ (.slice A8 (T.length + 1) cap8)).heap[p]? = some (.cells #[.int .i64 kd, .int .i64 c, .slice A' t.length cap', .slice A8 (T.length + 1) cap8] 27 (0, 0)) ∧ OwnL (formV n) 27 (fun k => wc.heap.size ≤ k) (fun k => wc.heap.size ≤ k) (w8.setCell ⟨p, 3, none⟩ (.slice A8 (T.length + 1) cap8)) (.slice A8 (T.length + 1) cap8) T' ∧
                  Monos (fun k => w3.heap.size ≤ k ∧ k ≠ p ∧ k < wc.heap.size) (w8.setCell ⟨p, 3, none⟩ (.slice A8 (T.length + 1) cap8)) A' t cap' ∧ Chg No w3 (w8.setCell ⟨p, 3, none⟩ (.slice A8 (T.length + 1) cap8)) ∧ wc.heap.size ≤ (w8.setCell ⟨p, 3, none⟩ (.slice A8 (T.length + 1) cap8)).heap.size))) := by
            refine (IH.out kid _ wr.drew _ ((formV_good n).no hv hwD)).mono ?_
            rintro e w6 ⟨cs', rfl, g1, c6⟩
            obtain ⟨k1, c1, A1, l1, d1, B1, m1, e1, rfl⟩ := shape4 g1
            have hc6 := hwD.thenNo c6
            have hs6 := hc6.size
            have hm3 := hst.out.2.2.2.2
            have hmine : ∀ q, vK.ownBlock = some q → wc.heap.size ≤ q ∧ q < wr.heap.size := fun q hq => hst.out.2.1.mine q hq
            have o6 := hc6.obj hst.out.1 id
            refine ⟨k1, c1, A1, l1, d1, B1, m1, e1, rfl, (obj_four o6).2.2.2, ?_, hst.out.2.1.no (formV_good n) hc6, fun q hq => by omega, fun A8 cap8 w8 g2 g3 => ?_⟩
            · exact (formV_good n).mono g1 (fun q _ hq => by
                have hq' : wr.heap.size ≤ q := hq
                exact ⟨by omega, fun e => by have := (hmine q e).2; omega⟩)
            · have o8 := g3.obj o6 (fun e => by have := (hmine p e).1; omega)
              have hs := (Chg.refl (fun k => k = p) w8).setCell ⟨p, 3, none⟩ (.slice A8 (T.length + 1) cap8) (fun _ => rfl)
              refine ⟨⟨(obj_four o8).2.2.2, obj4_frozen o8 3⟩, obj4_set _ o8, ?_, ?_, ?_⟩
              · rw [HTK.out]
                exact g2.chg (formV_good n) hs (fun k hk e => by have h1 : wc.heap.size ≤ k := (g2.mine k hk).1; omega) (fun k hk _ e => by have h1 : wc.heap.size ≤ k := hk; omega)
              · exact (((hst.out.2.2.1.no monoE_good hc6).chg monoE_good g3 (fun k hk e => by have := (hmine k e).1; omega))).chg monoE_good hs (fun k hk e => hk.2.1 e)
              · exact ⟨chg_past (chg_past (hst.out.2.2.2.1.thenNo hc6) g3 (fun k hk => by have := (hmine k hk).1; omega)) hs (fun k hk => by omega), by have := g3.size; have := hs.size; omega⟩
          obtain ⟨m0, m1, m2, m3⟩ := obj_four hst.out.1
          clear hv hst HTK HK HEND HMo HPo
          go_wp2_with fail
          go_region_law
            ((first
              | (refine step_pushL (formV_good n) (formsTyN n) (by rfl) (.tmp 25) (.tmp 32) (by rfl) (M := fun k => wc.heap.size ≤ k) (R := fun k => wc.heap.size ≤ k) (w := w6) G3.out G2.out (by rfl) G1.out (by simp [Value.oneCell']) ((Chg.refl No w6).alloc (.cells #[.int .i64 k1, .int .i64 c1, .slice A1 l1 d1, .slice B1 m1 e1] 27)) (news_alloc _ [.int .i64 k1, .int .i64 c1, .slice A1 l1 d1, .slice B1 m1 e1] 27) (by rfl) HBY.out ?_; intro A8 cap8 w8 g1 g2; obtain ⟨⟨f1, f2⟩, G8⟩ := G4.out A8 cap8 w8 g1 g2; clear g1 g2)
              | (go_simp; go_at_call 14; refine HI.out.mono ?_; rintro e w6 ⟨k1, c1, A1, l1, d1, B1, m1, e1, rfl, q3, G1, G2, G3, G4⟩; have q4 := ((Chg.refl No w6).alloc (.cells #[.int .i64 k1, .int .i64 c1, .slice A1 l1 d1, .slice B1 m1 e1] 27)).cell q3 id)))
          all_goals
            go_wp2
            go_roundw
            case rel =>
              repeat apply Exists.intro
              first
                | (refine ⟨?_, rfl⟩; exact ⟨i + 1, _, by go_num, hlt, by rw [HT'.out]; exact G8⟩)
                | exact ⟨by go_num, hlt, by rw [HT'.out]; exact G8⟩
            case measure => simp [intOf]; omega
        · obtain rfl : i = ks.length := by omega
          rw [List.take_of_length_le (Nat.le_refl _)] at hst
          obtain ⟨BK, capK, rfl⟩ : ∃ BK capK, vK = .slice BK ks.length capK := by
            obtain ⟨BK, capK, e, _⟩ := hst.out.2.1.value
            exact ⟨BK, capK, e⟩
          have o2 := hst.out.2.2.2.1.obj h3.out.2.2.1 id
          obtain ⟨m0, m1, m2, m3⟩ := obj_four hst.out.1
          obtain ⟨r0, r1, r2, r3⟩ := obj_four o2
          have f0 := obj4_frozen o2 0
          have f1 := obj4_frozen o2 1
          have f2 := obj4_frozen o2 2
          have f3 := obj4_frozen o2 3
          have hz := h3.out.2.2.2
          have HFIN : Hid (∀ W, (((wr.setCell ⟨w.heap.size + 1, 0, none⟩ (.int .i64 kd)).setCell ⟨w.heap.size + 1, 1, none⟩ (.int .i64 c)).setCell ⟨w.heap.size + 1, 2, none⟩ (.slice A' t.length cap')).setCell ⟨w.heap.size + 1, 3, none⟩ (.slice BK ks.length capK) = W →
              (formV (n + 1)) (fun k => w.heap.size ≤ k) W [.int .i64 kd, .int .i64 c, .slice A' t.length cap', .slice BK ks.length capK] f ∧ Chg No w W) := fun W hW => by
            subst hW
            have hs : Chg (fun k => k = w.heap.size + 1) wr ((((wr.setCell ⟨w.heap.size + 1, 0, none⟩ (.int .i64 kd)).setCell ⟨w.heap.size + 1, 1, none⟩ (.int .i64 c)).setCell ⟨w.heap.size + 1, 2, none⟩ (.slice A' t.length cap')).setCell ⟨w.heap.size + 1, 3, none⟩ (.slice BK ks.length capK)) :=
              ((((Chg.refl (fun k => k = w.heap.size + 1) _).setCell _ _ (fun _ => rfl)).setCell _ _ (fun _ => rfl)).setCell _ _ (fun _ => rfl)).setCell _ _ (fun _ => rfl)
            have g1 := (hst.out.2.2.1.chg monoE_good hs (fun k hk e => by have := hk.1; omega)).mono monoE_good (R' := fun k => w.heap.size ≤ k) (fun k _ hk => by have := hk.1; omega)
            have g2 := hst.out.2.1.chg (formV_good n) hs (fun k hk e => by have h1 : wc.heap.size ≤ k := (hst.out.2.1.mine k hk).1; omega) (fun k hk _ e => by have h1 : wc.heap.size ≤ k := hk; omega)
            have g3 := (g2.sl_of (formV_good n) (by rw [formV_bytes]; unfold big; omega)).2
            rw [formV_sz] at g3
            have g4 := g3.mono (formE_good n) (R' := fun k => w.heap.size ≤ k) (fun k _ hk => by
              have hk' : wc.heap.size ≤ k := hk.elim id id
              omega)
            exact ⟨HEND.out _ A' cap' BK capK g1 g4, chg_past (h3.out.1.thenNo hst.out.2.2.2.1) hs (fun k hk => by omega)⟩
          have hz' : Hid (w3.heap.size = w.heap.size + 2) := hz
          have hpn : w.heap.size + 1 < p := by omega
          clear hz hst HK HEND HMo HPo o2 h3
          go_wp2_with fail
          exact bodyPost_ret (v := .agg #[.int .i64 kd, .int .i64 c, .slice A' t.length cap', .slice BK ks.length capK]) (by simp [results, Try.results14, go_sem, r0, r1, r2, r3]) rfl ⟨[.int .i64 kd, .int .i64 c, .slice A' t.length cap', .slice BK ks.length capK], rfl, HFIN.out _ rfl⟩
theorem refCopy_any : ∀ n, CopyOk n
  | 0 => fun _ _ _ _ h => h.elim
  | n + 1 => copy_step n (Lib.hid (refCopy_any n))
end Go.Proofs.Ytlejcnbpodmleaa
