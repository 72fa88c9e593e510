/-
  Chapter 17: heap.Set walked.
-/
import Derived.Test.YtbcgffnmbmbjdaaHpM
import Derived.Deep.RegionHeldLaw
namespace Go.Proofs.Ytbcgffnmbmbjdaa
open Go Go.RowKit

theorem encL_set3 (l : List Tri) (i : Nat) (c : Tri) (hi : i < l.length) : ((((encL l).set (i * 3) (.int .i64 c.1)).set (i * 3 + 1) (.string c.2.1)).set (i * 3 + 2) (.int .i64 c.2.2)) = encL (l.set i c) := by
  apply List.ext_getElem?
  intro t
  by_cases ht : t < l.length * 3
  · rw [encL_set _ t ht, List.getElem?_set, List.length_set, List.length_set, encL_length, List.getElem?_set, List.length_set, encL_length, List.getElem?_set, encL_length]
    by_cases h5 : t / 3 = i
    · rw [if_pos h5]
      have h7 : t % 3 = 0 ∨ t % 3 = 1 ∨ t % 3 = 2 := by omega
      rcases h7 with h7 | h7 | h7 <;> rw [h7]
      · rw [if_neg (by omega), if_neg (by omega), if_pos (by omega), if_pos (by omega)]; rfl
      · rw [if_neg (by omega), if_pos (by omega), if_pos (by omega)]; rfl
      · rw [if_pos (by omega), if_pos (by omega)]; rfl
    · rw [if_neg h5, if_neg (by omega), if_neg (by omega), if_neg (by omega)]
  · rw [List.getElem?_eq_none (by rw [List.length_set, List.length_set, List.length_set, encL_length]; omega), List.getElem?_eq_none (by rw [encL_length, List.length_set]; omega)]
theorem OTris.setC {e : TypeId} {M : Nat → Prop} {w : World} {g o n cap : Nat} {l : List Tri} (h : OTris e M w (.slice (some ⟨g, o, none⟩) n cap) l) (i : Nat) (hi : i < l.length) {c : Tri} (hc : TriOk c) :
    (∀ j, j < 3 → w.frozen? ⟨g, o + i * 3 + j, none⟩ = false ∧ ∃ u, w.cell? ⟨g, o + i * 3 + j, none⟩ = some u) ∧ M g ∧ OTris e M (((w.setCell ⟨g, o + i * 3, none⟩ (.int .i64 c.1)).setCell ⟨g, o + i * 3 + 1, none⟩ (.string c.2.1)).setCell ⟨g, o + i * 3 + 2, none⟩ (.int .i64 c.2.2)) (.slice (some ⟨g, o, none⟩) n cap) (l.set i c) := by
  have hn := h.blk.1
  subst hn
  obtain ⟨h1, h2⟩ := OTris.iff.1 h
  have hj : ∀ j, j < 3 → i * 3 + j < (encL l).length := fun j hj => by rw [encL_length]; omega
  obtain ⟨_, _, hM, h3⟩ := h1.put (hj 0 (by omega)) (.int .i64 c.1)
  obtain ⟨_, _, _, h4⟩ := h3.put (j := i * 3 + 1) (by rw [List.length_set]; exact hj 1 (by omega)) (.string c.2.1)
  obtain ⟨_, _, _, h5⟩ := h4.put (j := i * 3 + 2) (by rw [List.length_set, List.length_set]; exact hj 2 (by omega)) (.int .i64 c.2.2)
  refine ⟨fun j hj3 => ?_, hM, OTris.iff.2 ⟨?_, fun m hm => ?_⟩⟩
  · obtain ⟨f, g, _⟩ := h1.put (hj j hj3) (.int .i64 0)
    rw [← Nat.add_assoc] at f g
    exact ⟨f, _, g⟩
  · rw [List.length_set, ← encL_set3 l i c hi]
    simp only [Nat.add_zero, ← Nat.add_assoc] at h5
    exact h5
  · rcases List.mem_or_eq_of_mem_set hm with hm | rfl
    · exact h2 m hm
    · exact hc

/-- What heap.Set answers. -/
def SetRet (w : World) (r : List Tri) (e : Ending) (w' : World) : Prop := ∃ A' n' cap', e = .returned (.slice A' n' cap') ∧ n' = r.length ∧ OTris 39 (fun k => w.heap.size ≤ k) w' (.slice A' n' cap') r ∧ Chg No w w'

set_option maxRecDepth 100000 in
set_option maxHeartbeats 4000000 in
theorem set_has {R : Nat → Prop} {w : World} {A : Option Addr} {l : List Tri} {cap : Nat} (hl : Tris R w A l cap) (hst : Strict l) (a : Int) (f : ByteArray) (z : Int) (hc : TriOk (a, f, z)) (hh : hasL l (a, f, 0) = true) :
    Calls Try.prog 15 #[.slice A l.length cap, .int .i64 a, .string f, .int .i64 z] w (SetRet w (setP l (a, f, z))) := by
  have HAT := Lib.hid (at_any hl hst a f)
  rw [hh] at HAT
  have HL : Hid (∀ W, Chg No w W → Calls Try.prog 34 #[.slice A l.length cap] W fun e w' => ∃ A' cap', e = .returned (.slice A' l.length cap') ∧ OTris 39 (fun k => w.heap.size ≤ k) w' (.slice A' l.length cap') l ∧ Chg No w w' ∧ Chg No W w') := fun W h =>
    (cloneCell_any (hl.no triE_good h)).mono (fun e w' ⟨A', cap', h1, h2, h3⟩ => ⟨A', cap', h1, h2.mono triV_good (fun q _ hq => Nat.le_trans h.size hq) (fun _ _ f => f), h.thenNo h3, h3⟩)
  have HY : Hid (∀ i, Bnd l (a, f, 0) i → i < l.length ∧ setP l (a, f, z) = l.set i (a, f, z)) := fun i h => ⟨(h.yes hst hh).1, setP_has h (h.yes hst hh)⟩
  have HC := Lib.hid hc
  clear hl hst hh hc
  go_enter Try.func15, Try.ntmps15
  go_upto_region 3 with (go_at_call 33; refine HAT.out.mono ?_; rintro e w1 ⟨i, rfl, h1, h2⟩; have H1 := Lib.hid (HY.out i h1); have H2 := Lib.hid h2; clear h1 h2)
  obtain ⟨wA, hwA⟩ : ∃ wA, wA = w1.alloc (.cells #[.int .i64 a, .string f, .int .i64 z] 39) := ⟨_, rfl⟩
  obtain ⟨q, hq⟩ : ∃ q, q = w1.heap.size := ⟨_, rfl⟩
  have hob : Hid (wA.heap[q]? = some (.cells #[.int .i64 a, .string f, .int .i64 z] 39 (0, 0))) := by rw [hwA, hq]; exact heap_alloc_new _ _
  have HA : Hid (Chg No w wA) := by rw [hwA]; exact H2.out.alloc _
  rw [← hwA, ← hq]
  clear hwA hq
  go_upto_region 5 with (go_at_call 34; refine (HL.out _ HA.out).mono ?_; rintro e w2 ⟨A2, cap2, rfl, h1, h2, h3⟩; have G1 := Lib.hid h1; have G2 := Lib.hid h2; have G3 := Lib.hid h3; clear h1 h2 h3)
  obtain ⟨n0, n1, n2⟩ := obj3 (G3.out.obj hob.out id)
  have hil := H1.out.1
  have HE := Lib.hid H1.out.2
  have hA : ∃ g o, A2 = some ⟨g, o, none⟩ := by
    rcases (OTris.iff.1 G1.out).1.2 with ⟨e, h0⟩ | ⟨g, o, cap', cur, e, _⟩
    · omega
    · injection e with e1
      exact ⟨g, o, e1⟩
  obtain ⟨g, o, rfl⟩ := hA
  obtain ⟨hf, hM, hO⟩ := OTris.setC G1.out i hil HC.out
  obtain ⟨f0, u0, c0⟩ := hf 0 (by omega)
  obtain ⟨f1, u1, c1⟩ := hf 1 (by omega)
  obtain ⟨f2, u2, c2⟩ := hf 2 (by omega)
  rw [Nat.add_zero] at f0 c0
  have HO := Lib.hid hO
  have HG := Lib.hid hM
  have HCH : Hid (Chg No w (((w2.setCell ⟨g, o + i * 3, none⟩ (.int .i64 a)).setCell ⟨g, o + i * 3 + 1, none⟩ (.string f)).setCell ⟨g, o + i * 3 + 2, none⟩ (.int .i64 z))) :=
    ((G2.out.setCell _ _ (fun h => absurd h (Nat.not_lt.2 hM))).setCell _ _ (fun h => absurd h (Nat.not_lt.2 hM))).setCell _ _ (fun h => absurd h (Nat.not_lt.2 hM))
  clear hf hM hO
  go_wp2_with fail
  go_ret
  exact ⟨_, l.length, cap2, rfl, by rw [HE.out, List.length_set], by rw [HE.out]; exact HO.out, HCH.out⟩

set_option maxRecDepth 100000 in
set_option maxHeartbeats 4000000 in
theorem set_not {R : Nat → Prop} {w : World} {A : Option Addr} {l : List Tri} {cap : Nat} (hl : Tris R w A l cap) (hst : Strict l) (hlen : l.length ≤ 100000) (a : Int) (f : ByteArray) (z : Int) (hc : TriOk (a, f, z)) (hh : hasL l (a, f, 0) = false) :
    Calls Try.prog 15 #[.slice A l.length cap, .int .i64 a, .string f, .int .i64 z] w (SetRet w (setP l (a, f, z))) := by
  have HAT := Lib.hid (at_any hl hst a f)
  rw [hh] at HAT
  have HL : Hid (∀ W, Chg No w W → Calls Try.prog 34 #[.slice A l.length cap] W fun e w' => ∃ A' cap', e = .returned (.slice A' l.length cap') ∧ Hid (OTris 39 (fun k => W.heap.size ≤ k) w' (.slice A' l.length cap') l) ∧ Hid (Chg No W w')) := fun W h => cloneCell_any (hl.no triE_good h)
  have HY : Hid (∀ i, Bnd l (a, f, 0) i → i ≤ l.length ∧ setP l (a, f, z) = l.take i ++ (a, f, z) :: l.drop i) := fun i h => ⟨h.1, setP_no (h.key (z' := z)) (h.not hst hh)⟩
  have HC := Lib.hid hc
  have HINS : Hid (∀ W A2 cap2 vb i, i ≤ l.length → Chg No w W → OTris 39 (fun k => w.heap.size ≤ k) W (.slice A2 l.length cap2) l → OneAt W vb (a, f, z) → (Value.slice A2 l.length cap2).ownBlock ≠ some vb → setP l (a, f, z) = l.take i ++ (a, f, z) :: l.drop i → Calls Try.prog 35 #[.slice A2 l.length cap2, .int .i64 i, .slice (some ⟨vb, 0, none⟩) 1 1] W fun e w' => ∃ A' cap', e = .returned (.slice A' (l.length + 1) cap') ∧ Hid (SetRet w (setP l (a, f, z)) (.returned (.slice A' (l.length + 1) cap')) w') ∧ Hid (Chg (fun k => (Value.slice A2 l.length cap2).ownBlock = some k) W w')) := fun W A2 cap2 vb i hi hcw ho hv hne he => by
    refine (insert_any (fun k hk => Nat.le_trans hcw.size hk) ho rfl hlen hi hv hne hc).mono ?_
    rintro e w' ⟨A', cap', rfl, h1, h2⟩
    refine ⟨A', cap', rfl, ⟨A', _, cap', rfl, ?_, ?_, hcw.trans h2 (fun k hk hlt => by have := (ho.mine k hk).1; omega)⟩, h2⟩
    · rw [he]; simp; omega
    · rw [he]; exact h1
  clear hl hst hh hc
  go_enter Try.func15, Try.ntmps15
  go_upto_region 3 with (go_at_call 33; refine HAT.out.mono ?_; rintro e w1 ⟨i, rfl, h1, h2⟩; have H1 := Lib.hid (HY.out i h1); have H2 := Lib.hid h2; clear h1 h2)
  obtain ⟨wA, hwA⟩ : ∃ wA, wA = w1.alloc (.cells #[.int .i64 a, .string f, .int .i64 z] 39) := ⟨_, rfl⟩
  obtain ⟨q, hq⟩ : ∃ q, q = w1.heap.size := ⟨_, rfl⟩
  have hob : wA.heap[q]? = some (.cells #[.int .i64 a, .string f, .int .i64 z] 39 (0, 0)) := by rw [hwA, hq]; exact heap_alloc_new _ _
  have HA : Hid (Chg No w wA) := by rw [hwA]; exact H2.out.alloc _
  rw [← hwA, ← hq]
  clear hwA hq
  obtain ⟨n0, n1, n2⟩ := obj3 hob
  have HOB := Lib.hid hob
  have hib : i ≤ l.length := H1.out.1
  clear hob
  have HINSA : Hid (∀ w2 A2 cap2, Hid (OTris 39 (fun k => wA.drew.heap.size ≤ k) w2 (.slice A2 l.length cap2) l) → Hid (Chg No wA.drew w2) → Calls Try.prog 35 #[.slice A2 l.length cap2, .int .i64 i, .slice (some ⟨w2.heap.size, 0, none⟩) 1 1] (w2.alloc (.cells #[.int .i64 a, .string f, .int .i64 z] 39)) fun e w' => ∃ A' cap', e = .returned (.slice A' (l.length + 1) cap') ∧ Hid (SetRet w (setP l (a, f, z)) (.returned (.slice A' (l.length + 1) cap')) w') ∧ Hid (w'.heap[q]? = some (.cells #[.int .i64 a, .string f, .int .i64 z] 39 (0, 0)))) := fun w2 A2 cap2 h1 h2 =>
    (HINS.out _ A2 cap2 w2.heap.size i hib ((HA.out.drew.thenNo h2.out).alloc _) ((h1.out.mono triV_good (M' := fun k => w.heap.size ≤ k) (R' := No) (fun q _ hq => Nat.le_trans HA.out.size hq) (fun _ _ f => f)).no triV_good ((Chg.refl _ _).alloc _)) (heap_alloc_new _ _) (fun e => by have := (h1.out.mine _ e).2; omega) H1.out.2).mono (fun e w' ⟨A', cap', g1, g2, g3⟩ => ⟨A', cap', g1, g2, g3.out.obj (at_old (h2.out.obj HOB.out id)) (fun e => by have := (h1.out.mine _ e).1; have := (Array.getElem?_eq_some_iff.1 HOB.out).1; simp only [World.drew] at *; omega)⟩)
  have HINSB : Hid (∀ w2 A2 cap2, Hid (OTris 39 (fun k => (wA.alloc (.cells #[.int .i64 a, .string f, .int .i64 z] 39)).drew.heap.size ≤ k) w2 (.slice A2 l.length cap2) l) → Hid (Chg No (wA.alloc (.cells #[.int .i64 a, .string f, .int .i64 z] 39)).drew w2) → Calls Try.prog 35 #[.slice A2 l.length cap2, .int .i64 i, .slice (some ⟨wA.heap.size, 0, none⟩) 1 1] w2 fun e w' => ∃ A' cap', e = .returned (.slice A' (l.length + 1) cap') ∧ Hid (SetRet w (setP l (a, f, z)) (.returned (.slice A' (l.length + 1) cap')) w') ∧ Hid (w'.heap[q]? = some (.cells #[.int .i64 a, .string f, .int .i64 z] 39 (0, 0)))) := fun w2 A2 cap2 h1 h2 => by
    have hz : (wA.alloc (.cells #[.int .i64 a, .string f, .int .i64 z] 39)).drew.heap.size = wA.heap.size + 1 := by simp [World.drew]
    exact (HINS.out _ A2 cap2 wA.heap.size i hib ((HA.out.alloc _).drew.thenNo h2.out) (h1.out.mono triV_good (M' := fun k => w.heap.size ≤ k) (R' := No) (fun q _ hq => by have := HA.out.size; simp only [hz] at hq; omega) (fun _ _ f => f)) (h2.out.obj (heap_alloc_new wA _) id) (fun e => by have := (h1.out.mine _ e).1; simp only [hz] at this; omega) H1.out.2).mono (fun e w' ⟨A', cap', g1, g2, g3⟩ => ⟨A', cap', g1, g2, g3.out.obj (h2.out.obj (at_old HOB.out) id) (fun e => by have := (h1.out.mine _ e).1; have := (Array.getElem?_eq_some_iff.1 HOB.out).1; simp only [hz] at *; omega)⟩)
  go_upto_region 7 with fail
  go_region_held_law (fun W => W.cell? ⟨q, 0, none⟩ = some (.int .i64 a) ∧ W.cell? ⟨q, 1, none⟩ = some (.string f) ∧ W.cell? ⟨q, 2, none⟩ = some (.int .i64 z))
    (first | (refine ⟨?_, ?_, ?_⟩ <;> with_reducible assumption) | go_keep)
    ((first
      | (go_at_call 34; (with_reducible refine (HL.out wA.drew HA.out.drew).mono ?_); rintro e w2 ⟨A2, cap2, rfl, G1, G2⟩; clear n0 n1 n2; obtain ⟨n0, n1, n2⟩ := obj3 (G2.out.obj HOB.out id))
      | (go_at_call 34; (with_reducible refine (HL.out (wA.alloc (.cells #[.int .i64 a, .string f, .int .i64 z] 39)).drew (HA.out.alloc _).drew).mono ?_); rintro e w2 ⟨A2, cap2, rfl, G1, G2⟩; clear n0 n1 n2; obtain ⟨n0, n1, n2⟩ := obj3 (G2.out.obj (at_old HOB.out) id))
      | (go_at_call 35; (with_reducible refine (HINSA.out w2 A2 cap2 G1 G2).mono ?_); rintro e w3 ⟨A3, cap3, rfl, HF, HFK⟩; clear n0 n1 n2; obtain ⟨n0, n1, n2⟩ := obj3 HFK.out)
      | (go_at_call 35; (with_reducible refine (HINSB.out w2 A2 cap2 G1 G2).mono ?_); rintro e w3 ⟨A3, cap3, rfl, HF, HFK⟩; clear n0 n1 n2; obtain ⟨n0, n1, n2⟩ := obj3 HFK.out)))
  all_goals go_wp2_with fail
  all_goals go_ret
  all_goals exact HF.out

theorem set_any {R : Nat → Prop} {w : World} {A : Option Addr} {l : List Tri} {cap : Nat} (hl : Tris R w A l cap) (hst : Strict l) (hlen : l.length ≤ 100000) (a : Int) (f : ByteArray) (z : Int) (hc : TriOk (a, f, z)) :
    Calls Try.prog 15 #[.slice A l.length cap, .int .i64 a, .string f, .int .i64 z] w (SetRet w (setP l (a, f, z))) := by
  cases hh : hasL l (a, f, 0)
  · exact set_not hl hst hlen a f z hc hh
  · exact set_has hl hst a f z hc hh
end Go.Proofs.Ytbcgffnmbmbjdaa
