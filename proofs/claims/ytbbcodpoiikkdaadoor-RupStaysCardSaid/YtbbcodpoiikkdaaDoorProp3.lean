/-
  The walk over prop.Follow.
-/
import Derived.Test.YtbbcodpoiikkdaaDoorPropLaw
import Derived.Deep.RegionHeld3
import Derived.Deep.RegionLaw
import Derived.Deep.LoopGhost
import Derived.Deep.DeepCutAuto
namespace Go.Proofs.YtbbcodpoiikkdaaDoor
open Go Go.RowKit

theorem rowsTy : SliceTy Tryd.prog 22 33 1 24 (.slice none 0 0) where
  sl := by kernel_rfl
  info := by kernel_rfl
  zs := rfl
  pos := by decide
  bpos := by decide

theorem chk_vals (n : Int) (cl : List (List Int)) : chk n cl = 0 ∨ chk n cl = 1 ∨ chk n cl = 2 ∨ chk n cl = 5 := by
  unfold chk
  split
  · simp
  split
  · simp
  split
  · simp
  split <;> simp

def badLits (n : Int) (lits : List Int) : Bool := lits.any fun l => !litB n l

set_option maxRecDepth 100000 in
set_option maxHeartbeats 1000000 in
theorem follow_bad {R : Nat → Prop} {w : World} (n : Int) {A A' : Option Addr} {cl : List (List Int)} {cap cap' : Nat} (hcl : Rows2 R w A cl cap) (lits : List Int) (hbad : chk n cl ≠ 0) :
    Calls Tryd.prog 18 #[.int .i64 n, .slice A cl.length cap, .slice A' lits.length cap'] w fun e w' => e = .returned (.tuple #[.slice none 0 0, .bool false, errV 36 (chk n cl)]) ∧ Chg No w w' := by
  have H : Hid (∀ W, Chg No w W → Calls Tryd.prog 16 #[.int .i64 n, .slice A cl.length cap] W fun e w' => e = .returned (errV 36 (chk n cl)) ∧ Chg No W w') := fun W hW => check_any n R W A cl cap (hcl.no rowE_good hW)
  obtain ⟨c, hc⟩ : ∃ c, errV 36 (chk n cl) = .iface 36 (.int .i64 c) := ⟨chk n cl, by simp [errV, hbad]⟩
  rw [hc] at H ⊢
  clear hc hcl hbad
  go_enter Tryd.func18, Tryd.ntmps18
  go_wp2_with (go_at_call 16; refine (H.out _ ((Chg.refl _ _).alloc _)).mono ?_; rintro e w1 ⟨rfl, h1⟩)
  go_ret3
  exact ⟨rfl, ((Chg.refl _ _).alloc _).thenNo h1⟩

set_option maxRecDepth 100000 in
set_option maxHeartbeats 1000000 in
theorem follow_lits {R R' : Nat → Prop} {w : World} (n : Int) {A A' : Option Addr} {cl : List (List Int)} {cap cap' : Nat} (hcl : Rows2 R w A cl cap) {lits : List Int} (hlits : Ints R' w A' lits cap') (hgood : chk n cl = 0) (hbad : badLits n lits = true) :
    Calls Tryd.prog 18 #[.int .i64 n, .slice A cl.length cap, .slice A' lits.length cap'] w fun e w' => e = .returned (.tuple #[.slice none 0 0, .bool false, errV 36 5]) ∧ Chg No w w' := by
  have hn : 0 ≤ n ∧ n ≤ 8192 := by
    unfold chk at hgood
    by_cases h : n < 0 ∨ 8192 < n
    · rw [if_pos h] at hgood; cases hgood
    · omega
  have H : Hid (∀ W, Chg No w W → Calls Tryd.prog 16 #[.int .i64 n, .slice A cl.length cap] W fun e w' => e = .returned .nilIface ∧ Chg No W w') := fun W hW => by
    have := check_any n R W A cl cap (hcl.no rowE_good hW)
    rw [hgood] at this
    exact this
  have HC : Hid (∀ W, Chg No w W → W.cell? ⟨w.heap.size, 0, none⟩ = some (.int .i64 n) → Calls Tryd.prog 26 #[.slice A' lits.length cap', .func (.func 32) #[] #[.pointer (some ⟨w.heap.size, 0, none⟩)]] W fun e w' => e = .returned (.bool (badLits n lits)) ∧ Chg No W w') := fun W hW hcell =>
    containsFunc_ints R' W A' lits cap' (hlits.no intE_good hW) 32 entered_follow1 (.pointer (some ⟨w.heap.size, 0, none⟩)) (fun l => !litB n l)
      (fun w' hw' i hi => (follow1_any n lits[i] w.heap.size w' hn.1 hn.2 (hw'.cell hcell id)).mono (by rintro e w1 ⟨rfl, rfl⟩; exact ⟨rfl, Chg.refl _ _⟩))
  rw [hbad] at HC
  clear hgood hbad hcl hlits
  go_enter Tryd.func18, Tryd.ntmps18
  go_wp2_with (first | (go_at_call 16; refine (H.out _ ((Chg.refl _ _).alloc _)).mono ?_; rintro e w1 ⟨rfl, h1⟩; have hb := h1.cell (b := w.heap.size) (o := 0) (v := .int .i64 n) (by go_simp) id; have hc1 := ((Chg.refl No w).alloc (.cells #[.int .i64 n] 3)).thenNo h1; clear h1) | (go_at_call 26; refine (HC.out w1 hc1 hb).mono ?_; rintro e w2 ⟨rfl, h2⟩))
  go_ret3
  exact ⟨rfl, hc1.thenNo h2⟩

/-- Rows of ints that are being filled: W, in the block wb. -/
structure Wh (M : Nat → Prop) (w : World) (wb : Nat) (W : List (List Int)) : Prop where
  ex : ∃ V : List Value, V.length = W.length ∧ w.heap[wb]? = some (.cells V.toArray 33 (0, 0)) ∧
    (∀ j (h : j < W.length) (h' : j < V.length), Own (fun k => M k ∧ k ≠ wb) 3 1 w V[j] W[j].length (W[j].map (Value.int .i64))) ∧
    ∀ i j (hi : i < V.length) (hj : j < V.length) k, V[i].ownBlock = some k → V[j].ownBlock = some k → i = j
  mb : M wb

theorem Wh.made {M : Nat → Prop} {w : World} {wb n : Nat} (hm : M wb) (h : w.heap[wb]? = some (.cells (List.replicate n (Value.slice none 0 0)).toArray 33 (0, 0))) : Wh M w wb (List.replicate n []) := by
  refine ⟨⟨List.replicate n (.slice none 0 0), by simp, h, fun j h1 h2 => ?_, fun i j hi hj k h1 _ => ?_⟩, hm⟩
  · simp only [List.getElem_replicate]; exact Own.nil _ _ _ _
  · simp only [List.getElem_replicate, Value.ownBlock] at h1; cases h1

theorem Wh.chg {M S : Nat → Prop} {w w' : World} {wb : Nat} {W : List (List Int)} (h : Wh M w wb W) (c : Chg S w w') (hd : ∀ k, M k → ¬ S k) : Wh M w' wb W := by
  obtain ⟨⟨V, hl, hb, ho, hne⟩, hm⟩ := h
  exact ⟨⟨V, hl, c.obj hb (hd _ hm), fun j h1 h2 => (ho j h1 h2).chg c (fun k hk => hd k ((ho j h1 h2).mine k hk).1.1), hne⟩, hm⟩

/-- The row j: what stands there. -/
theorem Wh.row {M : Nat → Prop} {w : World} {wb : Nat} {W : List (List Int)} (h : Wh M w wb W) (j : Nat) (hj : j < W.length) :
    ∃ v, w.cell? ⟨wb, j, none⟩ = some v ∧ w.frozen? ⟨wb, j, none⟩ = false ∧ Own (fun k => M k ∧ k ≠ wb) 3 1 w v W[j].length (W[j].map (Value.int .i64)) ∧
      (∀ A cap x w1, Own (fun k => M k ∧ k ≠ wb) 3 1 w1 (.slice A (W[j].length + 1) cap) (W[j].length + 1) (W[j].map (Value.int .i64) ++ [.int .i64 x]) → Chg (fun k => v.ownBlock = some k) w w1 →
        ((Value.slice A (W[j].length + 1) cap).ownBlock = v.ownBlock ∨ ∃ g, (Value.slice A (W[j].length + 1) cap).ownBlock = some g ∧ w.heap.size ≤ g) →
        Wh M (w1.setCell ⟨wb, j, none⟩ (.slice A (W[j].length + 1) cap)) wb (W.set j (W[j] ++ [x])) ∧ Chg M w (w1.setCell ⟨wb, j, none⟩ (.slice A (W[j].length + 1) cap)) ∧ w1.cell? ⟨wb, j, none⟩ = some v ∧ w1.frozen? ⟨wb, j, none⟩ = false) := by
  obtain ⟨⟨V, hl, hb, ho, hne⟩, hm⟩ := h
  have hj' : j < V.length := by omega
  have hc : w.cell? ⟨wb, j, none⟩ = some V[j] := by simp [World.cell?, hb, hj']
  refine ⟨V[j], hc, by simp [World.frozen?, hb], ho j hj hj', fun A cap x w1 hown hch hblk => ?_⟩
  have hmine := (ho j hj hj').mine
  have hnw : ¬ V[j].ownBlock = some wb := fun e => (hmine wb e).1.2 rfl
  have hb1 : w1.heap[wb]? = some (.cells V.toArray 33 (0, 0)) := hch.obj hb hnw
  have hcM : Chg M w (w1.setCell ⟨wb, j, none⟩ (.slice A (W[j].length + 1) cap)) := (hch.mono (T := M) (fun k hk _ => (hmine k hk).1.1)).setCell _ _ (fun _ => hm)
  refine ⟨⟨⟨V.set j (.slice A (W[j].length + 1) cap), by simp [hl], ?_, ?_, ?_⟩, hm⟩, hcM, by simp [World.cell?, hb1, hj'], by simp [World.frozen?, hb1]⟩
  · simp [World.setCell, Array.getElem?_modify, hb1]
  · intro i h1 h2
    have hset : Chg (fun k => k = wb) w1 (w1.setCell ⟨wb, j, none⟩ (.slice A (W[j].length + 1) cap)) := (Chg.refl _ _).setCell _ _ (fun _ => rfl)
    have h2' : i < V.length := by simpa using h2
    have h1' : i < W.length := by simpa using h1
    by_cases e : j = i
    · subst e
      simp only [List.getElem_set_self, List.length_append, List.length_cons, List.length_nil, List.map_append, List.map_cons, List.map_nil]
      exact hown.chg hset (fun k hk => by have := (hown.mine k hk).1.2; simpa using this)
    · simp only [List.getElem_set_ne e]
      have ho' := ho i h1' h2'
      exact (ho'.chg hch (fun k hk hk' => e (hne j i hj' h2' k hk' hk))).chg hset (fun k hk => by have := (ho'.mine k hk).1.2; simpa using this)
  · intro i i' hi hi' k h1 h2
    have hi1 : i < V.length := by simpa using hi
    have hi2 : i' < V.length := by simpa using hi'
    have far : ∀ m (hm : m < V.length), j ≠ m → V[m].ownBlock = some k → ¬ (Value.slice A (W[j].length + 1) cap).ownBlock = some k := by
      intro m hm hjm hk hA
      rcases hblk with e | ⟨g, e, hg⟩
      · rw [e] at hA; exact hjm (hne j m hj' hm k hA hk)
      · rw [e] at hA; cases hA
        have := ((ho m (by omega) hm).mine _ hk).2
        omega
    by_cases e1 : j = i <;> by_cases e2 : j = i'
    · omega
    · subst e1
      simp only [List.getElem_set_self] at h1
      simp only [List.getElem_set_ne e2] at h2
      exact absurd h1 (far i' hi2 e2 h2)
    · subst e2
      simp only [List.getElem_set_self] at h2
      simp only [List.getElem_set_ne e1] at h1
      exact absurd h2 (far i hi1 e1 h1)
    · simp only [List.getElem_set_ne e1] at h1
      simp only [List.getElem_set_ne e2] at h2
      exact hne i i' hi1 hi2 k h1 h2

theorem Wh.rows {M : Nat → Prop} {w : World} {wb : Nat} {W : List (List Int)} (h : Wh M w wb W) (hl : W.length * 24 ≤ big) (hr : ∀ r ∈ W, r.length * 8 ≤ big ∧ ∀ x ∈ r, I64 x) : Rows2 M w (some ⟨wb, 0, none⟩) W W.length := by
  obtain ⟨⟨V, hlen, hb, ho, hne⟩, hm⟩ := h
  refine ⟨Nat.le_refl _, ?_, hl, (fun h => by cases h), fun i hi => ⟨wb, 0, rfl, hm, ?_⟩⟩
  · unfold big at hl; unfold maxLen; omega
  have hi' : i < V.length := by omega
  obtain ⟨A, cap, hv, hs⟩ := (ho i hi hi').ints (hr _ (List.getElem_mem hi)).1 (hr _ (List.getElem_mem hi)).2
  refine ⟨A, cap, ?_, hs.mono intE_good (fun k _ hk => hk.1)⟩
  rw [← hv]
  simp [World.cell?, hb, hi']

end Go.Proofs.YtbbcodpoiikkdaaDoor
