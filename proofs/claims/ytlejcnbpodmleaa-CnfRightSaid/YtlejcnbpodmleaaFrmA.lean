/-
  The reference's Light, Size, Depth of formulas.
-/
import Derived.Test.YtlejcnbpodmleaaForm
import Derived.Deep.LoopGhost
import Derived.Deep.QuietTactic
import Derived.BigQuiet
namespace Go.Proofs.Ytlejcnbpodmleaa
open Go Go.RowKit

theorem obj_four {w : World} {b : Nat} {x y z u : Value} {t : TypeId} (h : w.heap[b]? = some (.cells #[x, y, z, u] t (0, 0))) :
    w.cell? ⟨b, 0, none⟩ = some x ∧ w.cell? ⟨b, 1, none⟩ = some y ∧ w.cell? ⟨b, 2, none⟩ = some z ∧ w.cell? ⟨b, 3, none⟩ = some u := by
  simp [World.cell?, h]

set_option maxRecDepth 100000 in
set_option maxHeartbeats 1000000 in
/-- What Light answers doesn't matter, but for its bounds. -/
theorem lightF_any : ∀ (n : Nat) (f : FT n) (R : Nat → Prop) (w : World) (cs : List Value), (formV n) R w cs f → ∀ (l d : Int), 0 ≤ l → l ≤ 100000 → 0 ≤ d → d ≤ 200 →
    Calls Try.prog 20 #[.agg cs.toArray, .int .i64 l, .int .i64 d] w fun e w' => ∃ m : Int, e = .returned (.int .i64 m) ∧ -1 ≤ m ∧ m ≤ 100000 ∧ Chg No w w'
  | 0, _, _, _, _, h, _, _, _, _, _, _ => h.elim
  | n + 1, f, R, w, cs, h, l, d, h0, h1, hd0, hd => by
    have IH := Lib.hid (lightF_any n)
    obtain ⟨A, cap, B, capk, rfl, i1, i2, hm, hk⟩ := node_cells h
    have HK := Lib.hid (fun W (h : Chg No w W) => hk.no (formE_good n) h)
    have hb1 := hm.big
    have hb2 := hk.big
    unfold big at hb1 hb2
    clear h hm hk
    generalize Node.kind f = kd at *
    generalize (Node.lin f).1 = c at *
    generalize (Node.lin f).2 = t at *
    generalize Node.kids f = ks at *
    obtain ⟨w3, hw3⟩ : ∃ w3, w3 = w.alloc (.cells #[.int .i64 kd, .int .i64 c, .slice A t.length cap, .slice B ks.length capk] 27) := ⟨_, rfl⟩
    have h3 : Hid (Chg No w w3 ∧ w3.heap[w.heap.size]? = some (.cells #[.int .i64 kd, .int .i64 c, .slice A t.length cap, .slice B ks.length capk] 27 (0, 0))) := by
      rw [hw3]; exact ⟨(Chg.refl _ _).alloc _, heap_alloc_new _ _⟩
    by_cases hq : d = 0 ∨ l - 1 < 0 ∨ l - 1 < t.length ∨ l - 1 < ks.length
    · go_enter Try.func20, Try.ntmps20
      go_wp2_with fail
      all_goals first
        | (exfalso; omega)
        | (go_ret; exact ⟨_, rfl, by omega, by omega, (Chg.refl _ _).alloc _⟩)
    have e1 : (d == 0) = false := by simp; omega
    have e2 : decide (l - 1 < 0) = false := by simp; omega
    have e3 : decide (l - 1 < (t.length : Int)) = false := by simp; omega
    have e4 : decide (l - 1 < (ks.length : Int)) = false := by simp; omega
    have HD : Hid (1 ≤ d) := by unfold Hid; omega
    have g0 : 0 ≤ l - 1 - (t.length : Int) := by omega
    clear hq
    go_enter Try.func20, Try.ntmps20
    go_wp2_with fail
    rw [← hw3]
    clear hw3
    go_loopw [1, 7] (fun s1 s7 wr => ∃ (l' : Int) (i : Nat), s1 = .int .i64 l' ∧ s7 = .int .i64 i ∧ 0 ≤ l' ∧ l' ≤ 100000 ∧ i ≤ ks.length ∧ Hid (Chg No w3 wr)) (fun _ s7 _ => ks.length - (intOf s7).toNat)
    case atStart => exact ⟨_, 0, rfl, rfl, by omega, by omega, Nat.zero_le _, Chg.refl _ _⟩
    case round =>
      obtain ⟨l', i, rfl, rfl, g0, g1, gi, hch⟩ := hrel
      obtain ⟨p0, p1, p2, p3⟩ := obj_four (hch.out.obj h3.out.2 id)
      by_cases hlt : i < ks.length
      · obtain ⟨b, o, v0, v1, v2, v3, rfl, hv, x0, x1, x2, x3⟩ := forms_at (HK.out wr (h3.out.1.thenNo hch.out)) i hlt
        have HI := Lib.hid (fun d' a1 a2 => IH.out _ _ wr _ hv l' d' g0 g1 a1 a2)
        have i0 : (0 : Int) ≤ (i : Int) := by omega
        have i1 : (i : Int) < (ks.length : Int) := by omega
        clear hv IH
        go_wp2_with (go_at_call 20; refine (HI.out _ (by have := HD.out; omega) (by omega)).mono ?_; rintro e w5 ⟨m, rfl, m1, m2, h5⟩; have H5 := Lib.hid (hch.out.thenNo h5); clear h5)
        · go_ret
          exact ⟨_, rfl, by omega, by omega, h3.out.1.thenNo H5.out⟩
        · go_roundw
          case rel => exact ⟨m, i + 1, rfl, by go_num, by omega, by omega, hlt, H5.out⟩
          case measure => simp [intOf]; omega
      · go_wp2
        go_ret
        exact ⟨_, rfl, by omega, by omega, h3.out.1.thenNo hch.out⟩

/-- Through a list as long as the number is not below 0. -/
def goF {α : Type} (s : α → Int → Int) : List α → Int → Int
  | [], l => l
  | k :: ks, l => if 0 ≤ l then goF s ks (s k l) else l
theorem goF_neg {α : Type} (s : α → Int → Int) {l : Int} (h : l < 0) : ∀ ks : List α, goF s ks l = l
  | [] => rfl
  | k :: ks => by unfold goF; rw [if_neg (by omega)]
theorem goF_step {α : Type} (s : α → Int → Int) {l : Int} (h : 0 ≤ l) (ks : List α) (i : Nat) (hi : i < ks.length) : goF s (ks.drop i) l = goF s (ks.drop (i + 1)) (s ks[i] l) := by
  rw [List.drop_eq_getElem_cons hi]
  show (if 0 ≤ l then _ else _) = _
  rw [if_pos h]
theorem goF_range {α : Type} {s : α → Int → Int} (hs : ∀ k l, 0 ≤ l → -1 ≤ s k l ∧ s k l ≤ l) : ∀ (ks : List α) (l : Int), -1 ≤ l → -1 ≤ goF s ks l ∧ goF s ks l ≤ l
  | [], l, h => ⟨h, Int.le_refl _⟩
  | k :: ks, l, h => by
    unfold goF
    split
    · rename_i h0
      have h1 := hs k l h0
      have h2 := goF_range hs ks (s k l) h1.1
      omega
    · omega
/-- How many formulas are left. -/
def sizeF : (n : Nat) → FT n → Int → Int
  | 0, _, l => l
  | n + 1, f, l => goF (sizeF n) (Node.kids f) (l - 1)
theorem sizeF_range : ∀ (n : Nat) (f : FT n) (l : Int), 0 ≤ l → -1 ≤ sizeF n f l ∧ sizeF n f l ≤ l
  | 0, _, l, h => ⟨by unfold sizeF; omega, by unfold sizeF; omega⟩
  | n + 1, f, l, h => by
    have := goF_range (s := sizeF n) (sizeF_range n) (Node.kids f) (l - 1) (by omega)
    unfold sizeF
    omega

set_option maxRecDepth 100000 in
set_option maxHeartbeats 1000000 in
theorem refSize_any : ∀ (n : Nat) (f : FT n) (R : Nat → Prop) (w : World) (cs : List Value), (formV n) R w cs f → ∀ (l : Int), 0 ≤ l → l ≤ 100000 →
    Calls Try.prog 47 #[.agg cs.toArray, .int .i64 l] w fun e w' => e = .returned (.int .i64 (sizeF n f l)) ∧ Chg No w w'
  | 0, _, _, _, _, h, _, _, _ => h.elim
  | n + 1, f, R, w, cs, h, l, h0, h1 => by
    have IH := Lib.hid (refSize_any n)
    obtain ⟨A, cap, B, capk, rfl, i1, i2, hm, hk⟩ := node_cells h
    have HK := Lib.hid (fun W (h : Chg No w W) => hk.no (formE_good n) h)
    have hb2 := hk.big
    unfold big at hb2
    have HR := Lib.hid (sizeF_range n)
    rw [show sizeF (n + 1) f l = goF (sizeF n) (Node.kids f) (l - 1) from rfl]
    clear h hm hk
    generalize Node.kind f = kd at *
    generalize (Node.lin f).1 = c at *
    generalize (Node.lin f).2 = t at *
    generalize Node.kids f = ks at *
    obtain ⟨w3, hw3⟩ : ∃ w3, w3 = w.alloc (.cells #[.int .i64 kd, .int .i64 c, .slice A t.length cap, .slice B ks.length capk] 27) := ⟨_, rfl⟩
    have h3 : Hid (Chg No w w3 ∧ w3.heap[w.heap.size]? = some (.cells #[.int .i64 kd, .int .i64 c, .slice A t.length cap, .slice B ks.length capk] 27 (0, 0))) := by
      rw [hw3]; exact ⟨(Chg.refl _ _).alloc _, heap_alloc_new _ _⟩
    obtain ⟨ans, hans⟩ : ∃ ans, ans = goF (sizeF n) ks (l - 1) := ⟨_, rfl⟩
    rw [← hans]
    have hstart : Hid (goF (sizeF n) (ks.drop 0) (l - 1) = ans) := hans.symm
    clear hans
    go_enter Try.func47, Try.ntmps47
    go_wp2_with fail
    rw [← hw3]
    clear hw3
    go_loopw [1, 5] (fun s1 s5 wr => ∃ (l' : Int) (i : Nat), s1 = .int .i64 l' ∧ s5 = .int .i64 i ∧ -1 ≤ l' ∧ l' ≤ 100000 ∧ i ≤ ks.length ∧ Hid (goF (sizeF n) (ks.drop i) l' = ans) ∧ Hid (Chg No w3 wr)) (fun _ s5 _ => ks.length - (intOf s5).toNat)
    case atStart => exact ⟨_, 0, rfl, rfl, by omega, by omega, Nat.zero_le _, hstart, Chg.refl _ _⟩
    case round =>
      obtain ⟨l', i, rfl, rfl, g0, g1, gi, hg, hch⟩ := hrel
      obtain ⟨p0, p1, p2, p3⟩ := obj_four (hch.out.obj h3.out.2 id)
      clear hstart
      by_cases hlt : i < ks.length
      · by_cases hl : 0 ≤ l'
        · obtain ⟨b, o, v0, v1, v2, v3, rfl, hv, x0, x1, x2, x3⟩ := forms_at (HK.out wr (h3.out.1.thenNo hch.out)) i hlt
          have HI := Lib.hid (IH.out _ _ wr _ hv l' hl g1)
          have HG : Hid (goF (sizeF n) (ks.drop (i + 1)) (sizeF n ks[i] l') = ans) := (goF_step _ hl ks i hlt).symm.trans hg.out
          obtain ⟨m1, m2⟩ := HR.out ks[i] l' hl
          generalize sizeF n ks[i] l' = m at *
          have i0 : (0 : Int) ≤ (i : Int) := by omega
          have i1 : (i : Int) < (ks.length : Int) := by omega
          clear hv IH
          go_wp2_with (go_at_call 47; refine HI.out.mono ?_; rintro e w5 ⟨rfl, h5⟩; have H5 := Lib.hid (hch.out.thenNo h5); clear h5)
          go_roundw
          case rel => exact ⟨m, i + 1, rfl, by go_num, by omega, by omega, hlt, HG, H5.out⟩
          case measure => simp [intOf]; omega
        · obtain rfl : l' = ans := (goF_neg _ (by omega) _).symm.trans hg.out
          go_wp2
          go_ret
          exact ⟨rfl, h3.out.1.thenNo hch.out⟩
      · obtain rfl : l' = ans := by
          have := hg.out
          rw [List.drop_eq_nil_of_le (by omega)] at this
          exact this
        go_wp2
        go_ret
        exact ⟨rfl, h3.out.1.thenNo hch.out⟩

/-- How deep one is, at most one more than a bound. -/
def depthF : (n : Nat) → FT n → Nat → Nat
  | 0, _, _ => 0
  | _ + 1, _, 0 => 1
  | n + 1, f, b + 1 => (Node.kids f).foldl (fun m k => max m (depthF n k b)) 0 + 1
theorem foldl_max_le {α : Type} (s : α → Nat) (K : Nat) : ∀ (ks : List α) (m : Nat), (ks.foldl (fun m k => max m (s k)) m ≤ K ↔ m ≤ K ∧ ∀ k ∈ ks, s k ≤ K)
  | [], m => by simp
  | k :: ks, m => by
    rw [List.foldl_cons, foldl_max_le s K ks]
    simp only [List.mem_cons, forall_eq_or_imp, Nat.max_le, and_assoc]
theorem depthF_le : ∀ (n : Nat) (f : FT n) (b : Nat), depthF n f b ≤ b + 1
  | 0, _, b => by unfold depthF; omega
  | _ + 1, _, 0 => by unfold depthF; omega
  | n + 1, f, b + 1 => by
    unfold depthF
    have := (foldl_max_le (fun k => depthF n k b) (b + 1) (Node.kids f) 0).2 ⟨Nat.zero_le _, fun k _ => depthF_le n k b⟩
    omega

set_option maxRecDepth 100000 in
set_option maxHeartbeats 1000000 in
theorem refDepth_any : ∀ (n : Nat) (f : FT n) (R : Nat → Prop) (w : World) (cs : List Value), (formV n) R w cs f → ∀ (b : Nat) (z : Int), z = b → b ≤ 1000 →
    Calls Try.prog 46 #[.agg cs.toArray, .int .i64 z] w fun e w' => e = .returned (.int .i64 (depthF n f b)) ∧ Chg No w w'
  | 0, _, _, _, _, h, _, _, _, _ => h.elim
  | n + 1, f, R, w, cs, h, b, _, rfl, h1 => by
    have IH := Lib.hid (refDepth_any n)
    obtain ⟨A, cap, B, capk, rfl, i1, i2, hm, hk⟩ := node_cells h
    have HK := Lib.hid (fun W (h : Chg No w W) => hk.no (formE_good n) h)
    have hb2 := hk.big
    unfold big at hb2
    have HR := Lib.hid (fun k b => depthF_le n k b)
    have hans : depthF (n + 1) f b = (if b = 0 then 0 else (Node.kids f).foldl (fun m k => max m (depthF n k (b - 1))) 0) + 1 := by
      cases b with
      | zero => rfl
      | succ b => rfl
    rw [hans]
    clear h hm hk hans
    generalize Node.kind f = kd at *
    generalize (Node.lin f).1 = c at *
    generalize (Node.lin f).2 = t at *
    generalize Node.kids f = ks at *
    obtain ⟨w3, hw3⟩ : ∃ w3, w3 = w.alloc (.cells #[.int .i64 kd, .int .i64 c, .slice A t.length cap, .slice B ks.length capk] 27) := ⟨_, rfl⟩
    have h3 : Hid (Chg No w w3 ∧ w3.heap[w.heap.size]? = some (.cells #[.int .i64 kd, .int .i64 c, .slice A t.length cap, .slice B ks.length capk] 27 (0, 0))) := by
      rw [hw3]; exact ⟨(Chg.refl _ _).alloc _, heap_alloc_new _ _⟩
    obtain ⟨ans, hans⟩ : ∃ ans, ans = (if b = 0 then 0 else ks.foldl (fun m k => max m (depthF n k (b - 1))) 0) := ⟨_, rfl⟩
    rw [← hans]
    have HA := Lib.hid hans
    clear hans
    go_enter Try.func46, Try.ntmps46
    go_wp2_with fail
    rw [← hw3]
    clear hw3
    go_loopw [5, 6] (fun s5 s6 wr => ∃ (m i : Nat), s5 = .int .i64 m ∧ s6 = .int .i64 i ∧ m ≤ b + 1 ∧ i ≤ ks.length ∧ Hid (m = (if b = 0 then 0 else (ks.take i).foldl (fun m k => max m (depthF n k (b - 1))) 0)) ∧ Hid (Chg No w3 wr)) (fun _ s6 _ => ks.length - (intOf s6).toNat)
    case atStart => exact ⟨0, 0, rfl, rfl, by omega, Nat.zero_le _, by unfold Hid; simp, Chg.refl _ _⟩
    case round =>
      obtain ⟨m, i, rfl, rfl, g1, gi, hg, hch⟩ := hrel
      obtain ⟨p0, p1, p2, p3⟩ := obj_four (hch.out.obj h3.out.2 id)
      by_cases hlt : i < ks.length
      · by_cases hb : b = 0
        · subst hb
          obtain rfl : m = ans := by rw [hg.out, HA.out]; rfl
          go_wp2
          go_ret
          exact ⟨by simp, h3.out.1.thenNo hch.out⟩
        · obtain ⟨b', o, v0, v1, v2, v3, rfl, hv, x0, x1, x2, x3⟩ := forms_at (HK.out wr (h3.out.1.thenNo hch.out)) i hlt
          have HI := Lib.hid (fun z hz => IH.out _ _ wr _ hv (b - 1) z hz (by omega))
          have HG : Hid (max m (depthF n ks[i] (b - 1)) = (if b = 0 then 0 else (ks.take (i + 1)).foldl (fun m k => max m (depthF n k (b - 1))) 0)) := by
            unfold Hid
            rw [List.take_succ_eq_append_getElem hlt, List.foldl_append, if_neg hb, hg.out, if_neg hb]
            rfl
          have m1 := HR.out ks[i] (b - 1)
          generalize depthF n ks[i] (b - 1) = d at *
          have i0 : (0 : Int) ≤ (i : Int) := by omega
          have i1 : (i : Int) < (ks.length : Int) := by omega
          have b0 : (0 : Int) < (b : Int) := by omega
          clear hv IH
          by_cases hd : m < d
          · rw [Nat.max_eq_right (by omega)] at HG
            have hd' : (m : Int) < (d : Int) := by omega
            go_wp2_with (go_at_call 46; refine (HI.out _ (by omega)).mono ?_; rintro e w5 ⟨rfl, h5⟩; have H5 := Lib.hid (hch.out.thenNo h5); clear h5)
            go_roundw
            case rel => exact ⟨d, i + 1, rfl, by go_num, by omega, hlt, HG, H5.out⟩
            case measure => simp [intOf]; omega
          · rw [Nat.max_eq_left (by omega)] at HG
            have hd' : ¬ (m : Int) < (d : Int) := by omega
            go_wp2_with (go_at_call 46; refine (HI.out _ (by omega)).mono ?_; rintro e w5 ⟨rfl, h5⟩; have H5 := Lib.hid (hch.out.thenNo h5); clear h5)
            go_roundw
            case rel => exact ⟨m, i + 1, rfl, by go_num, by omega, hlt, HG, H5.out⟩
            case measure => simp [intOf]; omega
      · obtain rfl : m = ans := by rw [hg.out, HA.out, List.take_of_length_le (by omega)]
        go_wp2
        go_ret
        exact ⟨by simp, h3.out.1.thenNo hch.out⟩
end Go.Proofs.Ytlejcnbpodmleaa
