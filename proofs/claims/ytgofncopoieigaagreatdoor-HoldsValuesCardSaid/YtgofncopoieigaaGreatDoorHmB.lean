/-
  How deep things are: the reference's.
-/
import Derived.Test.YtgofncopoieigaaGreatDoorMB
import Derived.Test.YtgofncopoieigaaGreatDoorMA
namespace Go.Proofs.YtgofncopoieigaaGreatDoor
open Go Go.RowKit

def dE : (n : Nat) → ET n → Nat → Nat
  | 0, _, b => b + 1
  | _ + 1, _, 0 => 1
  | n + 1, x, b + 1 => ((ENode.kids x).map fun k => dE n k b).foldl max 0 + 1
def dC (m : Nat) : (n : Nat) → CT m n → Nat → Nat
  | 0, _, b => b + 1
  | _ + 1, _, 0 => 1
  | n + 1, x, b + 1 => ((CNode.kids x).map fun k => dC m n k b).foldl max (((CNode.es x).map fun k => dE m k b).foldl max 0) + 1
def dA (m n : Nat) : (k : Nat) → AT m n k → Nat → Nat
  | 0, _, b => b + 1
  | _ + 1, _, 0 => 1
  | k + 1, x, b + 1 => ((ANode.kids x).map fun q => dA m n k q b).foldl max (max (dC m n (ANode.c x) b) (max (dE m (ANode.e x) b) (dE m (ANode.v x) b))) + 1
theorem foldl_max_le : ∀ (l : List Nat) (a c : Nat), l.foldl max a ≤ c ↔ a ≤ c ∧ ∀ x ∈ l, x ≤ c
  | [], a, c => by simp
  | x :: t, a, c => by
    rw [List.foldl_cons, foldl_max_le t]
    simp only [List.mem_cons, forall_eq_or_imp, Nat.max_le, and_assoc]
theorem foldl_max_lt (l : List Nat) (a c : Nat) : c < l.foldl max a ↔ c < a ∨ ∃ x ∈ l, c < x := by
  rw [← Nat.not_le, foldl_max_le]
  constructor
  · intro h
    by_cases h1 : c < a
    · exact .inl h1
    · refine .inr ?_
      apply Classical.byContradiction
      intro h2
      exact h ⟨by omega, fun x hx => by
        apply Classical.byContradiction
        intro h3
        exact h2 ⟨x, hx, by omega⟩⟩
  · rintro (h | ⟨x, hx, h⟩) ⟨h1, h2⟩
    · omega
    · have := h2 x hx; omega
theorem take_fold {α : Type} (f : α → Nat) {l : List α} {i : Nat} (h : i < l.length) (a : Nat) : ((l.take (i + 1)).map f).foldl max a = max (((l.take i).map f).foldl max a) (f l[i]) := by
  rw [List.take_succ_eq_append_getElem h, List.map_append, List.foldl_append]; rfl
theorem nat_lt_max {a b c : Nat} : c < max a b ↔ c < a ∨ c < b := by omega
theorem dE_le : ∀ (n : Nat) (x : ET n) (b : Nat), dE n x b ≤ b + 1
  | 0, _, b => Nat.le_refl _
  | _ + 1, _, 0 => Nat.le_refl _
  | n + 1, x, b + 1 => by
    show _ + 1 ≤ _
    refine Nat.succ_le_succ ((foldl_max_le _ _ _).2 ⟨Nat.zero_le _, fun v hv => ?_⟩)
    obtain ⟨k, _, rfl⟩ := List.mem_map.1 hv
    exact dE_le n k b
theorem dC_le (m : Nat) : ∀ (n : Nat) (x : CT m n) (b : Nat), dC m n x b ≤ b + 1
  | 0, _, b => Nat.le_refl _
  | _ + 1, _, 0 => Nat.le_refl _
  | n + 1, x, b + 1 => by
    show _ + 1 ≤ _
    refine Nat.succ_le_succ ((foldl_max_le _ _ _).2 ⟨(foldl_max_le _ _ _).2 ⟨Nat.zero_le _, fun v hv => ?_⟩, fun v hv => ?_⟩)
    · obtain ⟨k, _, rfl⟩ := List.mem_map.1 hv
      exact dE_le m k b
    · obtain ⟨k, _, rfl⟩ := List.mem_map.1 hv
      exact dC_le m n k b
theorem dA_le (m n : Nat) : ∀ (k : Nat) (x : AT m n k) (b : Nat), dA m n k x b ≤ b + 1
  | 0, _, b => Nat.le_refl _
  | _ + 1, _, 0 => Nat.le_refl _
  | k + 1, x, b + 1 => by
    show _ + 1 ≤ _
    refine Nat.succ_le_succ ((foldl_max_le _ _ _).2 ⟨Nat.max_le.2 ⟨dC_le m n _ b, Nat.max_le.2 ⟨dE_le m _ b, dE_le m _ b⟩⟩, fun v hv => ?_⟩)
    obtain ⟨q, _, rfl⟩ := List.mem_map.1 hv
    exact dA_le m n k q b
theorem dE_deep : ∀ (n : Nat) (x : ET n) (b : Nat), decide (b < dE n x b) = deepE n x b
  | 0, _, b => by simp [dE, deepE]
  | _ + 1, _, 0 => by simp [dE, deepE]
  | n + 1, x, b + 1 => by
    show decide (b + 1 < _ + 1) = (ENode.kids x).any (fun k => deepE n k b)
    rw [Bool.eq_iff_iff, decide_eq_true_eq, List.any_eq_true, Nat.succ_lt_succ_iff, foldl_max_lt]
    constructor
    · rintro (h | ⟨v, hv, h⟩)
      · omega
      · obtain ⟨k, hk, rfl⟩ := List.mem_map.1 hv
        exact ⟨k, hk, by rw [← dE_deep n k b]; exact decide_eq_true h⟩
    · rintro ⟨k, hk, h⟩
      rw [← dE_deep n k b] at h
      exact .inr ⟨_, List.mem_map.2 ⟨k, hk, rfl⟩, of_decide_eq_true h⟩
theorem dC_deep (m : Nat) : ∀ (n : Nat) (x : CT m n) (b : Nat), decide (b < dC m n x b) = deepC m n x b
  | 0, _, b => by simp [dC, deepC]
  | _ + 1, _, 0 => by simp [dC, deepC]
  | n + 1, x, b + 1 => by
    show decide (b + 1 < _ + 1) = ((CNode.es x).any (fun k => deepE m k b) || (CNode.kids x).any (fun k => deepC m n k b))
    rw [Bool.eq_iff_iff, decide_eq_true_eq, Bool.or_eq_true, List.any_eq_true, List.any_eq_true, Nat.succ_lt_succ_iff, foldl_max_lt, foldl_max_lt]
    constructor
    · rintro ((h | ⟨v, hv, h⟩) | ⟨v, hv, h⟩)
      · omega
      · obtain ⟨k, hk, rfl⟩ := List.mem_map.1 hv
        exact .inl ⟨k, hk, by rw [← dE_deep m k b]; exact decide_eq_true h⟩
      · obtain ⟨k, hk, rfl⟩ := List.mem_map.1 hv
        exact .inr ⟨k, hk, by rw [← dC_deep m n k b]; exact decide_eq_true h⟩
    · rintro (⟨k, hk, h⟩ | ⟨k, hk, h⟩)
      · rw [← dE_deep m k b] at h
        exact .inl (.inr ⟨_, List.mem_map.2 ⟨k, hk, rfl⟩, of_decide_eq_true h⟩)
      · rw [← dC_deep m n k b] at h
        exact .inr ⟨_, List.mem_map.2 ⟨k, hk, rfl⟩, of_decide_eq_true h⟩
theorem dA_deep (m n : Nat) : ∀ (k : Nat) (x : AT m n k) (b : Nat), decide (b < dA m n k x b) = deepA m n k x b
  | 0, _, b => by simp [dA, deepA]
  | _ + 1, _, 0 => by simp [dA, deepA]
  | k + 1, x, b + 1 => by
    show decide (b + 1 < _ + 1) = (deepC m n (ANode.c x) b || deepE m (ANode.e x) b || deepE m (ANode.v x) b || (ANode.kids x).any (fun q => deepA m n k q b))
    rw [← dC_deep, ← dE_deep, ← dE_deep]
    rw [Bool.eq_iff_iff, decide_eq_true_eq, Bool.or_eq_true, Bool.or_eq_true, Bool.or_eq_true, List.any_eq_true, Nat.succ_lt_succ_iff, foldl_max_lt, decide_eq_true_eq, decide_eq_true_eq, decide_eq_true_eq, nat_lt_max, nat_lt_max]
    constructor
    · rintro ((h | h | h) | ⟨v, hv, h⟩)
      · exact .inl (.inl (.inl h))
      · exact .inl (.inl (.inr h))
      · exact .inl (.inr h)
      · obtain ⟨q, hq, rfl⟩ := List.mem_map.1 hv
        exact .inr ⟨q, hq, by rw [← dA_deep m n k q b]; exact decide_eq_true h⟩
    · rintro (((h | h) | h) | ⟨q, hq, h⟩)
      · exact .inl (.inl h)
      · exact .inl (.inr (.inl h))
      · exact .inl (.inr (.inr h))
      · rw [← dA_deep m n k q b] at h
        exact .inr ⟨_, List.mem_map.2 ⟨q, hq, rfl⟩, of_decide_eq_true h⟩

theorem big15_any (a b : Nat) (w : World) : Calls Tryz.prog 95 #[.int .i64 a, .int .i64 b] w fun e w' => e = .returned (.int .i64 ((max a b : Nat) : Int)) ∧ w = w' := by
  by_cases h : b < a
  · rw [Nat.max_eq_left (by omega)]
    go_enter Tryz.func95, Tryz.ntmps95
    go_wp2_with fail
    go_ret
    exact ⟨rfl, rfl⟩
  · rw [Nat.max_eq_right (by omega)]
    go_enter Tryz.func95, Tryz.ntmps95
    go_wp2_with fail
    go_ret
    exact ⟨rfl, rfl⟩
def DEOk (n : Nat) : Prop := ∀ (x : ET n) (R : Nat → Prop) (w : World) (cs : List Value), (exprV n) R w cs x → ∀ (b : Nat) (z : Int), z = b → b ≤ 1000 →
    Calls Tryz.prog 97 #[.agg cs.toArray, .int .i64 z] w fun e w' => e = .returned (.int .i64 (dE n x b)) ∧ Chg No w w'
set_option maxRecDepth 100000 in
set_option maxHeartbeats 2000000 in
theorem depthE_walk (n : Nat) (IH : Hid (DEOk n)) : DEOk (n + 1) := by
  rintro f R w cs h b z hz hb
  obtain ⟨B, capk, rfl, i1, i2, hm, hk⟩ := enode_cells h
  obtain ⟨w3, hw3⟩ : ∃ w3, w3 = w.alloc (.cells #[.int .i64 (ENode.kind f), .int .i64 (ENode.num f), .string (ENode.name f), .slice B (ENode.kids f).length capk] 27) := ⟨_, rfl⟩
  have h3 : Hid (Chg No w w3 ∧ w3.heap[w.heap.size]? = some (.cells #[.int .i64 (ENode.kind f), .int .i64 (ENode.num f), .string (ENode.name f), .slice B (ENode.kids f).length capk] 27 (0, 0))) := by
    rw [hw3]; exact ⟨(Chg.refl _ _).alloc _, heap_alloc_new _ _⟩
  have HO := Lib.hid (fun W (hW : Chg No w3 W) => obj_4 (hW.obj h3.out.2 id))
  have HKS := Lib.hid (fun W (hW : Chg No w W) => hk.no (exprE_good n) hW)
  have hbig := hk.big
  unfold big at hbig
  cases b with
  | zero =>
    obtain rfl : z = 0 := by omega
    clear hz hb
    rw [show dE (n + 1) f 0 = 1 from rfl]
    clear HKS h hk IH
    generalize ENode.kind f = kd at *
    generalize ENode.num f = num at *
    generalize ENode.name f = name at *
    generalize (ENode.kids f).length = kl at *
    go_enter Tryz.func97, Tryz.ntmps97
    go_upto_region 1 with fail
    rw [← hw3]
    clear hw3
    obtain ⟨p0, p1, p2, p3⟩ := HO.out w3 (Chg.refl _ _)
    go_wp2_with fail
    go_loopw [5, 6] (fun s5 s6 wr => s5 = .int .i64 0 ∧ s6 = .int .i64 0 ∧ wr = w3) (fun _ _ _ => 0)
    case atStart => exact ⟨rfl, rfl, rfl⟩
    case round =>
      obtain ⟨rfl, rfl, rfl⟩ := hrel
      by_cases hkl : (0 : Int) < (kl : Int)
      · have h1 : decide ((0 : Int) < (kl : Int)) = true := decide_eq_true hkl
        go_wp2_with fail
        go_ret
        exact ⟨rfl, h3.out.1⟩
      · have h1 : decide ((0 : Int) < (kl : Int)) = false := decide_eq_false hkl
        go_wp2_with fail
        go_ret
        exact ⟨rfl, h3.out.1⟩
  | succ b =>
    rw [show dE (n + 1) f (b + 1) = ((ENode.kids f).map fun k => dE n k b).foldl max 0 + 1 from rfl]
    have HI := Lib.hid (fun (x : ET n) R' W cs' (hcs : (exprV n) R' W cs' x) => IH.out x R' W cs' hcs b (z - 1) (by omega) (by omega))
    have hzl : 1 ≤ z := by omega
    have hzh : z ≤ 1000 := by omega
    have hw1 : IntKind.i64.wrap (z - 1) = z - 1 := by rw [IntKind.wrap_i64]; omega
    have hz1 : decide ((0 : Int) < z) = true := decide_eq_true (by omega)
    have hb2 : b ≤ 999 := by omega
    have HLE := Lib.hid (fun x : ET n => dE_le n x b)
    clear h hk IH hz hb
    generalize ENode.kind f = kd at *
    generalize ENode.num f = num at *
    generalize ENode.name f = name at *
    generalize ENode.kids f = ks at *
    go_enter Tryz.func97, Tryz.ntmps97
    go_upto_region 1 with fail
    rw [← hw3]
    clear hw3
    go_wp2_with fail
    go_loopw [5, 6] (fun s5 s6 wr => ∃ (i d : Nat), s5 = .int .i64 d ∧ s6 = .int .i64 i ∧ i ≤ ks.length ∧ d ≤ 1000 ∧ Hid (d = ((ks.take i).map fun k => dE n k b).foldl max 0) ∧ Hid (Chg No w3 wr)) (fun _ s6 _ => ks.length - (intOf s6).toNat)
    case atStart => exact ⟨0, 0, rfl, rfl, Nat.zero_le _, Nat.zero_le _, rfl, Chg.refl _ _⟩
    case round =>
      obtain ⟨i, d, rfl, rfl, gi, gd, hd, hch⟩ := hrel
      obtain ⟨p0, p1, p2, p3⟩ := HO.out wr hch.out
      by_cases hlt : i < ks.length
      · obtain ⟨bb, o, k0, m0, s0, B0, l0, d0, rfl, hv, x0, x1, x2, x3⟩ := exprs_at (HKS.out wr (h3.out.1.thenNo hch.out)) i hlt
        have i0 : (0 : Int) ≤ (i : Int) := by omega
        have i1 : (i : Int) < (ks.length : Int) := by omega
        have HC := Lib.hid (HI.out ks[i] _ wr _ hv)
        have HN : Hid (max d (dE n ks[i] b) = ((ks.take (i + 1)).map fun k => dE n k b).foldl max 0) := by unfold Hid; rw [take_fold _ hlt, ← hd.out]
        have hle := HLE.out ks[i]
        clear hv hd
        generalize dE n ks[i] b = dv at *
        have HBG := Lib.hid (fun W => big15_any d dv W)
        have hmx : max d dv ≤ 1000 := Nat.max_le.2 ⟨gd, by omega⟩
        generalize max d dv = mx at *
        go_wp2_with (first
          | (go_at_call 97; (with_reducible refine HC.out.mono ?_); rintro e w4 ⟨rfl, h4⟩; have H4 := Lib.hid (hch.out.thenNo h4); clear h4)
          | (go_at_call 95; (with_reducible refine (HBG.out _).mono ?_); rintro e w5 ⟨rfl, rfl⟩))
        go_roundw
        case rel => exact ⟨i + 1, mx, rfl, by go_num, hlt, hmx, HN.out, H4.out⟩
        case measure => simp [intOf]; omega
      · obtain rfl : i = ks.length := by omega
        have HE : Hid (d = (ks.map fun k => dE n k b).foldl max 0) := by have := hd.out; rwa [List.take_length] at this
        clear hd
        go_wp2_with fail
        go_ret
        exact ⟨by rw [← HE.out]; rfl, h3.out.1.thenNo hch.out⟩
theorem depthE_any : ∀ n, DEOk n
  | 0 => fun _ _ _ _ h => h.elim
  | n + 1 => depthE_walk n (Lib.hid (depthE_any n))
def DCOk (m n : Nat) : Prop := ∀ (x : CT m n) (R : Nat → Prop) (w : World) (cs : List Value), (condV m n) R w cs x → ∀ (b : Nat) (z : Int), z = b → b ≤ 1000 →
    Calls Tryz.prog 96 #[.agg cs.toArray, .int .i64 z] w fun e w' => e = .returned (.int .i64 (dC m n x b)) ∧ Chg No w w'
set_option maxRecDepth 100000 in
set_option maxHeartbeats 2000000 in
theorem depthC_walk (m n : Nat) (IH : Hid (DCOk m n)) : DCOk m (n + 1) := by
  rintro f R w cs h b z hz hb
  obtain ⟨Ae, cape, B, capk, rfl, i1, he, hk⟩ := cnode_cells h
  obtain ⟨w3, hw3⟩ : ∃ w3, w3 = w.alloc (.cells #[.int .i64 (CNode.kind f), .slice Ae (CNode.es f).length cape, .slice B (CNode.kids f).length capk] 25) := ⟨_, rfl⟩
  have h3 : Hid (Chg No w w3 ∧ w3.heap[w.heap.size]? = some (.cells #[.int .i64 (CNode.kind f), .slice Ae (CNode.es f).length cape, .slice B (CNode.kids f).length capk] 25 (0, 0))) := by
    rw [hw3]; exact ⟨(Chg.refl _ _).alloc _, heap_alloc_new _ _⟩
  have HO := Lib.hid (fun W (hW : Chg No w3 W) => obj_3 (hW.obj h3.out.2 id))
  have HES := Lib.hid (fun W (hW : Chg No w W) => he.no (exprE_good m) hW)
  have HKS := Lib.hid (fun W (hW : Chg No w W) => hk.no (condE_good m n) hW)
  have hbig := hk.big
  have hbig2 := he.big
  unfold big at hbig hbig2
  cases b with
  | zero =>
    obtain rfl : z = 0 := by omega
    clear hz hb
    rw [show dC m (n + 1) f 0 = 1 from rfl]
    clear HKS HES h hk he IH
    generalize CNode.kind f = kd at *
    generalize (CNode.es f).length = el at *
    generalize (CNode.kids f).length = kl at *
    go_enter Tryz.func96, Tryz.ntmps96
    go_upto_region 1 with fail
    rw [← hw3]
    clear hw3
    obtain ⟨p0, p1, p2⟩ := HO.out w3 (Chg.refl _ _)
    go_wp2_with fail
    go_loopw [5, 6] (fun s5 s6 wr => s5 = .int .i64 0 ∧ s6 = .int .i64 0 ∧ w3 = wr) (fun _ _ _ => 0)
    case atStart => exact ⟨rfl, rfl, rfl⟩
    case round =>
      obtain ⟨rfl, rfl, rfl⟩ := hrel
      by_cases hel : (0 : Int) < (el : Int)
      · have h1 : decide ((0 : Int) < (el : Int)) = true := decide_eq_true hel
        go_wp2_with fail
        go_loopw [5, 7] (fun s5 s7 wr => s5 = .int .i64 0 ∧ s7 = .int .i64 0 ∧ w3 = wr) (fun _ _ _ => 0)
        case atStart => exact ⟨rfl, rfl, rfl⟩
        case round =>
          obtain ⟨rfl, rfl, rfl⟩ := hrel
          by_cases hkl : (0 : Int) < (kl : Int)
          · have h2 : decide ((0 : Int) < (kl : Int)) = true := decide_eq_true hkl
            go_wp2_with fail
            go_ret
            exact ⟨rfl, h3.out.1⟩
          · have h2 : decide ((0 : Int) < (kl : Int)) = false := decide_eq_false hkl
            go_wp2_with fail
            go_ret
            exact ⟨rfl, h3.out.1⟩
      · have h1 : decide ((0 : Int) < (el : Int)) = false := decide_eq_false hel
        go_wp2_with fail
        go_loopw [5, 7] (fun s5 s7 wr => s5 = .int .i64 0 ∧ s7 = .int .i64 0 ∧ w3 = wr) (fun _ _ _ => 0)
        case atStart => exact ⟨rfl, rfl, rfl⟩
        case round =>
          obtain ⟨rfl, rfl, rfl⟩ := hrel
          by_cases hkl : (0 : Int) < (kl : Int)
          · have h2 : decide ((0 : Int) < (kl : Int)) = true := decide_eq_true hkl
            go_wp2_with fail
            go_ret
            exact ⟨rfl, h3.out.1⟩
          · have h2 : decide ((0 : Int) < (kl : Int)) = false := decide_eq_false hkl
            go_wp2_with fail
            go_ret
            exact ⟨rfl, h3.out.1⟩
  | succ b =>
    rw [show dC m (n + 1) f (b + 1) = ((CNode.kids f).map fun k => dC m n k b).foldl max (((CNode.es f).map fun k => dE m k b).foldl max 0) + 1 from rfl]
    have HIE := Lib.hid (fun (x : ET m) R' W cs' (hcs : (exprV m) R' W cs' x) => depthE_any m x R' W cs' hcs b (z - 1) (by omega) (by omega))
    have HIC := Lib.hid (fun (x : CT m n) R' W cs' (hcs : (condV m n) R' W cs' x) => IH.out x R' W cs' hcs b (z - 1) (by omega) (by omega))
    have hzl : 1 ≤ z := by omega
    have hzh : z ≤ 1000 := by omega
    have hw1 : IntKind.i64.wrap (z - 1) = z - 1 := by rw [IntKind.wrap_i64]; omega
    have hz1 : decide ((0 : Int) < z) = true := decide_eq_true (by omega)
    have hb2 : b ≤ 999 := by omega
    have HLE := Lib.hid (fun x : ET m => dE_le m x b)
    have HLC := Lib.hid (fun x : CT m n => dC_le m n x b)
    clear h hk he IH hz hb
    generalize CNode.kind f = kd at *
    generalize CNode.es f = es at *
    generalize CNode.kids f = ks at *
    obtain ⟨de, hde⟩ : ∃ de, de = (es.map fun k => dE m k b).foldl max 0 := ⟨_, rfl⟩
    rw [← hde]
    have HDE := Lib.hid hde
    clear hde
    go_enter Tryz.func96, Tryz.ntmps96
    go_upto_region 1 with fail
    rw [← hw3]
    clear hw3
    go_wp2_with fail
    go_loopw [5, 6] (fun s5 s6 wr => ∃ (i d : Nat), s5 = .int .i64 d ∧ s6 = .int .i64 i ∧ i ≤ es.length ∧ d ≤ 1000 ∧ Hid (d = ((es.take i).map fun k => dE m k b).foldl max 0) ∧ Hid (Chg No w3 wr)) (fun _ s6 _ => es.length - (intOf s6).toNat)
    case atStart => exact ⟨0, 0, rfl, rfl, Nat.zero_le _, Nat.zero_le _, rfl, Chg.refl _ _⟩
    case round =>
      obtain ⟨i, d, rfl, rfl, gi, gd, hd, hch⟩ := hrel
      obtain ⟨p0, p1, p2⟩ := HO.out wr hch.out
      by_cases hlt : i < es.length
      · obtain ⟨bb, o, k0, m0, s0, B0, l0, d0, rfl, hv, x0, x1, x2, x3⟩ := exprs_at (HES.out wr (h3.out.1.thenNo hch.out)) i hlt
        have i0 : (0 : Int) ≤ (i : Int) := by omega
        have i1 : (i : Int) < (es.length : Int) := by omega
        have HC := Lib.hid (HIE.out es[i] _ wr _ hv)
        have HN : Hid (max d (dE m es[i] b) = ((es.take (i + 1)).map fun k => dE m k b).foldl max 0) := by unfold Hid; rw [take_fold _ hlt, ← hd.out]
        have hle := HLE.out es[i]
        clear hv hd
        generalize dE m es[i] b = dv at *
        have HBG := Lib.hid (fun W => big15_any d dv W)
        have hmx : max d dv ≤ 1000 := Nat.max_le.2 ⟨gd, by omega⟩
        generalize max d dv = mx at *
        go_wp2_with (first
          | (go_at_call 97; (with_reducible refine HC.out.mono ?_); rintro e w4 ⟨rfl, h4⟩; have H4 := Lib.hid (hch.out.thenNo h4); clear h4)
          | (go_at_call 95; (with_reducible refine (HBG.out _).mono ?_); rintro e w5 ⟨rfl, rfl⟩))
        go_roundw
        case rel => exact ⟨i + 1, mx, rfl, by go_num, hlt, hmx, HN.out, H4.out⟩
        case measure => simp [intOf]; omega
      · obtain rfl : i = es.length := by omega
        obtain rfl : d = de := by have := hd.out; rw [List.take_length] at this; rw [this, HDE.out]
        obtain ⟨wa, hwa⟩ : ∃ wa, wa = wr := ⟨_, rfl⟩
        subst hwa
        clear hd HDE HES HIE HLE
        go_wp2_with fail
        go_loopw [5, 7] (fun s5 s7 wr => ∃ (i c : Nat), s5 = .int .i64 c ∧ s7 = .int .i64 i ∧ i ≤ ks.length ∧ c ≤ 1000 ∧ Hid (c = ((ks.take i).map fun k => dC m n k b).foldl max d) ∧ Hid (Chg No w3 wr)) (fun _ s7 _ => ks.length - (intOf s7).toNat)
        case atStart => exact ⟨0, d, rfl, rfl, Nat.zero_le _, gd, rfl, hch.out⟩
        case round =>
          obtain ⟨i, c, rfl, rfl, gi2, gc, hd, hch2⟩ := hrel
          clear p0 p1 p2
          obtain ⟨p0, p1, p2⟩ := HO.out wr hch2.out
          by_cases hlt2 : i < ks.length
          · obtain ⟨bb, o, k0, A0, el0, ce0, B0, l0, d0, rfl, hv, x0, x1, x2⟩ := conds_at (HKS.out wr (h3.out.1.thenNo hch2.out)) i hlt2
            have i0 : (0 : Int) ≤ (i : Int) := by omega
            have i1 : (i : Int) < (ks.length : Int) := by omega
            have HC := Lib.hid (HIC.out ks[i] _ wr _ hv)
            have HN : Hid (max c (dC m n ks[i] b) = ((ks.take (i + 1)).map fun k => dC m n k b).foldl max d) := by unfold Hid; rw [take_fold _ hlt2, ← hd.out]
            have hle := HLC.out ks[i]
            clear hv hd
            generalize dC m n ks[i] b = dv at *
            have HBG := Lib.hid (fun W => big15_any c dv W)
            have hmx : max c dv ≤ 1000 := Nat.max_le.2 ⟨gc, by omega⟩
            generalize max c dv = mx at *
            go_wp2_with (first
              | (go_at_call 96; (with_reducible refine HC.out.mono ?_); rintro e w4 ⟨rfl, h4⟩; have H4 := Lib.hid (hch2.out.thenNo h4); clear h4)
              | (go_at_call 95; (with_reducible refine (HBG.out _).mono ?_); rintro e w5 ⟨rfl, rfl⟩))
            go_roundw
            case rel => exact ⟨i + 1, mx, rfl, by go_num, hlt2, hmx, HN.out, H4.out⟩
            case measure => simp [intOf]; omega
          · obtain rfl : i = ks.length := by omega
            have HE : Hid (c = (ks.map fun k => dC m n k b).foldl max d) := by have := hd.out; rwa [List.take_length] at this
            clear hd
            go_wp2_with fail
            go_ret
            exact ⟨by rw [← HE.out]; rfl, h3.out.1.thenNo hch2.out⟩
theorem depthC_any (m : Nat) : ∀ n, DCOk m n
  | 0 => fun _ _ _ _ h => h.elim
  | n + 1 => depthC_walk m n (Lib.hid (depthC_any m n))
end Go.Proofs.YtgofncopoieigaaGreatDoor
