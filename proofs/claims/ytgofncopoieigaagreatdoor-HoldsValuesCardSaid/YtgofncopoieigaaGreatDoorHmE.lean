/-
  The reference's cond.
-/
import Derived.Test.YtgofncopoieigaaGreatDoorHmD
import Derived.Test.YtgofncopoieigaaGreatDoorMH
import Derived.Deep.CutBlock
namespace Go.Proofs.YtgofncopoieigaaGreatDoor
open Go Go.RowKit

def Cond15Ok (m n : Nat) : Prop := ∀ (x : CT m n) (R : Nat → Prop) (w : World) (cs : List Value), (condV m n) R w cs x →
    Calls Tryz.prog 103 #[.agg cs.toArray] w fun e w' => e = .returned (.bool (okC m n x)) ∧ Chg No w w'
set_option maxRecDepth 100000 in
set_option maxHeartbeats 4000000 in
theorem cond15_walk (m n : Nat) (IH : Hid (Cond15Ok m n)) : Cond15Ok m (n + 1) := by
  rintro f R w cs h
  obtain ⟨Ae, cape, B, capk, rfl, i1, he, hk⟩ := cnode_cells h
  have HE := Lib.hid (fun W (hW : Chg No w W) => exprs15_any (he.no (exprE_good m) hW))
  have HKS := Lib.hid (fun W (hW : Chg No w W) => hk.no (condE_good m n) hW)
  have hb1 := he.big
  have hb2 := hk.big
  unfold big at hb1 hb2
  obtain ⟨ans, hans⟩ : ∃ ans, ans = okC m (n + 1) f := ⟨_, rfl⟩
  rw [← hans]
  rw [show okC m (n + 1) f = (cShape (CNode.kind f) (CNode.es f).length (CNode.kids f).length && ((CNode.es f).all (okE m) && (CNode.kids f).all (okC m n))) from rfl] at hans
  have HA := Lib.hid hans
  clear hans h hk he
  generalize (CNode.es f).all (okE m) = al at *
  generalize CNode.kind f = kd at *
  generalize (CNode.es f).length = el at *
  generalize CNode.kids f = ks at *
  obtain ⟨sh, hsh⟩ : ∃ sh, sh = cShape kd el ks.length := ⟨_, rfl⟩
  rw [← hsh] at HA
  have HSH := Lib.hid hsh
  clear hsh
  obtain ⟨w3, hw3⟩ : ∃ w3, w3 = w.alloc (.cells #[.int .i64 kd, .slice Ae el cape, .slice B ks.length capk] 25) := ⟨_, rfl⟩
  have h3 : Hid (Chg No w w3 ∧ w3.heap[w.heap.size]? = some (.cells #[.int .i64 kd, .slice Ae el cape, .slice B ks.length capk] 25 (0, 0))) := by
    rw [hw3]; exact ⟨(Chg.refl _ _).alloc _, heap_alloc_new _ _⟩
  have HO := Lib.hid (fun W (hW : Chg No w3 W) => obj_3 (hW.obj h3.out.2 id))
  go_enter Tryz.func103, Tryz.ntmps103
  go_upto_region 1 with fail
  rw [← hw3]
  clear hw3
  obtain ⟨p0, p1, p2⟩ := HO.out w3 (Chg.refl _ _)
  go_upto_block 0 with fail
  go_cut [3] (fun s3 wx => s3 = .bool sh ∧ Hid (Chg No w3 wx))
  case first =>
    clear HA HE HKS IH
    generalize ks.length = kl at *
    unfold cShape at HSH
    by_cases k0 : kd = 0
    · subst k0
      by_cases ce : el = 0
      · have fe : ((el : Int) == 0) = true := beqT (by omega)
        by_cases ck : kl = 0
        · have fk : ((kl : Int) == 0) = true := beqT (by omega)
          obtain rfl : sh = true := by rw [HSH.out]; simp [*]
          clear HSH ce ck
          go_wp2_with fail
          go_meet
          exact ⟨rfl, Chg.refl _ _⟩
        · have fk : ((kl : Int) == 0) = false := beqF (by omega)
          obtain rfl : sh = false := by rw [HSH.out]; simp [*]
          clear HSH
          go_wp2_with fail
          go_meet
          exact ⟨rfl, Chg.refl _ _⟩
      · have fe : ((el : Int) == 0) = false := beqF (by omega)
        obtain rfl : sh = false := by rw [HSH.out]; simp [*]
        clear HSH
        go_wp2_with fail
        go_meet
        exact ⟨rfl, Chg.refl _ _⟩
    have n0 : (kd == 0) = false := beqF k0
    by_cases k1 : kd = 1
    · subst k1
      by_cases ce : el = 0
      · have fe : ((el : Int) == 0) = true := beqT (by omega)
        by_cases ck : kl = 0
        · have fk : ((kl : Int) == 0) = true := beqT (by omega)
          obtain rfl : sh = true := by rw [HSH.out]; simp [*]
          clear HSH ce ck
          go_wp2_with fail
          go_meet
          exact ⟨rfl, Chg.refl _ _⟩
        · have fk : ((kl : Int) == 0) = false := beqF (by omega)
          obtain rfl : sh = false := by rw [HSH.out]; simp [*]
          clear HSH
          go_wp2_with fail
          go_meet
          exact ⟨rfl, Chg.refl _ _⟩
      · have fe : ((el : Int) == 0) = false := beqF (by omega)
        obtain rfl : sh = false := by rw [HSH.out]; simp [*]
        clear HSH
        go_wp2_with fail
        go_meet
        exact ⟨rfl, Chg.refl _ _⟩
    have n1 : (kd == 1) = false := beqF k1
    by_cases k2 : kd = 2
    · subst k2
      by_cases ce : el = 2
      · have fe : ((el : Int) == 2) = true := beqT (by omega)
        by_cases ck : kl = 0
        · have fk : ((kl : Int) == 0) = true := beqT (by omega)
          obtain rfl : sh = true := by rw [HSH.out]; simp [*]
          clear HSH ce ck
          go_wp2_with fail
          go_meet
          exact ⟨rfl, Chg.refl _ _⟩
        · have fk : ((kl : Int) == 0) = false := beqF (by omega)
          obtain rfl : sh = false := by rw [HSH.out]; simp [*]
          clear HSH
          go_wp2_with fail
          go_meet
          exact ⟨rfl, Chg.refl _ _⟩
      · have fe : ((el : Int) == 2) = false := beqF (by omega)
        obtain rfl : sh = false := by rw [HSH.out]; simp [*]
        clear HSH
        go_wp2_with fail
        go_meet
        exact ⟨rfl, Chg.refl _ _⟩
    have n2 : (kd == 2) = false := beqF k2
    by_cases k3 : kd = 3
    · subst k3
      by_cases ce : el = 2
      · have fe : ((el : Int) == 2) = true := beqT (by omega)
        by_cases ck : kl = 0
        · have fk : ((kl : Int) == 0) = true := beqT (by omega)
          obtain rfl : sh = true := by rw [HSH.out]; simp [*]
          clear HSH ce ck
          go_wp2_with fail
          go_meet
          exact ⟨rfl, Chg.refl _ _⟩
        · have fk : ((kl : Int) == 0) = false := beqF (by omega)
          obtain rfl : sh = false := by rw [HSH.out]; simp [*]
          clear HSH
          go_wp2_with fail
          go_meet
          exact ⟨rfl, Chg.refl _ _⟩
      · have fe : ((el : Int) == 2) = false := beqF (by omega)
        obtain rfl : sh = false := by rw [HSH.out]; simp [*]
        clear HSH
        go_wp2_with fail
        go_meet
        exact ⟨rfl, Chg.refl _ _⟩
    have n3 : (kd == 3) = false := beqF k3
    by_cases k4 : kd = 4
    · subst k4
      by_cases ce : el = 2
      · have fe : ((el : Int) == 2) = true := beqT (by omega)
        by_cases ck : kl = 0
        · have fk : ((kl : Int) == 0) = true := beqT (by omega)
          obtain rfl : sh = true := by rw [HSH.out]; simp [*]
          clear HSH ce ck
          go_wp2_with fail
          go_meet
          exact ⟨rfl, Chg.refl _ _⟩
        · have fk : ((kl : Int) == 0) = false := beqF (by omega)
          obtain rfl : sh = false := by rw [HSH.out]; simp [*]
          clear HSH
          go_wp2_with fail
          go_meet
          exact ⟨rfl, Chg.refl _ _⟩
      · have fe : ((el : Int) == 2) = false := beqF (by omega)
        obtain rfl : sh = false := by rw [HSH.out]; simp [*]
        clear HSH
        go_wp2_with fail
        go_meet
        exact ⟨rfl, Chg.refl _ _⟩
    have n4 : (kd == 4) = false := beqF k4
    by_cases k5 : kd = 5
    · subst k5
      by_cases ce : el = 2
      · have fe : ((el : Int) == 2) = true := beqT (by omega)
        by_cases ck : kl = 0
        · have fk : ((kl : Int) == 0) = true := beqT (by omega)
          obtain rfl : sh = true := by rw [HSH.out]; simp [*]
          clear HSH ce ck
          go_wp2_with fail
          go_meet
          exact ⟨rfl, Chg.refl _ _⟩
        · have fk : ((kl : Int) == 0) = false := beqF (by omega)
          obtain rfl : sh = false := by rw [HSH.out]; simp [*]
          clear HSH
          go_wp2_with fail
          go_meet
          exact ⟨rfl, Chg.refl _ _⟩
      · have fe : ((el : Int) == 2) = false := beqF (by omega)
        obtain rfl : sh = false := by rw [HSH.out]; simp [*]
        clear HSH
        go_wp2_with fail
        go_meet
        exact ⟨rfl, Chg.refl _ _⟩
    have n5 : (kd == 5) = false := beqF k5
    by_cases k6 : kd = 6
    · subst k6
      by_cases ce : el = 0
      · have fe : ((el : Int) == 0) = true := beqT (by omega)
        by_cases ck : kl = 1
        · have fk : ((kl : Int) == 1) = true := beqT (by omega)
          obtain rfl : sh = true := by rw [HSH.out]; simp [*]
          clear HSH ce ck
          go_wp2_with fail
          go_meet
          exact ⟨rfl, Chg.refl _ _⟩
        · have fk : ((kl : Int) == 1) = false := beqF (by omega)
          obtain rfl : sh = false := by rw [HSH.out]; simp [*]
          clear HSH
          go_wp2_with fail
          go_meet
          exact ⟨rfl, Chg.refl _ _⟩
      · have fe : ((el : Int) == 0) = false := beqF (by omega)
        obtain rfl : sh = false := by rw [HSH.out]; simp [*]
        clear HSH
        go_wp2_with fail
        go_meet
        exact ⟨rfl, Chg.refl _ _⟩
    have n6 : (kd == 6) = false := beqF k6
    by_cases k7 : kd = 7
    · subst k7
      by_cases ce : el = 0
      · have fe : ((el : Int) == 0) = true := beqT (by omega)
        by_cases ck : kl = 2
        · have fk : ((kl : Int) == 2) = true := beqT (by omega)
          obtain rfl : sh = true := by rw [HSH.out]; simp [*]
          clear HSH ce ck
          go_wp2_with fail
          go_meet
          exact ⟨rfl, Chg.refl _ _⟩
        · have fk : ((kl : Int) == 2) = false := beqF (by omega)
          obtain rfl : sh = false := by rw [HSH.out]; simp [*]
          clear HSH
          go_wp2_with fail
          go_meet
          exact ⟨rfl, Chg.refl _ _⟩
      · have fe : ((el : Int) == 0) = false := beqF (by omega)
        obtain rfl : sh = false := by rw [HSH.out]; simp [*]
        clear HSH
        go_wp2_with fail
        go_meet
        exact ⟨rfl, Chg.refl _ _⟩
    have n7 : (kd == 7) = false := beqF k7
    by_cases k8 : kd = 8
    · subst k8
      by_cases ce : el = 0
      · have fe : ((el : Int) == 0) = true := beqT (by omega)
        by_cases ck : kl = 2
        · have fk : ((kl : Int) == 2) = true := beqT (by omega)
          obtain rfl : sh = true := by rw [HSH.out]; simp [*]
          clear HSH ce ck
          go_wp2_with fail
          go_meet
          exact ⟨rfl, Chg.refl _ _⟩
        · have fk : ((kl : Int) == 2) = false := beqF (by omega)
          obtain rfl : sh = false := by rw [HSH.out]; simp [*]
          clear HSH
          go_wp2_with fail
          go_meet
          exact ⟨rfl, Chg.refl _ _⟩
      · have fe : ((el : Int) == 0) = false := beqF (by omega)
        obtain rfl : sh = false := by rw [HSH.out]; simp [*]
        clear HSH
        go_wp2_with fail
        go_meet
        exact ⟨rfl, Chg.refl _ _⟩
    have n8 : (kd == 8) = false := beqF k8
    obtain rfl : sh = false := by rw [HSH.out]; simp [*]
    clear HSH
    go_wp2_with fail
    go_meet
    exact ⟨rfl, Chg.refl _ _⟩
  case rest =>
  obtain ⟨rfl, hch0⟩ := hcut
  clear p0 p1 p2 HSH
  go_wp2_with fail
  go_loopw [3, 4] (fun s3 s4 wr => ∃ (i : Nat) (q : Bool), s3 = .bool q ∧ s4 = .int .i64 i ∧ i ≤ ks.length ∧ Hid (q = (sh && (ks.take i).all (okC m n))) ∧ Hid (Chg No w3 wr)) (fun _ s4 _ => ks.length - (intOf s4).toNat)
  case atStart => exact ⟨0, sh, rfl, rfl, Nat.zero_le _, by simp [Hid], hch0.out⟩
  case round =>
    obtain ⟨i, q, rfl, rfl, gi, hq, hch⟩ := hrel
    obtain ⟨p0, p1, p2⟩ := HO.out wr hch.out
    have HF : Hid (q = false → ans = false) := fun h => by
      rw [HA.out]
      have h1 := hq.out
      rw [h] at h1
      have h2 : (sh && ks.all (okC m n)) = false := by
        cases hs : sh with
        | false => rfl
        | true =>
          rw [hs, Bool.true_and] at h1
          cases ha : ks.all (okC m n) with
          | false => rfl
          | true =>
            have : (ks.take i).all (okC m n) = true := List.all_eq_true.2 fun x hx => List.all_eq_true.1 ha x (List.mem_of_mem_take hx)
            rw [this] at h1; cases h1
      revert h2
      cases sh <;> cases ks.all (okC m n) <;> cases al <;> simp
    by_cases hlt : i < ks.length
    · have i0 : (0 : Int) ≤ (i : Int) := by omega
      have i1 : (i : Int) < (ks.length : Int) := by omega
      cases q
      · obtain rfl : ans = false := HF.out rfl
        clear HF hq HA
        go_wp2_with fail
        go_ret
        exact ⟨rfl, h3.out.1.thenNo hch.out⟩
      · obtain ⟨b, o, k0, A0, el0, ce0, B0, l0, d0, rfl, hv, x0, x1, x2⟩ := conds_at (HKS.out wr (h3.out.1.thenNo hch.out)) i hlt
        have HC := Lib.hid (IH.out ks[i] _ wr _ hv)
        have HN : Hid (okC m n ks[i] = (sh && (ks.take (i + 1)).all (okC m n))) := by
          unfold Hid
          rw [List.take_succ_eq_append_getElem hlt, List.all_append, ← Bool.and_assoc, ← hq.out]
          simp
        clear hv hq HF
        generalize okC m n ks[i] = q' at *
        go_wp2_with (go_at_call 103; (with_reducible refine HC.out.mono ?_); rintro e w4 ⟨rfl, h4⟩; have H4 := Lib.hid (hch.out.thenNo h4); clear h4)
        go_roundw
        case rel => exact ⟨i + 1, q', rfl, by go_num, hlt, HN.out, H4.out⟩
        case measure => simp [intOf]; omega
    · obtain rfl : i = ks.length := by omega
      have HQ : Hid (q = (sh && ks.all (okC m n))) := by have := hq.out; rwa [List.take_length] at this
      have HA2 : Hid (ans = (q && al)) := by
        unfold Hid
        rw [HA.out, HQ.out]
        cases sh <;> cases ks.all (okC m n) <;> cases al <;> rfl
      clear hq HF HA HQ
      have HE1 := Lib.hid (HE.out wr (h3.out.1.thenNo hch.out))
      cases q
      · obtain rfl : ans = false := HA2.out
        clear HA2
        go_wp2_with fail
        go_ret
        exact ⟨rfl, h3.out.1.thenNo hch.out⟩
      · obtain rfl : ans = al := by rw [HA2.out]; rfl
        clear HA2
        go_wp2_with (go_at_call 122; (with_reducible refine HE1.out.mono ?_); rintro e w5 ⟨rfl, h5⟩)
        go_ret
        exact ⟨rfl, h3.out.1.thenNo (hch.out.thenNo h5)⟩
theorem cond15_any (m : Nat) : ∀ n, Cond15Ok m n
  | 0 => fun _ _ _ _ h => h.elim
  | n + 1 => cond15_walk m n (Lib.hid (cond15_any m n))
end Go.Proofs.YtgofncopoieigaaGreatDoor
