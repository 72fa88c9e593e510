/-
  show.hasC, show.cond.
-/
import Derived.Test.YtpmndblakmobdaaGreatDoorShE
namespace Go.Proofs.YtpmndblakmobdaaGreatDoor
open Go Go.RowKit

set_option maxRecDepth 100000 in
set_option maxHeartbeats 1000000 in
theorem hasC_any {m n : Nat} {x : CT m n} {R : Nat → Prop} {w : World} {cs : List Value} (h : (condV m n) R w cs x) :
    Calls Tryz.prog 94 #[.agg cs.toArray] w fun e w' => e = .returned (.bool (hasC m n x)) ∧ Chg No w w' := by
  cases n with
  | zero => exact h.elim
  | succ n =>
  obtain ⟨A, cape, B, capk, rfl, i1, he, hk⟩ := cnode_cells h
  have hb1 := he.big
  have hb2 := hk.big
  unfold big at hb1 hb2
  obtain ⟨ans, hans⟩ : ∃ ans, ans = hasC m (n + 1) x := ⟨_, rfl⟩
  rw [← hans]
  rw [show hasC m (n + 1) x = !(decide (CNode.kind x = 0) && decide ((CNode.es x).length = 0) && decide ((CNode.kids x).length = 0)) from rfl] at hans
  have HA := Lib.hid hans
  clear hans h hk he
  generalize CNode.kind x = kd at *
  generalize (CNode.es x).length = el at *
  generalize (CNode.kids x).length = kl at *
  by_cases c1 : kd = 0
  rotate_left
  · obtain rfl : ans = true := by rw [HA.out]; simp [*]
    have f_c1 := neT c1
    clear HA
    go_enter Tryz.func94, Tryz.ntmps94
    go_wp2_with fail
    go_ret
    exact ⟨rfl, (Chg.refl _ _).alloc _⟩
  have f_c1 := neF c1
  by_cases c2 : (0 : Int) < (el : Int) + (kl : Int)
  · obtain rfl : ans = true := by
      rw [HA.out]
      have : el ≠ 0 ∨ kl ≠ 0 := by omega
      rcases this with h | h <;> simp [h]
    clear HA
    go_enter Tryz.func94, Tryz.ntmps94
    go_wp2_with fail
    go_ret
    exact ⟨rfl, (Chg.refl _ _).alloc _⟩
  · obtain rfl : ans = false := by
      rw [HA.out]
      have h1 : el = 0 := by omega
      have h2 : kl = 0 := by omega
      simp [*]
    clear HA
    go_enter Tryz.func94, Tryz.ntmps94
    go_wp2_with fail
    go_ret
    exact ⟨rfl, (Chg.refl _ _).alloc _⟩

def CondOk (m n : Nat) : Prop := ∀ (x : CT m n) (R : Nat → Prop) (w : World) (cs : List Value), Keys w → (condV m n) R w cs x →
    Calls Tryz.prog 93 #[.agg cs.toArray] w fun e w' => e = .returned (.bool (okC m n x)) ∧ Chg No w w'
set_option maxRecDepth 10000 in
theorem entered_cond1 : Entered 113 := fun _ _ => rfl
theorem conds_of {m n : Nat} (IH : Hid (CondOk m n)) {R : Nat → Prop} {w : World} {A : Option Addr} {l : List (CT m n)} {cap : Nat} (hK : Keys w) (hl : Conds R w A l cap) :
    Calls Tryz.prog 102 #[.slice A l.length cap, .func (.func 113) #[] #[]] w fun e w' => e = .returned (.bool (!l.all (okC m n))) ∧ Chg No w w' := by
  have HCF := containsFunc_cond0 (condV_sz m n) (condV_good m n) hl 113 entered_cond1 (fun k => !okC m n k) (fun W hW i hi cs hcs => by
    have HI := Lib.hid (fun W' (hW' : Chg No W W') => IH.out _ _ W' cs ((hK.no hW).no hW') ((condV_good m n).no hcs hW'))
    obtain ⟨k1, A1, el1, cape1, B1, kl1, capk1, rfl⟩ := cond_shape hcs
    generalize okC m n l[i] = dd at *
    clear hcs hl hK
    go_enter Tryz.func113, Tryz.ntmps113
    go_wp2_with (go_at_call 93; refine (HI.out _ ((Chg.refl _ _).alloc _)).mono ?_; rintro e w1 ⟨rfl, h1⟩)
    go_ret
    exact ⟨rfl, ((Chg.refl _ _).alloc _).thenNo h1⟩)
  rw [any_not] at HCF
  exact HCF

set_option maxRecDepth 100000 in
set_option maxHeartbeats 4000000 in
theorem cond_walk (m n : Nat) (IH : Hid (CondOk m n)) : CondOk m (n + 1) := by
    rintro f R w cs hK h
    obtain ⟨A, cape, B, capk, rfl, i1, he, hk⟩ := cnode_cells h
    have HE := Lib.hid (fun W (hW : Chg No w W) => exprs_any (hK.no hW) (he.no (exprE_good m) hW))
    have HC := Lib.hid (fun W (hW : Chg No w W) => conds_of IH (hK.no hW) (hk.no (condE_good m n) hW))
    have hb1 := he.big
    have hb2 := hk.big
    unfold big at hb1 hb2
    obtain ⟨ans, hans⟩ : ∃ ans, ans = okC m (n + 1) f := ⟨_, rfl⟩
    rw [← hans]
    rw [show okC m (n + 1) f = (cShape (CNode.kind f) (CNode.es f).length (CNode.kids f).length && ((CNode.es f).all (okE m) && (CNode.kids f).all (okC m n))) from rfl] at hans
    have HA := Lib.hid hans
    clear hans h hk he hK IH
    unfold cShape at HA
    generalize (CNode.es f).all (okE m) = ea at *
    generalize (CNode.kids f).all (okC m n) = ka at *
    generalize CNode.kind f = kd at *
    generalize (CNode.es f).length = el at *
    generalize (CNode.kids f).length = kl at *
    obtain ⟨w3, hw3⟩ : ∃ w3, w3 = w.alloc (.cells #[.int .i64 kd, .slice A el cape, .slice B kl capk] 56) := ⟨_, rfl⟩
    have h3 : Hid (Chg No w w3 ∧ w3.heap[w.heap.size]? = some (.cells #[.int .i64 kd, .slice A el cape, .slice B kl capk] 56 (0, 0))) := by
      rw [hw3]; exact ⟨(Chg.refl _ _).alloc _, heap_alloc_new _ _⟩
    go_enter Tryz.func93, Tryz.ntmps93
    go_upto_region 1 with fail
    rw [← hw3]
    clear hw3
    obtain ⟨p0, p1, p2⟩ := obj_3 h3.out.2
    by_cases k0 : kd = 0
    · subst k0
      by_cases ce : el = 0
      rotate_left
      · have f_ce := (beqF (by omega) : ((el : Int) == 0) = false)
        obtain rfl : ans = false := by rw [HA.out]; simp [*]
        clear HA HE HC
        go_wp2_with fail
        go_ret
        exact ⟨rfl, h3.out.1⟩
      have f_ce := (beqT (by omega) : ((el : Int) == 0) = true)
      by_cases ck : kl = 0
      rotate_left
      · have f_ck := (beqF (by omega) : ((kl : Int) == 0) = false)
        obtain rfl : ans = false := by rw [HA.out]; simp [*]
        clear HA HE HC ce
        go_wp2_with fail
        go_ret
        exact ⟨rfl, h3.out.1⟩
      have f_ck := (beqT (by omega) : ((kl : Int) == 0) = true)
      cases ea
      · obtain rfl : ans = false := by rw [HA.out]; simp [*]
        clear HA HC ce ck
        go_wp2_with (go_at_call 112; refine (HE.out _ h3.out.1).mono ?_; rintro e w4 ⟨rfl, h4⟩; have H4 := Lib.hid (h3.out.1.thenNo h4); clear p0 p1 p2; obtain ⟨p0, p1, p2⟩ := obj_3 (h4.obj h3.out.2 id); clear h4)
        go_ret
        exact ⟨rfl, H4.out⟩
      · obtain rfl : ans = ka := by rw [HA.out]; simp [*]
        clear HA ce ck
        go_wp2_with (first | (go_at_call 112; refine (HE.out _ h3.out.1).mono ?_; rintro e w4 ⟨rfl, h4⟩; have H4 := Lib.hid (h3.out.1.thenNo h4); clear p0 p1 p2; obtain ⟨p0, p1, p2⟩ := obj_3 (h4.obj h3.out.2 id); clear h4) | (go_at_call 102; refine (HC.out _ H4.out).mono ?_; rintro e w5 ⟨rfl, h5⟩))
        go_ret
        exact ⟨by simp, H4.out.thenNo h5⟩
    have n0 : (kd == 0) = false := beqF k0
    by_cases k1 : kd = 1
    · subst k1
      by_cases ce : el = 0
      rotate_left
      · have f_ce := (beqF (by omega) : ((el : Int) == 0) = false)
        obtain rfl : ans = false := by rw [HA.out]; simp [*]
        clear HA HE HC
        go_wp2_with fail
        go_ret
        exact ⟨rfl, h3.out.1⟩
      have f_ce := (beqT (by omega) : ((el : Int) == 0) = true)
      by_cases ck : kl = 0
      rotate_left
      · have f_ck := (beqF (by omega) : ((kl : Int) == 0) = false)
        obtain rfl : ans = false := by rw [HA.out]; simp [*]
        clear HA HE HC ce
        go_wp2_with fail
        go_ret
        exact ⟨rfl, h3.out.1⟩
      have f_ck := (beqT (by omega) : ((kl : Int) == 0) = true)
      cases ea
      · obtain rfl : ans = false := by rw [HA.out]; simp [*]
        clear HA HC ce ck
        go_wp2_with (go_at_call 112; refine (HE.out _ h3.out.1).mono ?_; rintro e w4 ⟨rfl, h4⟩; have H4 := Lib.hid (h3.out.1.thenNo h4); clear p0 p1 p2; obtain ⟨p0, p1, p2⟩ := obj_3 (h4.obj h3.out.2 id); clear h4)
        go_ret
        exact ⟨rfl, H4.out⟩
      · obtain rfl : ans = ka := by rw [HA.out]; simp [*]
        clear HA ce ck
        go_wp2_with (first | (go_at_call 112; refine (HE.out _ h3.out.1).mono ?_; rintro e w4 ⟨rfl, h4⟩; have H4 := Lib.hid (h3.out.1.thenNo h4); clear p0 p1 p2; obtain ⟨p0, p1, p2⟩ := obj_3 (h4.obj h3.out.2 id); clear h4) | (go_at_call 102; refine (HC.out _ H4.out).mono ?_; rintro e w5 ⟨rfl, h5⟩))
        go_ret
        exact ⟨by simp, H4.out.thenNo h5⟩
    have n1 : (kd == 1) = false := beqF k1
    by_cases k2 : kd = 2
    · subst k2
      by_cases ce : el = 2
      rotate_left
      · have f_ce := (beqF (by omega) : ((el : Int) == 2) = false)
        obtain rfl : ans = false := by rw [HA.out]; simp [*]
        clear HA HE HC
        go_wp2_with fail
        go_ret
        exact ⟨rfl, h3.out.1⟩
      have f_ce := (beqT (by omega) : ((el : Int) == 2) = true)
      by_cases ck : kl = 0
      rotate_left
      · have f_ck := (beqF (by omega) : ((kl : Int) == 0) = false)
        obtain rfl : ans = false := by rw [HA.out]; simp [*]
        clear HA HE HC ce
        go_wp2_with fail
        go_ret
        exact ⟨rfl, h3.out.1⟩
      have f_ck := (beqT (by omega) : ((kl : Int) == 0) = true)
      cases ea
      · obtain rfl : ans = false := by rw [HA.out]; simp [*]
        clear HA HC ce ck
        go_wp2_with (go_at_call 112; refine (HE.out _ h3.out.1).mono ?_; rintro e w4 ⟨rfl, h4⟩; have H4 := Lib.hid (h3.out.1.thenNo h4); clear p0 p1 p2; obtain ⟨p0, p1, p2⟩ := obj_3 (h4.obj h3.out.2 id); clear h4)
        go_ret
        exact ⟨rfl, H4.out⟩
      · obtain rfl : ans = ka := by rw [HA.out]; simp [*]
        clear HA ce ck
        go_wp2_with (first | (go_at_call 112; refine (HE.out _ h3.out.1).mono ?_; rintro e w4 ⟨rfl, h4⟩; have H4 := Lib.hid (h3.out.1.thenNo h4); clear p0 p1 p2; obtain ⟨p0, p1, p2⟩ := obj_3 (h4.obj h3.out.2 id); clear h4) | (go_at_call 102; refine (HC.out _ H4.out).mono ?_; rintro e w5 ⟨rfl, h5⟩))
        go_ret
        exact ⟨by simp, H4.out.thenNo h5⟩
    have n2 : (kd == 2) = false := beqF k2
    by_cases k3 : kd = 3
    · subst k3
      by_cases ce : el = 2
      rotate_left
      · have f_ce := (beqF (by omega) : ((el : Int) == 2) = false)
        obtain rfl : ans = false := by rw [HA.out]; simp [*]
        clear HA HE HC
        go_wp2_with fail
        go_ret
        exact ⟨rfl, h3.out.1⟩
      have f_ce := (beqT (by omega) : ((el : Int) == 2) = true)
      by_cases ck : kl = 0
      rotate_left
      · have f_ck := (beqF (by omega) : ((kl : Int) == 0) = false)
        obtain rfl : ans = false := by rw [HA.out]; simp [*]
        clear HA HE HC ce
        go_wp2_with fail
        go_ret
        exact ⟨rfl, h3.out.1⟩
      have f_ck := (beqT (by omega) : ((kl : Int) == 0) = true)
      cases ea
      · obtain rfl : ans = false := by rw [HA.out]; simp [*]
        clear HA HC ce ck
        go_wp2_with (go_at_call 112; refine (HE.out _ h3.out.1).mono ?_; rintro e w4 ⟨rfl, h4⟩; have H4 := Lib.hid (h3.out.1.thenNo h4); clear p0 p1 p2; obtain ⟨p0, p1, p2⟩ := obj_3 (h4.obj h3.out.2 id); clear h4)
        go_ret
        exact ⟨rfl, H4.out⟩
      · obtain rfl : ans = ka := by rw [HA.out]; simp [*]
        clear HA ce ck
        go_wp2_with (first | (go_at_call 112; refine (HE.out _ h3.out.1).mono ?_; rintro e w4 ⟨rfl, h4⟩; have H4 := Lib.hid (h3.out.1.thenNo h4); clear p0 p1 p2; obtain ⟨p0, p1, p2⟩ := obj_3 (h4.obj h3.out.2 id); clear h4) | (go_at_call 102; refine (HC.out _ H4.out).mono ?_; rintro e w5 ⟨rfl, h5⟩))
        go_ret
        exact ⟨by simp, H4.out.thenNo h5⟩
    have n3 : (kd == 3) = false := beqF k3
    by_cases k4 : kd = 4
    · subst k4
      by_cases ce : el = 2
      rotate_left
      · have f_ce := (beqF (by omega) : ((el : Int) == 2) = false)
        obtain rfl : ans = false := by rw [HA.out]; simp [*]
        clear HA HE HC
        go_wp2_with fail
        go_ret
        exact ⟨rfl, h3.out.1⟩
      have f_ce := (beqT (by omega) : ((el : Int) == 2) = true)
      by_cases ck : kl = 0
      rotate_left
      · have f_ck := (beqF (by omega) : ((kl : Int) == 0) = false)
        obtain rfl : ans = false := by rw [HA.out]; simp [*]
        clear HA HE HC ce
        go_wp2_with fail
        go_ret
        exact ⟨rfl, h3.out.1⟩
      have f_ck := (beqT (by omega) : ((kl : Int) == 0) = true)
      cases ea
      · obtain rfl : ans = false := by rw [HA.out]; simp [*]
        clear HA HC ce ck
        go_wp2_with (go_at_call 112; refine (HE.out _ h3.out.1).mono ?_; rintro e w4 ⟨rfl, h4⟩; have H4 := Lib.hid (h3.out.1.thenNo h4); clear p0 p1 p2; obtain ⟨p0, p1, p2⟩ := obj_3 (h4.obj h3.out.2 id); clear h4)
        go_ret
        exact ⟨rfl, H4.out⟩
      · obtain rfl : ans = ka := by rw [HA.out]; simp [*]
        clear HA ce ck
        go_wp2_with (first | (go_at_call 112; refine (HE.out _ h3.out.1).mono ?_; rintro e w4 ⟨rfl, h4⟩; have H4 := Lib.hid (h3.out.1.thenNo h4); clear p0 p1 p2; obtain ⟨p0, p1, p2⟩ := obj_3 (h4.obj h3.out.2 id); clear h4) | (go_at_call 102; refine (HC.out _ H4.out).mono ?_; rintro e w5 ⟨rfl, h5⟩))
        go_ret
        exact ⟨by simp, H4.out.thenNo h5⟩
    have n4 : (kd == 4) = false := beqF k4
    by_cases k5 : kd = 5
    · subst k5
      by_cases ce : el = 2
      rotate_left
      · have f_ce := (beqF (by omega) : ((el : Int) == 2) = false)
        obtain rfl : ans = false := by rw [HA.out]; simp [*]
        clear HA HE HC
        go_wp2_with fail
        go_ret
        exact ⟨rfl, h3.out.1⟩
      have f_ce := (beqT (by omega) : ((el : Int) == 2) = true)
      by_cases ck : kl = 0
      rotate_left
      · have f_ck := (beqF (by omega) : ((kl : Int) == 0) = false)
        obtain rfl : ans = false := by rw [HA.out]; simp [*]
        clear HA HE HC ce
        go_wp2_with fail
        go_ret
        exact ⟨rfl, h3.out.1⟩
      have f_ck := (beqT (by omega) : ((kl : Int) == 0) = true)
      cases ea
      · obtain rfl : ans = false := by rw [HA.out]; simp [*]
        clear HA HC ce ck
        go_wp2_with (go_at_call 112; refine (HE.out _ h3.out.1).mono ?_; rintro e w4 ⟨rfl, h4⟩; have H4 := Lib.hid (h3.out.1.thenNo h4); clear p0 p1 p2; obtain ⟨p0, p1, p2⟩ := obj_3 (h4.obj h3.out.2 id); clear h4)
        go_ret
        exact ⟨rfl, H4.out⟩
      · obtain rfl : ans = ka := by rw [HA.out]; simp [*]
        clear HA ce ck
        go_wp2_with (first | (go_at_call 112; refine (HE.out _ h3.out.1).mono ?_; rintro e w4 ⟨rfl, h4⟩; have H4 := Lib.hid (h3.out.1.thenNo h4); clear p0 p1 p2; obtain ⟨p0, p1, p2⟩ := obj_3 (h4.obj h3.out.2 id); clear h4) | (go_at_call 102; refine (HC.out _ H4.out).mono ?_; rintro e w5 ⟨rfl, h5⟩))
        go_ret
        exact ⟨by simp, H4.out.thenNo h5⟩
    have n5 : (kd == 5) = false := beqF k5
    by_cases k6 : kd = 6
    · subst k6
      by_cases ce : el = 0
      rotate_left
      · have f_ce := (beqF (by omega) : ((el : Int) == 0) = false)
        obtain rfl : ans = false := by rw [HA.out]; simp [*]
        clear HA HE HC
        go_wp2_with fail
        go_ret
        exact ⟨rfl, h3.out.1⟩
      have f_ce := (beqT (by omega) : ((el : Int) == 0) = true)
      by_cases ck : kl = 1
      rotate_left
      · have f_ck := (beqF (by omega) : ((kl : Int) == 1) = false)
        obtain rfl : ans = false := by rw [HA.out]; simp [*]
        clear HA HE HC ce
        go_wp2_with fail
        go_ret
        exact ⟨rfl, h3.out.1⟩
      have f_ck := (beqT (by omega) : ((kl : Int) == 1) = true)
      cases ea
      · obtain rfl : ans = false := by rw [HA.out]; simp [*]
        clear HA HC ce ck
        go_wp2_with (go_at_call 112; refine (HE.out _ h3.out.1).mono ?_; rintro e w4 ⟨rfl, h4⟩; have H4 := Lib.hid (h3.out.1.thenNo h4); clear p0 p1 p2; obtain ⟨p0, p1, p2⟩ := obj_3 (h4.obj h3.out.2 id); clear h4)
        go_ret
        exact ⟨rfl, H4.out⟩
      · obtain rfl : ans = ka := by rw [HA.out]; simp [*]
        clear HA ce ck
        go_wp2_with (first | (go_at_call 112; refine (HE.out _ h3.out.1).mono ?_; rintro e w4 ⟨rfl, h4⟩; have H4 := Lib.hid (h3.out.1.thenNo h4); clear p0 p1 p2; obtain ⟨p0, p1, p2⟩ := obj_3 (h4.obj h3.out.2 id); clear h4) | (go_at_call 102; refine (HC.out _ H4.out).mono ?_; rintro e w5 ⟨rfl, h5⟩))
        go_ret
        exact ⟨by simp, H4.out.thenNo h5⟩
    have n6 : (kd == 6) = false := beqF k6
    by_cases k7 : kd = 7
    · subst k7
      by_cases ce : el = 0
      rotate_left
      · have f_ce := (beqF (by omega) : ((el : Int) == 0) = false)
        obtain rfl : ans = false := by rw [HA.out]; simp [*]
        clear HA HE HC
        go_wp2_with fail
        go_ret
        exact ⟨rfl, h3.out.1⟩
      have f_ce := (beqT (by omega) : ((el : Int) == 0) = true)
      by_cases ck : kl = 2
      rotate_left
      · have f_ck := (beqF (by omega) : ((kl : Int) == 2) = false)
        obtain rfl : ans = false := by rw [HA.out]; simp [*]
        clear HA HE HC ce
        go_wp2_with fail
        go_ret
        exact ⟨rfl, h3.out.1⟩
      have f_ck := (beqT (by omega) : ((kl : Int) == 2) = true)
      cases ea
      · obtain rfl : ans = false := by rw [HA.out]; simp [*]
        clear HA HC ce ck
        go_wp2_with (go_at_call 112; refine (HE.out _ h3.out.1).mono ?_; rintro e w4 ⟨rfl, h4⟩; have H4 := Lib.hid (h3.out.1.thenNo h4); clear p0 p1 p2; obtain ⟨p0, p1, p2⟩ := obj_3 (h4.obj h3.out.2 id); clear h4)
        go_ret
        exact ⟨rfl, H4.out⟩
      · obtain rfl : ans = ka := by rw [HA.out]; simp [*]
        clear HA ce ck
        go_wp2_with (first | (go_at_call 112; refine (HE.out _ h3.out.1).mono ?_; rintro e w4 ⟨rfl, h4⟩; have H4 := Lib.hid (h3.out.1.thenNo h4); clear p0 p1 p2; obtain ⟨p0, p1, p2⟩ := obj_3 (h4.obj h3.out.2 id); clear h4) | (go_at_call 102; refine (HC.out _ H4.out).mono ?_; rintro e w5 ⟨rfl, h5⟩))
        go_ret
        exact ⟨by simp, H4.out.thenNo h5⟩
    have n7 : (kd == 7) = false := beqF k7
    by_cases k8 : kd = 8
    · subst k8
      by_cases ce : el = 0
      rotate_left
      · have f_ce := (beqF (by omega) : ((el : Int) == 0) = false)
        obtain rfl : ans = false := by rw [HA.out]; simp [*]
        clear HA HE HC
        go_wp2_with fail
        go_ret
        exact ⟨rfl, h3.out.1⟩
      have f_ce := (beqT (by omega) : ((el : Int) == 0) = true)
      by_cases ck : kl = 2
      rotate_left
      · have f_ck := (beqF (by omega) : ((kl : Int) == 2) = false)
        obtain rfl : ans = false := by rw [HA.out]; simp [*]
        clear HA HE HC ce
        go_wp2_with fail
        go_ret
        exact ⟨rfl, h3.out.1⟩
      have f_ck := (beqT (by omega) : ((kl : Int) == 2) = true)
      cases ea
      · obtain rfl : ans = false := by rw [HA.out]; simp [*]
        clear HA HC ce ck
        go_wp2_with (go_at_call 112; refine (HE.out _ h3.out.1).mono ?_; rintro e w4 ⟨rfl, h4⟩; have H4 := Lib.hid (h3.out.1.thenNo h4); clear p0 p1 p2; obtain ⟨p0, p1, p2⟩ := obj_3 (h4.obj h3.out.2 id); clear h4)
        go_ret
        exact ⟨rfl, H4.out⟩
      · obtain rfl : ans = ka := by rw [HA.out]; simp [*]
        clear HA ce ck
        go_wp2_with (first | (go_at_call 112; refine (HE.out _ h3.out.1).mono ?_; rintro e w4 ⟨rfl, h4⟩; have H4 := Lib.hid (h3.out.1.thenNo h4); clear p0 p1 p2; obtain ⟨p0, p1, p2⟩ := obj_3 (h4.obj h3.out.2 id); clear h4) | (go_at_call 102; refine (HC.out _ H4.out).mono ?_; rintro e w5 ⟨rfl, h5⟩))
        go_ret
        exact ⟨by simp, H4.out.thenNo h5⟩
    have n8 : (kd == 8) = false := beqF k8
    obtain rfl : ans = false := by rw [HA.out]; simp [*]
    clear HA HE HC
    go_wp2_with fail
    go_ret
    exact ⟨rfl, h3.out.1⟩
theorem cond_any (m : Nat) : ∀ n, CondOk m n
  | 0 => fun _ _ _ _ _ h => h.elim
  | n + 1 => cond_walk m n (Lib.hid (cond_any m n))
end Go.Proofs.YtpmndblakmobdaaGreatDoor
