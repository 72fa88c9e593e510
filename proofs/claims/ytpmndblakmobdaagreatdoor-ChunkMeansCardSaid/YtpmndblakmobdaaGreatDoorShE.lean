/-
  show.hasE, show.expr, show.exprs.
-/
import Derived.Test.YtpmndblakmobdaaGreatDoorMB
import Derived.Test.YtpmndblakmobdaaGreatDoorShN
namespace Go.Proofs.YtpmndblakmobdaaGreatDoor
open Go Go.RowKit

theorem any_not {α : Type} (p : α → Bool) (l : List α) : l.any (fun k => !p k) = !l.all p := by
  induction l with
  | nil => rfl
  | cons k ks ih => simp only [List.any_cons, List.all_cons, ih, Bool.not_and]
theorem beqF {a b : Int} (h : a ≠ b) : (a == b) = false := by simp [h]
theorem beqT {a b : Int} (h : a = b) : (a == b) = true := by simp [h]
theorem neT {a b : Int} (h : a ≠ b) : (a != b) = true := by simp [h]
theorem neF {a b : Int} (h : a = b) : (a != b) = false := by simp [h]

set_option maxRecDepth 100000 in
set_option maxHeartbeats 1000000 in
theorem hasE_any {n : Nat} {x : ET n} {R : Nat → Prop} {w : World} {cs : List Value} (h : (exprV n) R w cs x) :
    Calls Tryz.prog 96 #[.agg cs.toArray] w fun e w' => e = .returned (.bool (hasE n x)) ∧ Chg No w w' := by
  cases n with
  | zero => exact h.elim
  | succ n =>
  obtain ⟨B, capk, rfl, i1, i2, hm, hk⟩ := enode_cells h
  have hb2 := hk.big
  unfold big at hb2
  obtain ⟨ans, hans⟩ : ∃ ans, ans = hasE (n + 1) x := ⟨_, rfl⟩
  rw [← hans]
  rw [show hasE (n + 1) x = !(decide (ENode.kind x = 0) && decide (ENode.num x = 0) && (ENode.name x).toList.isEmpty && decide ((ENode.kids x).length = 0)) from rfl] at hans
  have HA := Lib.hid hans
  clear hans h hk
  generalize ENode.kind x = kd at *
  generalize ENode.num x = num at *
  generalize ENode.name x = name at *
  generalize (ENode.kids x).length = kl at *
  by_cases c1 : kd = 0
  rotate_left
  · obtain rfl : ans = true := by rw [HA.out]; simp [*]
    have f_c1 := neT c1
    clear HA
    go_enter Tryz.func96, Tryz.ntmps96
    go_wp2_with fail
    go_ret
    exact ⟨rfl, (Chg.refl _ _).alloc _⟩
  have f_c1 := neF c1
  by_cases c2 : num = 0
  rotate_left
  · obtain rfl : ans = true := by rw [HA.out]; simp [*]
    have f_c2 := neT c2
    clear HA
    go_enter Tryz.func96, Tryz.ntmps96
    go_wp2_with fail
    go_ret
    exact ⟨rfl, (Chg.refl _ _).alloc _⟩
  have f_c2 := neF c2
  by_cases c3 : name.toList.isEmpty = true
  rotate_left
  · obtain rfl : ans = true := by rw [HA.out]; simp [*]
    have f_c3 := c3
    clear HA
    go_enter Tryz.func96, Tryz.ntmps96
    go_wp2_with fail
    go_ret
    exact ⟨rfl, (Chg.refl _ _).alloc _⟩
  have f_c3 := c3
  obtain rfl : ans = decide (0 < kl) := by
    rw [HA.out]
    by_cases c4 : kl = 0
    · simp [*]
    · have : 0 < kl := by omega
      simp [*]
  clear HA
  go_enter Tryz.func96, Tryz.ntmps96
  go_wp2_with fail
  go_ret
  exact ⟨rfl, (Chg.refl _ _).alloc _⟩

def ExprOk (n : Nat) : Prop := ∀ (x : ET n) (R : Nat → Prop) (w : World) (cs : List Value), Keys w → (exprV n) R w cs x →
    Calls Tryz.prog 95 #[.agg cs.toArray] w fun e w' => e = .returned (.bool (okE n x)) ∧ Chg No w w'
set_option maxRecDepth 10000 in
theorem entered_exprs1 : Entered 121 := fun _ _ => rfl
set_option maxRecDepth 100000 in
set_option maxHeartbeats 1000000 in
theorem exprs_of {n : Nat} (IH : Hid (ExprOk n)) {R : Nat → Prop} {w : World} {A : Option Addr} {l : List (ET n)} {cap : Nat} (hK : Keys w) (hl : Exprs R w A l cap) :
    Calls Tryz.prog 112 #[.slice A l.length cap] w fun e w' => e = .returned (.bool (l.all (okE n))) ∧ Chg No w w' := by
  have HCF := Lib.hid (containsFunc_expr0 (exprV_sz n) (exprV_good n) hl 121 entered_exprs1 (fun k => !okE n k) (fun W hW i hi cs hcs => by
    have HI := Lib.hid (fun W' (hW' : Chg No W W') => IH.out _ _ W' cs ((hK.no hW).no hW') ((exprV_good n).no hcs hW'))
    obtain ⟨k1, m1, s1, B1, kl1, capk1, rfl⟩ := expr_shape hcs
    generalize okE n l[i] = dd at *
    clear hcs hl hK
    go_enter Tryz.func121, Tryz.ntmps121
    go_wp2_with (go_at_call 95; refine (HI.out _ ((Chg.refl _ _).alloc _)).mono ?_; rintro e w1 ⟨rfl, h1⟩)
    go_ret
    exact ⟨rfl, ((Chg.refl _ _).alloc _).thenNo h1⟩))
  rw [any_not] at HCF
  generalize l.all (okE n) = al at *
  clear hl hK
  go_enter Tryz.func112, Tryz.ntmps112
  go_wp2_with (go_at_call 104; refine HCF.out.mono ?_; rintro e w1 ⟨rfl, h1⟩)
  go_ret
  exact ⟨by simp, h1⟩

set_option maxRecDepth 100000 in
set_option maxHeartbeats 4000000 in
theorem expr_walk (n : Nat) (IH : Hid (ExprOk n)) : ExprOk (n + 1) := by
    rintro f R w cs hK h
    obtain ⟨B, capk, rfl, i1, i2, hm, hk⟩ := enode_cells h
    have HE := Lib.hid (fun W (hW : Chg No w W) => exprs_of IH (hK.no hW) (hk.no (exprE_good n) hW))
    have HN := Lib.hid (fun W (hW : Chg No w W) => name_any (ENode.name f) hm (hK.no hW))
    have hb2 := hk.big
    unfold big at hb2
    obtain ⟨ans, hans⟩ : ∃ ans, ans = okE (n + 1) f := ⟨_, rfl⟩
    rw [← hans]
    rw [show okE (n + 1) f = (eShape (ENode.kind f) (ENode.num f) (ENode.name f) (ENode.kids f).length && (ENode.kids f).all (okE n)) from rfl] at hans
    have HA := Lib.hid hans
    clear hans h hk hK IH hm
    unfold eShape at HA
    generalize (ENode.kids f).all (okE n) = al at *
    generalize ENode.kind f = kd at *
    generalize ENode.num f = num at *
    generalize ENode.name f = name at *
    generalize (ENode.kids f).length = kl at *
    generalize nameB name = nb at *
    obtain ⟨w3, hw3⟩ : ∃ w3, w3 = w.alloc (.cells #[.int .i64 kd, .int .i64 num, .string name, .slice B kl capk] 53) := ⟨_, rfl⟩
    have h3 : Hid (Chg No w w3 ∧ w3.heap[w.heap.size]? = some (.cells #[.int .i64 kd, .int .i64 num, .string name, .slice B kl capk] 53 (0, 0))) := by
      rw [hw3]; exact ⟨(Chg.refl _ _).alloc _, heap_alloc_new _ _⟩
    obtain ⟨cb, hcb⟩ : ∃ cb, cb = coefS num := ⟨_, rfl⟩
    have HCB := Lib.hid hcb
    rw [← hcb] at HA
    clear hcb
    go_enter Tryz.func95, Tryz.ntmps95
    go_upto_region 1 with fail
    go_cut [3] (fun s3 wx => s3 = .bool cb ∧ wx = w3)
    case first =>
      clear HA HE HN
      by_cases g1 : -1073741824 ≤ num
      · by_cases g2 : num ≤ 1073741824
        · go_wp2_with fail
          go_meet
          exact ⟨by rw [HCB.out]; simp [coefS, g1, g2], hw3.symm⟩
        · go_wp2_with fail
          go_meet
          exact ⟨by rw [HCB.out]; simp [coefS, g2], hw3.symm⟩
      · go_wp2_with fail
        go_meet
        exact ⟨by rw [HCB.out]; simp [coefS]; omega, hw3.symm⟩
    case rest =>
    obtain ⟨rfl, rfl⟩ := hcut
    clear hw3 HCB
    obtain ⟨p0, p1, p2, p3⟩ := obj_4 h3.out.2
    by_cases k0 : kd = 0
    · subst k0
      clear HN
      cases cb
      · obtain rfl : ans = false := by rw [HA.out]; simp [*]
        clear HA HE
        go_wp2_with fail
        go_ret
        exact ⟨rfl, h3.out.1⟩
      by_cases ce : name.toList.isEmpty = true
      rotate_left
      · have f_ce := ce
        obtain rfl : ans = false := by rw [HA.out]; simp [*]
        clear HA HE
        go_wp2_with fail
        go_ret
        exact ⟨rfl, h3.out.1⟩
      have f_ce := ce
      by_cases cz : kl = 0
      rotate_left
      · have f_cz := (beqF (by omega) : ((kl : Int) == 0) = false)
        obtain rfl : ans = false := by rw [HA.out]; simp [*]
        clear HA HE
        go_wp2_with fail
        go_ret
        exact ⟨rfl, h3.out.1⟩
      have f_cz := (beqT (by omega) : ((kl : Int) == 0) = true)
      obtain rfl : ans = al := by rw [HA.out]; simp [*]
      clear HA cz
      go_wp2_with (go_at_call 112; refine (HE.out _ h3.out.1).mono ?_; rintro e w5 ⟨rfl, h5⟩)
      go_ret
      exact ⟨rfl, h3.out.1.thenNo h5⟩
    have n0 : (kd == 0) = false := beqF k0
    by_cases k1 : kd = 1
    · subst k1
      cases nb
      · obtain rfl : ans = false := by rw [HA.out]; simp [*]
        clear HA HE
        go_wp2_with (go_at_call 71; refine (HN.out _ h3.out.1).mono ?_; rintro e w4 ⟨rfl, h4⟩; have H4 := Lib.hid (h3.out.1.thenNo h4); clear p0 p1 p2 p3; obtain ⟨p0, p1, p2, p3⟩ := obj_4 (h4.obj h3.out.2 id); clear h4)
        go_ret
        exact ⟨rfl, H4.out⟩
      by_cases cn : num = 0
      rotate_left
      · have f_cn := beqF cn
        obtain rfl : ans = false := by rw [HA.out]; simp [*]
        clear HA HE
        go_wp2_with (go_at_call 71; refine (HN.out _ h3.out.1).mono ?_; rintro e w4 ⟨rfl, h4⟩; have H4 := Lib.hid (h3.out.1.thenNo h4); clear p0 p1 p2 p3; obtain ⟨p0, p1, p2, p3⟩ := obj_4 (h4.obj h3.out.2 id); clear h4)
        go_ret
        exact ⟨rfl, H4.out⟩
      have f_cn := beqT cn
      by_cases cz : kl = 0
      rotate_left
      · have f_cz := (beqF (by omega) : ((kl : Int) == 0) = false)
        obtain rfl : ans = false := by rw [HA.out]; simp [*]
        clear HA HE
        go_wp2_with (go_at_call 71; refine (HN.out _ h3.out.1).mono ?_; rintro e w4 ⟨rfl, h4⟩; have H4 := Lib.hid (h3.out.1.thenNo h4); clear p0 p1 p2 p3; obtain ⟨p0, p1, p2, p3⟩ := obj_4 (h4.obj h3.out.2 id); clear h4)
        go_ret
        exact ⟨rfl, H4.out⟩
      have f_cz := (beqT (by omega) : ((kl : Int) == 0) = true)
      obtain rfl : ans = al := by rw [HA.out]; simp [*]
      clear HA cn cz
      go_wp2_with (first | (go_at_call 71; refine (HN.out _ h3.out.1).mono ?_; rintro e w4 ⟨rfl, h4⟩; have H4 := Lib.hid (h3.out.1.thenNo h4); clear p0 p1 p2 p3; obtain ⟨p0, p1, p2, p3⟩ := obj_4 (h4.obj h3.out.2 id); clear h4) | (go_at_call 112; refine (HE.out _ H4.out).mono ?_; rintro e w5 ⟨rfl, h5⟩))
      go_ret
      exact ⟨rfl, H4.out.thenNo h5⟩
    have n1 : (kd == 1) = false := beqF k1
    by_cases k2 : kd = 2
    · subst k2
      clear HN
      by_cases ce : name.toList.isEmpty = true
      rotate_left
      · have f_ce := ce
        obtain rfl : ans = false := by rw [HA.out]; simp [*]
        clear HA HE
        go_wp2_with fail
        go_ret
        exact ⟨rfl, h3.out.1⟩
      have f_ce := ce
      by_cases cn : num = 0
      rotate_left
      · have f_cn := beqF cn
        obtain rfl : ans = false := by rw [HA.out]; simp [*]
        clear HA HE
        go_wp2_with fail
        go_ret
        exact ⟨rfl, h3.out.1⟩
      have f_cn := beqT cn
      by_cases cz : kl = 2
      rotate_left
      · have f_cz := (beqF (by omega) : ((kl : Int) == 2) = false)
        obtain rfl : ans = false := by rw [HA.out]; simp [*]
        clear HA HE
        go_wp2_with fail
        go_ret
        exact ⟨rfl, h3.out.1⟩
      have f_cz := (beqT (by omega) : ((kl : Int) == 2) = true)
      obtain rfl : ans = al := by rw [HA.out]; simp [*]
      clear HA cn cz
      go_wp2_with (go_at_call 112; refine (HE.out _ h3.out.1).mono ?_; rintro e w5 ⟨rfl, h5⟩)
      go_ret
      exact ⟨rfl, h3.out.1.thenNo h5⟩
    have n2 : (kd == 2) = false := beqF k2
    by_cases k3 : kd = 3
    · subst k3
      clear HN
      by_cases ce : name.toList.isEmpty = true
      rotate_left
      · have f_ce := ce
        obtain rfl : ans = false := by rw [HA.out]; simp [*]
        clear HA HE
        go_wp2_with fail
        go_ret
        exact ⟨rfl, h3.out.1⟩
      have f_ce := ce
      by_cases cn : num = 0
      rotate_left
      · have f_cn := beqF cn
        obtain rfl : ans = false := by rw [HA.out]; simp [*]
        clear HA HE
        go_wp2_with fail
        go_ret
        exact ⟨rfl, h3.out.1⟩
      have f_cn := beqT cn
      by_cases cz : kl = 2
      rotate_left
      · have f_cz := (beqF (by omega) : ((kl : Int) == 2) = false)
        obtain rfl : ans = false := by rw [HA.out]; simp [*]
        clear HA HE
        go_wp2_with fail
        go_ret
        exact ⟨rfl, h3.out.1⟩
      have f_cz := (beqT (by omega) : ((kl : Int) == 2) = true)
      obtain rfl : ans = al := by rw [HA.out]; simp [*]
      clear HA cn cz
      go_wp2_with (go_at_call 112; refine (HE.out _ h3.out.1).mono ?_; rintro e w5 ⟨rfl, h5⟩)
      go_ret
      exact ⟨rfl, h3.out.1.thenNo h5⟩
    have n3 : (kd == 3) = false := beqF k3
    by_cases k4 : kd = 4
    · subst k4
      clear HN
      cases cb
      · obtain rfl : ans = false := by rw [HA.out]; simp [*]
        clear HA HE
        go_wp2_with fail
        go_ret
        exact ⟨rfl, h3.out.1⟩
      by_cases ce : name.toList.isEmpty = true
      rotate_left
      · have f_ce := ce
        obtain rfl : ans = false := by rw [HA.out]; simp [*]
        clear HA HE
        go_wp2_with fail
        go_ret
        exact ⟨rfl, h3.out.1⟩
      have f_ce := ce
      by_cases cz : kl = 1
      rotate_left
      · have f_cz := (beqF (by omega) : ((kl : Int) == 1) = false)
        obtain rfl : ans = false := by rw [HA.out]; simp [*]
        clear HA HE
        go_wp2_with fail
        go_ret
        exact ⟨rfl, h3.out.1⟩
      have f_cz := (beqT (by omega) : ((kl : Int) == 1) = true)
      obtain rfl : ans = al := by rw [HA.out]; simp [*]
      clear HA cz
      go_wp2_with (go_at_call 112; refine (HE.out _ h3.out.1).mono ?_; rintro e w5 ⟨rfl, h5⟩)
      go_ret
      exact ⟨rfl, h3.out.1.thenNo h5⟩
    have n4 : (kd == 4) = false := beqF k4
    obtain rfl : ans = false := by rw [HA.out]; simp [*]
    clear HA HE HN
    go_wp2_with fail
    go_ret
    exact ⟨rfl, h3.out.1⟩
theorem expr_any : ∀ n, ExprOk n
  | 0 => fun _ _ _ _ _ h => h.elim
  | n + 1 => expr_walk n (Lib.hid (expr_any n))
theorem exprs_any {n : Nat} {R : Nat → Prop} {w : World} {A : Option Addr} {l : List (ET n)} {cap : Nat} (hK : Keys w) (hl : Exprs R w A l cap) :
    Calls Tryz.prog 112 #[.slice A l.length cap] w fun e w' => e = .returned (.bool (l.all (okE n))) ∧ Chg No w w' := exprs_of (Lib.hid (expr_any n)) hK hl
end Go.Proofs.YtpmndblakmobdaaGreatDoor
