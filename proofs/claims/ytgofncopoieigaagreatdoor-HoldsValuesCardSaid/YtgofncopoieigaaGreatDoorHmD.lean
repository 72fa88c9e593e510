/-
  The reference's hasE, hasC, expr, exprs.
-/
import Derived.Test.YtgofncopoieigaaGreatDoorHmA
import Derived.Test.YtgofncopoieigaaGreatDoorShF
import Derived.Deep.Cut
import Derived.Deep.DeepCutAuto
namespace Go.Proofs.YtgofncopoieigaaGreatDoor
open Go Go.RowKit

set_option maxRecDepth 100000 in
set_option maxHeartbeats 1000000 in
theorem hasE15_any {n : Nat} {x : ET n} {R : Nat → Prop} {w : World} {cs : List Value} (h : (exprV n) R w cs x) :
    Calls Tryz.prog 101 #[.agg cs.toArray] w fun e w' => e = .returned (.bool (hasE n x)) ∧ Chg No w w' := by
  cases n with
  | zero => exact h.elim
  | succ n =>
  obtain ⟨B, capk, rfl, i1, i2, hm, hk⟩ := enode_cells h
  have hb2 := hk.big
  unfold big at hb2
  obtain ⟨ans, hans⟩ : ∃ ans, ans = hasE (n + 1) x := ⟨_, rfl⟩
  rw [← hans]
  rw [show hasE (n + 1) x = !(decide (ENode.kind x = 0) && decide (ENode.num x = 0) && (ENode.name x).toList.isEmpty && decide ((ENode.kids x).length = 0)) from rfl] at hans
  have HA := Lib.hid hans
  clear hans h hk
  generalize ENode.kind x = kd at *
  generalize ENode.num x = num at *
  generalize ENode.name x = name at *
  generalize (ENode.kids x).length = kl at *
  by_cases c1 : kd = 0
  rotate_left
  · obtain rfl : ans = true := by rw [HA.out]; simp [*]
    have f_c1 := neT c1
    clear HA
    go_enter Tryz.func101, Tryz.ntmps101
    go_wp2_with fail
    go_ret
    exact ⟨rfl, (Chg.refl _ _).alloc _⟩
  have f_c1 := neF c1
  by_cases c2 : num = 0
  rotate_left
  · obtain rfl : ans = true := by rw [HA.out]; simp [*]
    have f_c2 := neT c2
    clear HA
    go_enter Tryz.func101, Tryz.ntmps101
    go_wp2_with fail
    go_ret
    exact ⟨rfl, (Chg.refl _ _).alloc _⟩
  have f_c2 := neF c2
  by_cases c3 : name.toList.isEmpty = true
  rotate_left
  · obtain rfl : ans = true := by rw [HA.out]; simp [*]
    have f_c3 := c3
    clear HA
    go_enter Tryz.func101, Tryz.ntmps101
    go_wp2_with fail
    go_ret
    exact ⟨rfl, (Chg.refl _ _).alloc _⟩
  have f_c3 := c3
  by_cases c4 : kl = 0
  rotate_left
  · obtain rfl : ans = true := by rw [HA.out]; simp [*]
    have f_c4 := (neT (by omega) : ((kl : Int) != 0) = true)
    clear HA
    go_enter Tryz.func101, Tryz.ntmps101
    go_wp2_with fail
    go_ret
    exact ⟨rfl, (Chg.refl _ _).alloc _⟩
  have f_c4 := (neF (by omega) : ((kl : Int) != 0) = false)
  obtain rfl : ans = false := by rw [HA.out]; simp [*]
  clear HA
  go_enter Tryz.func101, Tryz.ntmps101
  go_wp2_with fail
  go_ret
  exact ⟨rfl, (Chg.refl _ _).alloc _⟩

set_option maxRecDepth 100000 in
set_option maxHeartbeats 1000000 in
theorem hasC15_any {m n : Nat} {x : CT m n} {R : Nat → Prop} {w : World} {cs : List Value} (h : (condV m n) R w cs x) :
    Calls Tryz.prog 100 #[.agg cs.toArray] w fun e w' => e = .returned (.bool (hasC m n x)) ∧ Chg No w w' := by
  cases n with
  | zero => exact h.elim
  | succ n =>
  obtain ⟨A, cape, B, capk, rfl, i1, he, hk⟩ := cnode_cells h
  have hb1 := he.big
  have hb2 := hk.big
  unfold big at hb1 hb2
  obtain ⟨ans, hans⟩ : ∃ ans, ans = hasC m (n + 1) x := ⟨_, rfl⟩
  rw [← hans]
  rw [show hasC m (n + 1) x = !(decide (CNode.kind x = 0) && decide ((CNode.es x).length = 0) && decide ((CNode.kids x).length = 0)) from rfl] at hans
  have HA := Lib.hid hans
  clear hans h hk he
  generalize CNode.kind x = kd at *
  generalize (CNode.es x).length = el at *
  generalize (CNode.kids x).length = kl at *
  by_cases c1 : kd = 0
  rotate_left
  · obtain rfl : ans = true := by rw [HA.out]; simp [*]
    have f_c1 := neT c1
    clear HA
    go_enter Tryz.func100, Tryz.ntmps100
    go_wp2_with fail
    go_ret
    exact ⟨rfl, (Chg.refl _ _).alloc _⟩
  have f_c1 := neF c1
  by_cases c2 : el = 0
  rotate_left
  · obtain rfl : ans = true := by rw [HA.out]; simp [*]
    have f_c2 := (neT (by omega) : ((el : Int) != 0) = true)
    clear HA
    go_enter Tryz.func100, Tryz.ntmps100
    go_wp2_with fail
    go_ret
    exact ⟨rfl, (Chg.refl _ _).alloc _⟩
  have f_c2 := (neF (by omega) : ((el : Int) != 0) = false)
  by_cases c4 : kl = 0
  rotate_left
  · obtain rfl : ans = true := by rw [HA.out]; simp [*]
    have f_c4 := (neT (by omega) : ((kl : Int) != 0) = true)
    clear HA
    go_enter Tryz.func100, Tryz.ntmps100
    go_wp2_with fail
    go_ret
    exact ⟨rfl, (Chg.refl _ _).alloc _⟩
  have f_c4 := (neF (by omega) : ((kl : Int) != 0) = false)
  obtain rfl : ans = false := by rw [HA.out]; simp [*]
  clear HA
  go_enter Tryz.func100, Tryz.ntmps100
  go_wp2_with fail
  go_ret
  exact ⟨rfl, (Chg.refl _ _).alloc _⟩

def Expr15Ok (n : Nat) : Prop := ∀ (x : ET n) (R : Nat → Prop) (w : World) (cs : List Value), (exprV n) R w cs x →
    Calls Tryz.prog 102 #[.agg cs.toArray] w fun e w' => e = .returned (.bool (okE n x)) ∧ Chg No w w'
set_option maxRecDepth 100000 in
set_option maxHeartbeats 2000000 in
theorem exprs15_of {n : Nat} (IH : Hid (Expr15Ok n)) {R : Nat → Prop} {w : World} {A : Option Addr} {l : List (ET n)} {cap : Nat} (hl : Exprs R w A l cap) :
    Calls Tryz.prog 122 #[.slice A l.length cap] w fun e w' => e = .returned (.bool (l.all (okE n))) ∧ Chg No w w' := by
  have HL := Lib.hid (fun W (hW : Chg No w W) => hl.no (exprE_good n) hW)
  have hb := hl.big
  unfold big at hb
  obtain ⟨ans, hans⟩ : ∃ ans, ans = l.all (okE n) := ⟨_, rfl⟩
  rw [← hans]
  have HA := Lib.hid hans
  clear hans hl
  go_enter Tryz.func122, Tryz.ntmps122
  go_wp2_with fail
  go_loopw [3] (fun s3 wr => ∃ i : Nat, s3 = .int .i64 i ∧ i ≤ l.length ∧ Hid (∀ j (h : j < l.length), j < i → okE n l[j] = true) ∧ Hid (Chg No w wr)) (fun s3 _ => l.length - (intOf s3).toNat)
  case atStart => exact ⟨0, rfl, Nat.zero_le _, fun j _ h => absurd h (by omega), Chg.refl _ _⟩
  case round =>
    obtain ⟨i, rfl, gi, hall, hch⟩ := hrel
    by_cases hlt : i < l.length
    · obtain ⟨b, o, k0, m0, s0, B0, l0, d0, rfl, hv, x0, x1, x2, x3⟩ := exprs_at (HL.out wr hch.out) i hlt
      have i0 : (0 : Int) ≤ (i : Int) := by omega
      have i1 : (i : Int) < (l.length : Int) := by omega
      have HC := Lib.hid (IH.out l[i] _ wr _ hv)
      have HT : Hid (okE n l[i] = true → ∀ j (h : j < l.length), j < i + 1 → okE n l[j] = true) := fun h j hj hji => by
        rcases Nat.lt_or_ge j i with g | g
        · exact hall.out j hj g
        · obtain rfl : j = i := by omega
          exact h
      have HF : Hid (okE n l[i] = false → ans = false) := fun h => by
        rw [HA.out]
        cases hq : l.all (okE n) with
        | false => rfl
        | true => rw [List.all_eq_true.1 hq _ (List.getElem_mem hlt)] at h; cases h
      clear hv hall
      generalize okE n l[i] = q at *
      cases q
      · obtain rfl : ans = false := HF.out rfl
        clear HT HF
        go_wp2_with (go_at_call 102; (with_reducible refine HC.out.mono ?_); rintro e w4 ⟨rfl, h4⟩)
        go_ret
        exact ⟨rfl, hch.out.thenNo h4⟩
      · have HR := Lib.hid (HT.out rfl)
        clear HT HF
        go_wp2_with (go_at_call 102; (with_reducible refine HC.out.mono ?_); rintro e w4 ⟨rfl, h4⟩; have H4 := Lib.hid (hch.out.thenNo h4); clear h4)
        go_roundw
        case rel => exact ⟨i + 1, by go_num, hlt, HR.out, H4.out⟩
        case measure => simp [intOf]; omega
    · obtain rfl : ans = true := by
        rw [HA.out, List.all_eq_true]
        intro x hx
        obtain ⟨j, hj, rfl⟩ := List.getElem_of_mem hx
        exact hall.out j hj (by omega)
      clear hall
      go_wp2_with fail
      go_ret
      exact ⟨rfl, hch.out⟩

set_option maxRecDepth 100000 in
set_option maxHeartbeats 4000000 in
theorem expr15_walk (n : Nat) (IH : Hid (Expr15Ok n)) : Expr15Ok (n + 1) := by
  rintro f R w cs h
  obtain ⟨B, capk, rfl, i1, i2, hm, hk⟩ := enode_cells h
  have HE := Lib.hid (fun W (hW : Chg No w W) => exprs15_of IH (hk.no (exprE_good n) hW))
  have HN := Lib.hid (fun W => name13_any (w := W) (ENode.name f) hm)
  have hb2 := hk.big
  unfold big at hb2
  obtain ⟨ans, hans⟩ : ∃ ans, ans = okE (n + 1) f := ⟨_, rfl⟩
  rw [← hans]
  rw [show okE (n + 1) f = (eShape (ENode.kind f) (ENode.num f) (ENode.name f) (ENode.kids f).length && (ENode.kids f).all (okE n)) from rfl] at hans
  have HA := Lib.hid hans
  clear hans h hk IH hm
  unfold eShape at HA
  generalize (ENode.kids f).all (okE n) = al at *
  generalize ENode.kind f = kd at *
  generalize ENode.num f = num at *
  generalize ENode.name f = name at *
  generalize (ENode.kids f).length = kl at *
  generalize nameB name = nb at *
  obtain ⟨w3, hw3⟩ : ∃ w3, w3 = w.alloc (.cells #[.int .i64 kd, .int .i64 num, .string name, .slice B kl capk] 27) := ⟨_, rfl⟩
  have h3 : Hid (Chg No w w3 ∧ w3.heap[w.heap.size]? = some (.cells #[.int .i64 kd, .int .i64 num, .string name, .slice B kl capk] 27 (0, 0))) := by
    rw [hw3]; exact ⟨(Chg.refl _ _).alloc _, heap_alloc_new _ _⟩
  obtain ⟨p0, p1, p2, p3⟩ := obj_4 h3.out.2
  obtain ⟨cb, hcb⟩ : ∃ cb, cb = coefS num := ⟨_, rfl⟩
  have HCB := Lib.hid hcb
  rw [← hcb] at HA
  clear hcb
  go_enter Tryz.func102, Tryz.ntmps102
  go_upto_region 1 with fail
  rw [← hw3]
  go_cut [3] (fun s3 wx => s3 = .bool cb ∧ wx = w3)
  case first =>
    clear HA HE HN
    by_cases g1 : -1073741824 ≤ num
    · by_cases g2 : num ≤ 1073741824
      · go_wp2_with fail
        go_meet
        exact ⟨by rw [HCB.out]; simp [coefS, g1, g2], hw3.symm⟩
      · go_wp2_with fail
        go_meet
        exact ⟨by rw [HCB.out]; simp [coefS, g2], hw3.symm⟩
    · go_wp2_with fail
      go_meet
      exact ⟨by rw [HCB.out]; simp [coefS]; omega, hw3.symm⟩
  case rest =>
  obtain ⟨rfl, rfl⟩ := hcut
  clear hw3 HCB
  obtain ⟨p0, p1, p2, p3⟩ := obj_4 h3.out.2
  by_cases k0 : kd = 0
  · subst k0
    cases cb
    · obtain rfl : ans = false := by rw [HA.out]; simp [*]
      clear HA HE HN
      go_wp2_with fail
      go_ret
      exact ⟨rfl, h3.out.1⟩
    by_cases ce : name.toList.isEmpty = true
    rotate_left
    · have f_ce := ce
      obtain rfl : ans = false := by rw [HA.out]; simp [*]
      clear HA HE HN
      go_wp2_with fail
      go_ret
      exact ⟨rfl, h3.out.1⟩
    have f_ce := ce
    by_cases cz : kl = 0
    rotate_left
    · have f_cz := (beqF (by omega) : ((kl : Int) == 0) = false)
      obtain rfl : ans = false := by rw [HA.out]; simp [*]
      clear HA HE HN
      go_wp2_with fail
      go_ret
      exact ⟨rfl, h3.out.1⟩
    have f_cz := (beqT (by omega) : ((kl : Int) == 0) = true)
    obtain rfl : ans = al := by rw [HA.out]; simp [*]
    clear HA cz
    go_wp2_with (go_at_call 122; (with_reducible refine (HE.out _ h3.out.1).mono ?_); rintro e w5 ⟨rfl, h5⟩)
    go_ret
    exact ⟨rfl, h3.out.1.thenNo h5⟩
  have n0 : (kd == 0) = false := beqF k0
  by_cases k1 : kd = 1
  · subst k1
    by_cases cn : num = 0
    rotate_left
    · have f_cn := beqF cn
      obtain rfl : ans = false := by rw [HA.out]; simp [*]
      clear HA HE HN
      go_wp2_with fail
      go_ret
      exact ⟨rfl, h3.out.1⟩
    have f_cn := beqT cn
    by_cases cz : kl = 0
    rotate_left
    · have f_cz := (beqF (by omega) : ((kl : Int) == 0) = false)
      obtain rfl : ans = false := by rw [HA.out]; simp [*]
      clear HA HE HN
      go_wp2_with fail
      go_ret
      exact ⟨rfl, h3.out.1⟩
    have f_cz := (beqT (by omega) : ((kl : Int) == 0) = true)
    cases nb
    · obtain rfl : ans = false := by rw [HA.out]; simp [*]
      clear HA HE
      go_wp2_with (go_at_call 64; (with_reducible refine (HN.out _).mono ?_); rintro e w4 ⟨rfl, h4⟩; have H4 := Lib.hid (h3.out.1.thenNo h4); clear h4)
      go_ret
      exact ⟨rfl, H4.out⟩
    obtain rfl : ans = al := by rw [HA.out]; simp [*]
    clear HA cz
    go_wp2_with (first
      | (go_at_call 64; (with_reducible refine (HN.out _).mono ?_); rintro e w4 ⟨rfl, h4⟩; have H4 := Lib.hid (h3.out.1.thenNo h4); clear p0 p1 p2 p3; obtain ⟨p0, p1, p2, p3⟩ := obj_4 (h4.obj h3.out.2 id); clear h4)
      | (go_at_call 122; (with_reducible refine (HE.out _ H4.out).mono ?_); rintro e w5 ⟨rfl, h5⟩))
    go_ret
    exact ⟨rfl, H4.out.thenNo h5⟩
  have n1 : (kd == 1) = false := beqF k1
  by_cases k2 : kd = 2
  · subst k2
    by_cases cn : num = 0
    rotate_left
    · have f_cn := beqF cn
      obtain rfl : ans = false := by rw [HA.out]; simp [*]
      clear HA HE HN
      go_wp2_with fail
      go_ret
      exact ⟨rfl, h3.out.1⟩
    have f_cn := beqT cn
    by_cases ce : name.toList.isEmpty = true
    rotate_left
    · have f_ce := ce
      obtain rfl : ans = false := by rw [HA.out]; simp [*]
      clear HA HE HN
      go_wp2_with fail
      go_ret
      exact ⟨rfl, h3.out.1⟩
    have f_ce := ce
    by_cases c2 : kl = 2
    rotate_left
    · have f_c2 := (beqF (by omega) : ((kl : Int) == 2) = false)
      obtain rfl : ans = false := by rw [HA.out]; simp [*]
      clear HA HE HN
      go_wp2_with fail
      go_ret
      exact ⟨rfl, h3.out.1⟩
    have f_c2 := (beqT (by omega) : ((kl : Int) == 2) = true)
    obtain rfl : ans = al := by rw [HA.out]; simp [*]
    clear HA c2
    go_wp2_with (go_at_call 122; (with_reducible refine (HE.out _ h3.out.1).mono ?_); rintro e w5 ⟨rfl, h5⟩)
    go_ret
    exact ⟨rfl, h3.out.1.thenNo h5⟩
  have n2 : (kd == 2) = false := beqF k2
  by_cases k3 : kd = 3
  · subst k3
    by_cases cn : num = 0
    rotate_left
    · have f_cn := beqF cn
      obtain rfl : ans = false := by rw [HA.out]; simp [*]
      clear HA HE HN
      go_wp2_with fail
      go_ret
      exact ⟨rfl, h3.out.1⟩
    have f_cn := beqT cn
    by_cases ce : name.toList.isEmpty = true
    rotate_left
    · have f_ce := ce
      obtain rfl : ans = false := by rw [HA.out]; simp [*]
      clear HA HE HN
      go_wp2_with fail
      go_ret
      exact ⟨rfl, h3.out.1⟩
    have f_ce := ce
    by_cases c2 : kl = 2
    rotate_left
    · have f_c2 := (beqF (by omega) : ((kl : Int) == 2) = false)
      obtain rfl : ans = false := by rw [HA.out]; simp [*]
      clear HA HE HN
      go_wp2_with fail
      go_ret
      exact ⟨rfl, h3.out.1⟩
    have f_c2 := (beqT (by omega) : ((kl : Int) == 2) = true)
    obtain rfl : ans = al := by rw [HA.out]; simp [*]
    clear HA c2
    go_wp2_with (go_at_call 122; (with_reducible refine (HE.out _ h3.out.1).mono ?_); rintro e w5 ⟨rfl, h5⟩)
    go_ret
    exact ⟨rfl, h3.out.1.thenNo h5⟩
  have n3 : (kd == 3) = false := beqF k3
  by_cases k4 : kd = 4
  · subst k4
    cases cb
    · obtain rfl : ans = false := by rw [HA.out]; simp [*]
      clear HA HE HN
      go_wp2_with fail
      go_ret
      exact ⟨rfl, h3.out.1⟩
    by_cases ce : name.toList.isEmpty = true
    rotate_left
    · have f_ce := ce
      obtain rfl : ans = false := by rw [HA.out]; simp [*]
      clear HA HE HN
      go_wp2_with fail
      go_ret
      exact ⟨rfl, h3.out.1⟩
    have f_ce := ce
    by_cases c1 : kl = 1
    rotate_left
    · have f_c1 := (beqF (by omega) : ((kl : Int) == 1) = false)
      obtain rfl : ans = false := by rw [HA.out]; simp [*]
      clear HA HE HN
      go_wp2_with fail
      go_ret
      exact ⟨rfl, h3.out.1⟩
    have f_c1 := (beqT (by omega) : ((kl : Int) == 1) = true)
    obtain rfl : ans = al := by rw [HA.out]; simp [*]
    clear HA c1
    go_wp2_with (go_at_call 122; (with_reducible refine (HE.out _ h3.out.1).mono ?_); rintro e w5 ⟨rfl, h5⟩)
    go_ret
    exact ⟨rfl, h3.out.1.thenNo h5⟩
  have n4 : (kd == 4) = false := beqF k4
  obtain rfl : ans = false := by rw [HA.out]; simp [*]
  clear HA HE HN
  go_wp2_with fail
  go_ret
  exact ⟨rfl, h3.out.1⟩
theorem expr15_any : ∀ n, Expr15Ok n
  | 0 => fun _ _ _ _ h => h.elim
  | n + 1 => expr15_walk n (Lib.hid (expr15_any n))
theorem exprs15_any {n : Nat} {R : Nat → Prop} {w : World} {A : Option Addr} {l : List (ET n)} {cap : Nat} (hl : Exprs R w A l cap) :
    Calls Tryz.prog 122 #[.slice A l.length cap] w fun e w' => e = .returned (.bool (l.all (okE n))) ∧ Chg No w w' := exprs15_of (Lib.hid (expr15_any n)) hl
end Go.Proofs.YtgofncopoieigaaGreatDoor
