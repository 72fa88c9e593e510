/-
  The reference's values of expressions.
-/
import Derived.Test.YtgofncopoieigaaGreatDoorMH
namespace Go.Proofs.YtgofncopoieigaaGreatDoor
open Go Go.RowKit

theorem near18_any (z : Int) (w : World) : Calls Tryz.prog 48 #[.int .i64 z] w fun e w' => e = .returned (.bool (!farB z)) ∧ w = w' := by
  have HE : Hid ((!farB z) = (decide (-4294967296 ≤ z) && decide (z ≤ 4294967296))) := by
    unfold farB Hid
    have e1 : decide (z < -4294967296) = !decide (-4294967296 ≤ z) := by by_cases h : -4294967296 ≤ z <;> simp [h] <;> omega
    have e2 : decide (4294967296 < z) = !decide (z ≤ 4294967296) := by by_cases h : z ≤ 4294967296 <;> simp [h] <;> omega
    rw [e1, e2]; simp
  rw [HE.out]
  clear HE
  cases h1 : decide (-4294967296 ≤ z) <;> cases h2 : decide (z ≤ 4294967296) <;>
    (go_enter Tryz.func48, Tryz.ntmps48
     go_wp2_with fail
     go_ret
     exact ⟨rfl, rfl⟩)
set_option maxHeartbeats 1000000 in
theorem of18_any {Rs : Nat → Prop} {w : World} {A : Option Addr} {l : List Vr} {cap : Nat} (hl : Vars Rs w A l cap) (name : ByteArray) :
    Calls Tryz.prog 47 #[.slice A l.length cap, .string name] w fun e w' => e = .returned (.int .i64 (ofV l name)) ∧ w = w' := by
  have HL := Lib.hid hl
  have hb := hl.big
  unfold big at hb
  obtain ⟨ans, hans⟩ : ∃ ans, ans = ofV l name := ⟨_, rfl⟩
  rw [← hans]
  have HA := Lib.hid hans
  clear hans hl
  go_enter Tryz.func47, Tryz.ntmps47
  go_wp2_with fail
  go_loopw [5] (fun s5 wr => ∃ i : Nat, s5 = .int .i64 i ∧ i ≤ l.length ∧ w = wr ∧ Hid (∀ j (h : j < l.length), j < i → (l[j].1.toList == name.toList) = false)) (fun s5 _ => l.length - (intOf s5).toNat)
  case atStart => exact ⟨0, rfl, Nat.zero_le _, rfl, fun j _ h => absurd h (by omega)⟩
  case round =>
    obtain ⟨i, rfl, gi, rfl, hall⟩ := hrel
    by_cases hlt : i < l.length
    · obtain ⟨b, o, rfl, _, x0, x1⟩ := vars_at HL.out i hlt
      have i0 : (0 : Int) ≤ (i : Int) := by omega
      have i1 : (i : Int) < (l.length : Int) := by omega
      have HT : Hid ((l[i].1.toList == name.toList) = true → ans = l[i].2) := fun h => by
        rw [HA.out]
        unfold ofV
        have : l.find? (fun v => v.1.toList == name.toList) = some l[i] := by
          rw [List.find?_eq_some_iff_getElem]
          exact ⟨h, i, hlt, rfl, fun j hj => by rw [hall.out j (by omega) hj]; rfl⟩
        rw [this]
      have HF : Hid ((l[i].1.toList == name.toList) = false → ∀ j (h : j < l.length), j < i + 1 → (l[j].1.toList == name.toList) = false) := fun h j hj hji => by
        rcases Nat.lt_or_ge j i with g | g
        · exact hall.out j hj g
        · obtain rfl : j = i := by omega
          exact h
      clear hall
      generalize l[i].1 = nm at *
      generalize l[i].2 = z at *
      cases hb2 : (nm.toList == name.toList)
      · have HR := Lib.hid (HF.out hb2)
        clear HT HF
        go_wp2_with fail
        go_roundw
        case rel => exact ⟨i + 1, by go_num, hlt, by trivial, HR.out⟩
        case measure => simp [intOf]; omega
      · obtain rfl : ans = z := HT.out hb2
        clear HT HF
        go_wp2_with fail
        go_ret
        exact ⟨rfl, rfl⟩
    · obtain rfl : ans = 0 := by
        rw [HA.out]
        unfold ofV
        have : l.find? (fun v => v.1.toList == name.toList) = none := by
          rw [List.find?_eq_none]
          intro x hx
          obtain ⟨j, hj, rfl⟩ := List.getElem_of_mem hx
          rw [hall.out j hj (by omega)]
          decide
        rw [this]
      clear hall
      go_wp2_with fail
      go_ret
      exact ⟨rfl, rfl⟩
/-- A call returns a value, and whether nothing was far. -/
def VlRet (w : World) (r : Int × Bool) (e : Ending) (w' : World) : Prop := ∃ v : Int, e = .returned (.tuple #[.int .i64 v, .bool (!r.2)]) ∧ I64 v ∧ (r.2 = false → v = r.1) ∧ Chg No w w'
def Val18Ok (n : Nat) : Prop := ∀ (x : ET n) (R Rs : Nat → Prop) (w : World) (cs : List Value) (A : Option Addr) (l : List Vr) (cap : Nat), okE n x = true → (exprV n) R w cs x → Vars Rs w A l cap →
    Calls Tryz.prog 32 #[.agg cs.toArray, .slice A l.length cap] w (VlRet w (exH l n x))
theorem ofV_I64 {Rs : Nat → Prop} {w : World} {A : Option Addr} {l : List Vr} {cap : Nat} (hl : Vars Rs w A l cap) (name : ByteArray) : I64 (ofV l name) := by
  unfold ofV
  cases h : l.find? (fun v => v.1.toList == name.toList) with
  | none => exact I64.of (by decide) (by decide)
  | some x =>
    obtain ⟨i, hi, rfl⟩ := List.getElem_of_mem (List.mem_of_find?_eq_some h)
    obtain ⟨_, _, _, h1, _⟩ := vars_at hl i hi
    exact h1

set_option maxRecDepth 100000 in
set_option maxHeartbeats 4000000 in
theorem val18_walk (n : Nat) (IH : Hid (Val18Ok n)) : Val18Ok (n + 1) := by
  rintro f R Rs w cs A l cap hok h hl
  obtain ⟨B, capk, rfl, i1, i2, hm, hk⟩ := enode_cells h
  obtain ⟨hs, hkok⟩ := ok_partsH hok
  have HKA := Lib.hid (fun W (hW : Chg No w W) => hk.no (exprE_good n) hW)
  have HIH : Hid (∀ x : ET n, okE n x = true → ∀ W cs', Chg No w W → (exprV n) R W cs' x → Calls Tryz.prog 32 #[.agg cs'.toArray, .slice A l.length cap] W (VlRet W (exH l n x))) := fun x hx W cs' hW hcs => IH.out x R Rs W cs' A l cap hx hcs (hl.no varE_good hW)
  have HOF := Lib.hid (fun W (hW : Chg No w W) name => of18_any (hl.no varE_good hW) name)
  have HNR := Lib.hid (fun z W => near18_any z W)
  have HI6 := Lib.hid (ofV_I64 hl (ENode.name f))
  have H0 := @exH_0 l n f
  have H1 := @exH_1 l n f
  have H2 := @exH_2 l n f
  have H4 := @exH_4 l n f
  have HKO := Lib.hid hkok
  have HLE := Lib.hid (fun x : ET n => exH_le l n x)
  obtain ⟨ans, hans⟩ : ∃ ans, ans = exH l (n + 1) f := ⟨_, rfl⟩
  rw [← hans] at H0 H1 H2 H4 ⊢
  clear hans h hk IH hok hm hl hkok
  generalize ENode.kind f = kd at *
  generalize ENode.num f = num at *
  generalize ENode.name f = name at *
  generalize ENode.kids f = ks at *
  obtain ⟨w3, hw3⟩ : ∃ w3, w3 = w.alloc (.cells #[.int .i64 kd, .int .i64 num, .string name, .slice B ks.length capk] 27) := ⟨_, rfl⟩
  have h3 : Hid (Chg No w w3 ∧ w3.heap[w.heap.size]? = some (.cells #[.int .i64 kd, .int .i64 num, .string name, .slice B ks.length capk] 27 (0, 0))) := by
    rw [hw3]
    exact ⟨(Chg.refl _ _).alloc _, heap_alloc_new _ _⟩
  have HO : Hid (∀ W, Chg No w3 W → W.cell? ⟨w.heap.size, 0, none⟩ = some (.int .i64 kd) ∧ W.cell? ⟨w.heap.size, 1, none⟩ = some (.int .i64 num) ∧ W.cell? ⟨w.heap.size, 2, none⟩ = some (.string name) ∧ W.cell? ⟨w.heap.size, 3, none⟩ = some (.slice B ks.length capk)) := fun W hW => obj_4 (hW.obj h3.out.2 id)
  obtain ⟨p0, p1, p2, p3⟩ := HO.out w3 (Chg.refl _ _)
  rcases eShape_casesH hs with ⟨rfl, hcx, hkx⟩ | ⟨rfl, hkx⟩ | ⟨hkd, hkl⟩ | ⟨rfl, hc, hkl⟩
  · have HA := Lib.hid (H0 rfl)
    have HN := Lib.hid (HNR.out num)
    have HI := Lib.hid i2
    clear hcx hkx HIH HOF HKA HKO HLE hs H0 H1 H2 H4 HNR i2
    go_enter Tryz.func32, Tryz.ntmps32
    go_upto_region 1 with fail
    rw [← hw3]
    clear hw3
    go_wp2_with (go_at_call 48; (with_reducible refine (HN.out _).mono ?_); rintro e w4 ⟨rfl, rfl⟩)
    go_ret2
    rw [HA.out]
    exact ⟨num, rfl, HI.out, fun h => (numH_near h).symm, h3.out.1⟩
  · have HA := Lib.hid (H1 rfl)
    have HO1 := Lib.hid (HOF.out w3 h3.out.1 name)
    have HN := Lib.hid (HNR.out (ofV l name))
    clear hkx HIH HOF HKA HKO HLE hs H0 H1 H2 H4 HNR
    generalize ofV l name = z at *
    go_enter Tryz.func32, Tryz.ntmps32
    go_upto_region 1 with fail
    rw [← hw3]
    clear hw3
    go_wp2_with (first
      | (go_at_call 47; (with_reducible refine HO1.out.mono ?_); rintro e w4 ⟨rfl, rfl⟩)
      | (go_at_call 48; (with_reducible refine (HN.out _).mono ?_); rintro e w5 ⟨rfl, rfl⟩))
    go_ret2
    rw [HA.out]
    exact ⟨z, rfl, HI6.out, fun h => (numH_near h).symm, h3.out.1⟩
  rotate_left
  · obtain ⟨a, rfl⟩ : ∃ a, ks = [a] := List.length_eq_one_iff.1 hkl
    have HA := Lib.hid (H4 rfl rfl)
    obtain ⟨n1, n2⟩ := coefS_le hc
    obtain ⟨v1, v2⟩ := HLE.out a
    obtain ⟨m1, m2⟩ := mul_fits n1 n2 v1 v2
    rw [show ([a] : List (ET n)).length = 1 from rfl] at hw3 h3 HO p3
    obtain ⟨b, o, hB⟩ : ∃ b o, B = some ⟨b, o, none⟩ := by
      obtain ⟨b, o, _, _, _, _, _, _, hB, _⟩ := exprs_at (HKA.out w3 h3.out.1) 0 (by simp)
      exact ⟨b, o, hB⟩
    subst hB
    obtain ⟨k0, m0, s0, B0, l0, d0, hv, x0, x1, x2, x3⟩ := exprs_someH (HKA.out w3 h3.out.1) 0 (by simp)
    have HI := Lib.hid (HIH.out a (HKO.out a (by simp)) w3 _ h3.out.1 hv)
    simp only [Nat.zero_mul, Nat.add_zero] at x0 x1 x2 x3
    clear hv HIH HOF HKA HKO HLE hs H0 H1 H2 H4 hc hkl
    generalize exH l n a = ea at *
    obtain ⟨va, fa⟩ := ea
    unfold VlRet at HI
    simp only at HA HI m1 m2 v1 v2
    have hcm : va * num = num * va := Int.mul_comm _ _
    have hw : IntKind.i64.wrap (va * num) = va * num := by rw [hcm, IntKind.wrap_i64]; omega
    have HCM := Lib.hid hcm
    clear hcm
    cases fa
    · have HN := Lib.hid (HNR.out (va * num))
      go_enter Tryz.func32, Tryz.ntmps32
      go_upto_region 1 with fail
      rw [← hw3]
      clear hw3
      go_upto_region 6 with (go_at_call 32; (with_reducible refine HI.out.mono ?_); rintro e w4 ⟨v4, rfl, _, hv4, h4⟩; obtain rfl : v4 = va := hv4 rfl; have H4 := Lib.hid h4; clear h4 hv4)
      clear p0 p1 p2 p3
      obtain ⟨p0, p1, p2, p3⟩ := HO.out w4 H4.out
      go_wp2_with (go_at_call 48; (with_reducible refine (HN.out _).mono ?_); rintro e w5 ⟨rfl, rfl⟩)
      go_ret2
      rw [HA.out, ← HCM.out]
      exact ⟨v4 * num, rfl, by rw [HCM.out]; exact I64.of (by omega) (by omega), fun h => (numH_near h).symm, h3.out.1.thenNo H4.out⟩
    · go_enter Tryz.func32, Tryz.ntmps32
      go_upto_region 1 with fail
      rw [← hw3]
      clear hw3
      go_wp2_with (go_at_call 32; (with_reducible refine HI.out.mono ?_); rintro e w4 ⟨v4, rfl, _, _, h4⟩; have H4 := Lib.hid h4; clear h4 p0 p1 p2 p3)
      go_ret2
      rw [HA.out]
      exact ⟨0, rfl, I64.of (by decide) (by decide), fun h => absurd h (by simp), h3.out.1.thenNo H4.out⟩
  · obtain ⟨a, b2, rfl⟩ : ∃ a b2, ks = [a, b2] := by
      match ks, hkl with
      | [a, b2], _ => exact ⟨a, b2, rfl⟩
    have HA := Lib.hid (H2 hkd rfl)
    have hk1 : (kd == 1) = false := beqF (by omega)
    have hk2 : decide (1 < kd) = true := decide_eq_true (by omega)
    have hk4 : decide (kd < 4) = true := decide_eq_true (by omega)
    obtain ⟨v1, v2⟩ := HLE.out a
    obtain ⟨v3, v4⟩ := HLE.out b2
    rw [show ([a, b2] : List (ET n)).length = 2 from rfl] at hw3 h3 HO p3
    obtain ⟨b, o, hB⟩ : ∃ b o, B = some ⟨b, o, none⟩ := by
      obtain ⟨b, o, _, _, _, _, _, _, hB, _⟩ := exprs_at (HKA.out w3 h3.out.1) 0 (by simp)
      exact ⟨b, o, hB⟩
    subst hB
    obtain ⟨k0, m0, s0, B0, l0, d0, hv, x0, x1, x2, x3⟩ := exprs_someH (HKA.out w3 h3.out.1) 0 (by simp)
    have HI := Lib.hid (HIH.out a (HKO.out a (by simp)) w3 _ h3.out.1 hv)
    simp only [Nat.zero_mul, Nat.add_zero] at x0 x1 x2 x3
    have HI2 : Hid (∀ W, Chg No w W → ∃ k0 m0 s0 B0 l0 d0, W.cell? ⟨b, o + 4, none⟩ = some (.int .i64 k0) ∧ W.cell? ⟨b, o + 4 + 1, none⟩ = some (.int .i64 m0) ∧ W.cell? ⟨b, o + 4 + 2, none⟩ = some (.string s0) ∧ W.cell? ⟨b, o + 4 + 3, none⟩ = some (.slice B0 l0 d0) ∧
        Calls Tryz.prog 32 #[.agg #[.int .i64 k0, .int .i64 m0, .string s0, .slice B0 l0 d0], .slice A l.length cap] W (VlRet W (exH l n b2))) := fun W hW => by
      obtain ⟨k0, m0, s0, B0, l0, d0, hv, x0, x1, x2, x3⟩ := exprs_someH (HKA.out W hW) 1 (by simp)
      simp only [Nat.one_mul] at x0 x1 x2 x3
      exact ⟨k0, m0, s0, B0, l0, d0, x0, x1, x2, x3, HIH.out b2 (HKO.out b2 (by simp)) W _ hW hv⟩
    clear hv HIH HOF HKA HKO HLE hs H0 H1 H2 H4 hkl
    generalize exH l n a = ea at *
    generalize exH l n b2 = eb at *
    obtain ⟨va, fa⟩ := ea
    obtain ⟨vb, fb⟩ := eb
    unfold VlRet at HI HI2
    simp only at HA HI HI2 v1 v2 v3 v4
    cases fa
    rotate_left
    · clear HI2
      go_enter Tryz.func32, Tryz.ntmps32
      go_upto_region 1 with fail
      rw [← hw3]
      clear hw3
      go_wp2_with (go_at_call 32; (with_reducible refine HI.out.mono ?_); rintro e w4 ⟨v4, rfl, _, _, h4⟩; have H4 := Lib.hid h4; clear h4 p0 p1 p2 p3)
      go_ret2
      rw [HA.out]
      exact ⟨0, rfl, I64.of (by decide) (by decide), fun h => absurd h (by simp), h3.out.1.thenNo H4.out⟩
    go_enter Tryz.func32, Tryz.ntmps32
    go_upto_region 1 with fail
    rw [← hw3]
    clear hw3
    go_upto_region 6 with (go_at_call 32; (with_reducible refine HI.out.mono ?_); rintro e w4 ⟨va', rfl, _, hv4, h4⟩; obtain rfl : va' = va := hv4 rfl; have H4 := Lib.hid h4; clear h4 hv4)
    clear p0 p1 p2 p3 x0 x1 x2 x3
    obtain ⟨p0, p1, p2, p3⟩ := HO.out w4 H4.out
    obtain ⟨k1, m1, s1, B1, l1, d1, x0, x1, x2, x3, hJ⟩ := HI2.out w4 (h3.out.1.thenNo H4.out)
    have HJ := Lib.hid hJ
    clear hJ HI2
    cases fb
    rotate_left
    · go_wp2_with (go_at_call 32; (with_reducible refine HJ.out.mono ?_); rintro e w5 ⟨v5, rfl, _, _, h5⟩; have H5 := Lib.hid (H4.out.thenNo h5); clear h5)
      go_ret2
      rw [HA.out]
      exact ⟨0, rfl, I64.of (by decide) (by decide), fun h => absurd h (by simp), h3.out.1.thenNo H5.out⟩
    go_upto_region 11 with (go_at_call 32; (with_reducible refine HJ.out.mono ?_); rintro e w5 ⟨vb', rfl, _, hv5, h5⟩; obtain rfl : vb' = vb := hv5 rfl; have H5 := Lib.hid (H4.out.thenNo h5); clear h5 hv5)
    clear p0 p1 p2 p3 x0 x1 x2 x3
    obtain ⟨p0, p1, p2, p3⟩ := HO.out w5 H5.out
    by_cases h3k : kd = 3
    · have hk3 : (kd == 3) = true := by simpa using h3k
      have hw1 : IntKind.i64.wrap (va' - vb') = va' - vb' := by rw [IntKind.wrap_i64]; omega
      rw [if_pos h3k] at HA
      have HN := Lib.hid (HNR.out (va' - vb'))
      clear h3k hkd
      go_wp2_with (go_at_call 48; (with_reducible refine (HN.out _).mono ?_); rintro e w6 ⟨rfl, rfl⟩)
      go_ret2
      rw [HA.out]
      exact ⟨va' - vb', rfl, I64.of (by omega) (by omega), fun h => (numH_near h).symm, h3.out.1.thenNo H5.out⟩
    · have hk3 : (kd == 3) = false := by simpa using h3k
      have hw1 : IntKind.i64.wrap (va' + vb') = va' + vb' := by rw [IntKind.wrap_i64]; omega
      rw [if_neg h3k] at HA
      have HN := Lib.hid (HNR.out (va' + vb'))
      clear h3k hkd
      go_wp2_with (go_at_call 48; (with_reducible refine (HN.out _).mono ?_); rintro e w6 ⟨rfl, rfl⟩)
      go_ret2
      rw [HA.out]
      exact ⟨va' + vb', rfl, I64.of (by omega) (by omega), fun h => (numH_near h).symm, h3.out.1.thenNo H5.out⟩
theorem val18_any : ∀ n, Val18Ok n
  | 0 => fun _ _ _ _ _ _ _ _ _ h => h.elim
  | n + 1 => val18_walk n (Lib.hid (val18_any n))
end Go.Proofs.YtgofncopoieigaaGreatDoor
