/-
  slices.ContainsFunc over formulas; formula.deep.
-/
import Derived.Test.YtlejcnbpodmleaaFrmD
import Derived.Test.YtlejcnbpodmleaaFind
import Derived.Test.YtlejcnbpodmleaaOwn
namespace Go.Proofs.Ytlejcnbpodmleaa
open Go Go.RowKit

set_option maxHeartbeats 400000 in
theorem indexFunc_forms0 {n : Nat} {R : Nat → Prop} {w : World} {A : Option Addr} {l : List (FT n)} {cap : Nat} (hl : Forms R w A l cap) (fv : FuncId) (hf : Entered fv) (p : FT n → Bool)
    (hp : ∀ w', Chg No w w' → ∀ i (h : i < l.length) cs, (formV n) R w' cs l[i] → Calls Try.prog fv #[.agg cs.toArray] w' fun e w'' => e = .returned (.bool (p l[i])) ∧ Chg No w' w'') :
    Calls Try.prog 76 #[.slice A l.length cap, .func (.func fv) #[] #[]] w fun e w' => e = .returned (.int .i64 (findI p l)) ∧ Chg No w w' := by
  have hb := hl.big
  unfold big at hb
  have Hp := Lib.hid hp
  have HL := Lib.hid (fun W (h : Chg No w W) => hl.no (formE_good n) h)
  clear hp hl
  unfold Entered at hf
  go_enter Try.func76, Try.ntmps76
  go_wp2
  go_loopw [8] (fun i wr => ∃ k : Nat, k ≤ l.length ∧ i = .int .i64 k ∧ Hid (Chg No w wr) ∧ Hid (∀ j (h : j < l.length), j < k → p l[j] = false)) (fun i _ => l.length - (intOf i).toNat)
  case atStart => exact ⟨0, Nat.zero_le _, rfl, Chg.refl _ _, fun j h hk => absurd hk (by omega)⟩
  case round =>
    obtain ⟨k, hk, rfl, hch, hall⟩ := hrel
    by_cases hlt : k < l.length
    · obtain ⟨b, o, v0, v1, v2, v3, rfl, hv, x0, x1, x2, x3⟩ := forms_at (HL.out wr hch.out) k hlt
      have i0 : (0 : Int) ≤ (k : Int) := by omega
      have i1 : (k : Int) < (l.length : Int) := by omega
      have HP := Lib.hid (Hp.out wr hch.out k hlt _ hv)
      have Hhit : Hid (p l[k] = true → findI p l = k) := fun h => findI_hit hlt h hall.out
      have Hmiss : Hid (p l[k] = false → ∀ j (h : j < l.length), j < k + 1 → p l[j] = false) := fun hpk j h hj => by
        rcases Nat.lt_or_ge j k with g | g
        · exact hall.out j h g
        · obtain rfl : j = k := by omega
          exact hpk
      clear hv
      generalize p l[k] = pk at *
      cases pk with
      | true =>
        have HE := Lib.hid (Hhit.out rfl)
        clear Hmiss Hhit
        go_wp2_with (refine HP.out.mono ?_; rintro e w1 ⟨rfl, h1⟩)
        go_ret
        exact ⟨ret_int HE.out.symm, hch.out.thenNo h1⟩
      | false =>
        have HM := Lib.hid (Hmiss.out rfl)
        clear Hmiss Hhit
        go_wp2_with (refine HP.out.mono ?_; rintro e w1 ⟨rfl, h1⟩)
        go_roundw
        case rel => exact ⟨k + 1, hlt, by go_num, hch.out.thenNo h1, HM.out⟩
        case measure => simp [intOf]; omega
    · go_wp2
      go_ret
      exact ⟨ret_int (findI_miss (fun j h => hall.out j h (by omega))).symm, hch.out⟩
set_option maxHeartbeats 400000 in
theorem containsFunc_forms0 {n : Nat} {R : Nat → Prop} {w : World} {A : Option Addr} {l : List (FT n)} {cap : Nat} (hl : Forms R w A l cap) (fv : FuncId) (hf : Entered fv) (p : FT n → Bool)
    (hp : ∀ w', Chg No w w' → ∀ i (h : i < l.length) cs, (formV n) R w' cs l[i] → Calls Try.prog fv #[.agg cs.toArray] w' fun e w'' => e = .returned (.bool (p l[i])) ∧ Chg No w' w'') :
    Calls Try.prog 66 #[.slice A l.length cap, .func (.func fv) #[] #[]] w fun e w' => e = .returned (.bool (l.any p)) ∧ Chg No w w' := by
  have H := Lib.hid (indexFunc_forms0 hl fv hf p hp)
  clear hp hl
  go_enter Try.func66, Try.ntmps66
  go_wp2_with (refine H.out.mono ?_; rintro e w1 ⟨rfl, h1⟩)
  go_ret
  exact ⟨ret_bool (findI_ge p l), h1⟩

set_option maxHeartbeats 400000 in
theorem indexFunc_forms1 {n : Nat} {R : Nat → Prop} {w : World} {A : Option Addr} {l : List (FT n)} {cap : Nat} (hl : Forms R w A l cap) (fv : FuncId) (hf : Entered fv) (c : Value) (p : FT n → Bool)
    (hp : ∀ w', Chg No w w' → ∀ i (h : i < l.length) cs, (formV n) R w' cs l[i] → Calls Try.prog fv #[.agg cs.toArray, c] w' fun e w'' => e = .returned (.bool (p l[i])) ∧ Chg No w' w'') :
    Calls Try.prog 76 #[.slice A l.length cap, .func (.func fv) #[] #[c]] w fun e w' => e = .returned (.int .i64 (findI p l)) ∧ Chg No w w' := by
  have hb := hl.big
  unfold big at hb
  have Hp := Lib.hid hp
  have HL := Lib.hid (fun W (h : Chg No w W) => hl.no (formE_good n) h)
  clear hp hl
  unfold Entered at hf
  go_enter Try.func76, Try.ntmps76
  go_wp2
  go_loopw [8] (fun i wr => ∃ k : Nat, k ≤ l.length ∧ i = .int .i64 k ∧ Hid (Chg No w wr) ∧ Hid (∀ j (h : j < l.length), j < k → p l[j] = false)) (fun i _ => l.length - (intOf i).toNat)
  case atStart => exact ⟨0, Nat.zero_le _, rfl, Chg.refl _ _, fun j h hk => absurd hk (by omega)⟩
  case round =>
    obtain ⟨k, hk, rfl, hch, hall⟩ := hrel
    by_cases hlt : k < l.length
    · obtain ⟨b, o, v0, v1, v2, v3, rfl, hv, x0, x1, x2, x3⟩ := forms_at (HL.out wr hch.out) k hlt
      have i0 : (0 : Int) ≤ (k : Int) := by omega
      have i1 : (k : Int) < (l.length : Int) := by omega
      have HP := Lib.hid (Hp.out wr hch.out k hlt _ hv)
      have Hhit : Hid (p l[k] = true → findI p l = k) := fun h => findI_hit hlt h hall.out
      have Hmiss : Hid (p l[k] = false → ∀ j (h : j < l.length), j < k + 1 → p l[j] = false) := fun hpk j h hj => by
        rcases Nat.lt_or_ge j k with g | g
        · exact hall.out j h g
        · obtain rfl : j = k := by omega
          exact hpk
      clear hv
      generalize p l[k] = pk at *
      cases pk with
      | true =>
        have HE := Lib.hid (Hhit.out rfl)
        clear Hmiss Hhit
        go_wp2_with (refine HP.out.mono ?_; rintro e w1 ⟨rfl, h1⟩)
        go_ret
        exact ⟨ret_int HE.out.symm, hch.out.thenNo h1⟩
      | false =>
        have HM := Lib.hid (Hmiss.out rfl)
        clear Hmiss Hhit
        go_wp2_with (refine HP.out.mono ?_; rintro e w1 ⟨rfl, h1⟩)
        go_roundw
        case rel => exact ⟨k + 1, hlt, by go_num, hch.out.thenNo h1, HM.out⟩
        case measure => simp [intOf]; omega
    · go_wp2
      go_ret
      exact ⟨ret_int (findI_miss (fun j h => hall.out j h (by omega))).symm, hch.out⟩
set_option maxHeartbeats 400000 in
theorem containsFunc_forms1 {n : Nat} {R : Nat → Prop} {w : World} {A : Option Addr} {l : List (FT n)} {cap : Nat} (hl : Forms R w A l cap) (fv : FuncId) (hf : Entered fv) (c : Value) (p : FT n → Bool)
    (hp : ∀ w', Chg No w w' → ∀ i (h : i < l.length) cs, (formV n) R w' cs l[i] → Calls Try.prog fv #[.agg cs.toArray, c] w' fun e w'' => e = .returned (.bool (p l[i])) ∧ Chg No w' w'') :
    Calls Try.prog 66 #[.slice A l.length cap, .func (.func fv) #[] #[c]] w fun e w' => e = .returned (.bool (l.any p)) ∧ Chg No w w' := by
  have H := Lib.hid (indexFunc_forms1 hl fv hf c p hp)
  clear hp hl
  go_enter Try.func66, Try.ntmps66
  go_wp2_with (refine H.out.mono ?_; rintro e w1 ⟨rfl, h1⟩)
  go_ret
  exact ⟨ret_bool (findI_ge p l), h1⟩

theorem entered_deep1 : Entered 67 := fun _ _ => rfl
theorem entered_fine1 : Entered 69 := fun _ _ => rfl
def DeepOk (n : Nat) : Prop := ∀ (f : FT n) (R : Nat → Prop) (w : World) (cs : List Value), (formV n) R w cs f → ∀ (b : Nat) (z : Int), z = b → b ≤ 1000 →
    Calls Try.prog 51 #[.agg cs.toArray, .int .i64 z] w fun e w' => e = .returned (.bool (decide (b < depthF n f b))) ∧ Chg No w w'
theorem deep_law {n : Nat} {f : FT (n + 1)} {b : Nat} (hb : 1 ≤ b) : decide (b < depthF (n + 1) f b) = (Node.kids f).any (fun k => decide (b - 1 < depthF n k (b - 1))) := by
  rw [Bool.eq_iff_iff, decide_eq_true_eq, List.any_eq_true]
  have h := depthF_iff (f := f) (d := b)
  constructor
  · intro hlt
    by_cases hx : ∃ k ∈ Node.kids f, b - 1 < depthF n k (b - 1)
    · obtain ⟨k, hk, hd⟩ := hx
      exact ⟨k, hk, by simpa using hd⟩
    · exact absurd (h.2 ⟨hb, fun k hk => Nat.le_of_not_lt (fun hd => hx ⟨k, hk, hd⟩)⟩) (by omega)
  · rintro ⟨k, hk, hd⟩
    have hd' : b - 1 < depthF n k (b - 1) := by simpa using hd
    rcases Nat.lt_or_ge b (depthF (n + 1) f b) with g | g
    · exact g
    · have := (h.1 g).2 k hk; omega
set_option maxRecDepth 100000 in
set_option maxHeartbeats 2000000 in
theorem deep_step (n : Nat) (IH : Hid (DeepOk n)) : DeepOk (n + 1) := by
    rintro f R w cs h b _ rfl hb
    obtain ⟨A, cap, B, capk, rfl, i1, i2, hm, hk⟩ := node_cells h
    obtain ⟨w3, hw3⟩ : ∃ w3, w3 = (w.alloc (.cells #[.int .i64 (Node.kind f), .int .i64 (Node.lin f).1, .slice A (Node.lin f).2.length cap, .slice B (Node.kids f).length capk] 27)).alloc (.cells #[.int .i64 b] 3) := ⟨_, rfl⟩
    have h3 : Hid (Chg No w w3 ∧ w3.heap[w.heap.size]? = some (.cells #[.int .i64 (Node.kind f), .int .i64 (Node.lin f).1, .slice A (Node.lin f).2.length cap, .slice B (Node.kids f).length capk] 27 (0, 0)) ∧ w3.heap[w.heap.size + 1]? = some (.cells #[.int .i64 b] 3 (0, 0))) := by
      rw [hw3]; exact ⟨((Chg.refl _ _).alloc _).alloc _, at_old (heap_alloc_new _ _), at_new (by simp)⟩
    obtain ⟨p0, p1, p2, p3⟩ := obj_four h3.out.2.1
    have q0 : w3.cell? ⟨w.heap.size + 1, 0, none⟩ = some (.int .i64 b) := by simp [World.cell?, h3.out.2.2]
    by_cases hb1 : 1 ≤ b
    · rw [deep_law hb1]
      have hd : ¬ (b : Int) < 1 := by omega
      have HCF := Lib.hid (containsFunc_forms1 (hk.no (formE_good n) h3.out.1) 67 entered_deep1 (.pointer (some ⟨w.heap.size + 1, 0, none⟩)) (fun k => decide (b - 1 < depthF n k (b - 1))) (fun W hW i hi cs hcs => by
        have x0 : (W.alloc (.cells cs.toArray 27)).cell? ⟨w.heap.size + 1, 0, none⟩ = some (.int .i64 b) := ((Chg.refl No W).alloc _).cell (hW.cell q0 id) id
        have HI := Lib.hid (fun W' (hW' : Chg No W W') z hz => IH.out _ _ W' cs ((formV_good n).no hcs hW') (b - 1) z hz (by omega))
        obtain ⟨kd', c', A', tl', cap', B', kl', capk', rfl⟩ : ∃ kd c A tl cap B kl capk, cs = [.int .i64 kd, .int .i64 c, .slice A tl cap, .slice B kl capk] := by
          have hl := (formV_good n).len hcs
          match n, (Node.kids f)[i], hcs with
          | 0, _, h => exact h.elim
          | n + 1, _, h =>
            obtain ⟨A, cap, B, capk, e, _⟩ := node_cells h
            exact ⟨_, _, _, _, _, _, _, _, e⟩
        generalize depthF n (Node.kids f)[i] (b - 1) = dd at *
        clear hcs hk hm h
        go_enter Try.func67, Try.ntmps67
        go_wp2_with (go_at_call 51; refine (HI.out _ ((Chg.refl _ _).alloc _) _ (by omega)).mono ?_; rintro e w1 ⟨rfl, h1⟩)
        go_ret
        exact ⟨rfl, ((Chg.refl _ _).alloc _).thenNo h1⟩))
      generalize (Node.kids f).any (fun k => decide (b - 1 < depthF n k (b - 1))) = ans at *
      clear hk hm h
      go_enter Try.func51, Try.ntmps51
      go_upto_region 1 with fail
      rw [← hw3]
      clear hw3
      go_wp2_with (go_at_call 66; refine HCF.out.mono ?_; rintro e w1 ⟨rfl, h1⟩)
      go_ret
      exact ⟨rfl, h3.out.1.thenNo h1⟩
    · obtain rfl : b = 0 := by omega
      rw [show ((0 : Nat) : Int) = 0 from rfl] at hw3 q0
      clear hk hm h
      go_enter Try.func51, Try.ntmps51
      go_upto_region 1 with fail
      rw [← hw3]
      clear hw3
      go_wp2_with fail
      go_ret
      first | exact ⟨rfl, h3.out.1⟩ | exact ⟨rfl, ((Chg.refl _ _).alloc _).alloc _⟩
theorem deep_any : ∀ n, DeepOk n
  | 0 => fun _ _ _ _ h => h.elim
  | n + 1 => deep_step n (Lib.hid (deep_any n))
end Go.Proofs.Ytlejcnbpodmleaa
