/-
  FrmD, FrmE, FrmF, FrmG, in one file.
-/
import Derived.Test.YtpmndblakmobdaaGreatDoorTF
import Derived.Test.YtpmndblakmobdaaGreatDoorMA
/- FrmD -/
namespace Go.Proofs.YtpmndblakmobdaaGreatDoor
open Go Go.RowKit

theorem sum_map_take {α : Type} (c : α → Nat) (ks : List α) (i : Nat) (hi : i < ks.length) : ((ks.take (i + 1)).map c).sum = ((ks.take i).map c).sum + c ks[i] ∧ ((ks.take (i + 1)).map c).sum ≤ (ks.map c).sum := by
  have e : ((ks.take (i + 1)).map c).sum = ((ks.take i).map c).sum + c ks[i] := by
    rw [List.take_succ_eq_append_getElem hi, List.map_append, List.sum_append]; simp
  refine ⟨e, ?_⟩
  have h1 : ks = ks.take (i + 1) ++ ks.drop (i + 1) := (List.take_append_drop _ _).symm
  have h2 : (ks.map c).sum = ((ks.take (i + 1)).map c).sum + ((ks.drop (i + 1)).map c).sum := by
    conv => lhs; rw [h1]
    rw [List.map_append, List.sum_append]
  omega
def SizeOk (n : Nat) : Prop := ∀ (f : FT n) (R : Nat → Prop) (w : World) (cs : List Value), (formV n) R w cs f → ∀ b : Nat, b ≤ 64 → depthF n f b ≤ b →
    Calls Tryz.prog 44 #[.agg cs.toArray] w fun e w' => ∃ s : Nat, e = .returned (.int .i64 s) ∧ s ≤ 5000 * (b + 1) ∧ Hid (s ≤ 4096 ∨ cntF n f ≤ 4096 → s = cntF n f) ∧ Chg No w w'
set_option maxRecDepth 100000 in
set_option maxHeartbeats 2000000 in
theorem size_step (n : Nat) (IH : Hid (SizeOk n)) : SizeOk (n + 1) := by
    rintro f R w cs h b hb hdep
    obtain ⟨A, cap, B, capk, rfl, i1, i2, hm, hk⟩ := node_cells h
    have HK := Lib.hid (fun W (h : Chg No w W) => hk.no (formE_good n) h)
    have hb2 := hk.big
    unfold big at hb2
    obtain ⟨hb1, hkd⟩ := depthF_iff.1 hdep
    have hcnt : cntF (n + 1) f = 1 + ((Node.kids f).map (cntF n)).sum := rfl
    rw [hcnt]
    have HKD := Lib.hid hkd
    clear h hm hk hdep hkd hcnt
    generalize Node.kind f = kd at *
    generalize (Node.lin f).1 = c at *
    generalize (Node.lin f).2.length = tl at *
    generalize Node.kids f = ks at *
    obtain ⟨tot, htot⟩ : ∃ tot, tot = (ks.map (cntF n)).sum := ⟨_, rfl⟩
    rw [← htot]
    have HTO := Lib.hid htot
    clear htot
    obtain ⟨w3, hw3⟩ : ∃ w3, w3 = w.alloc (.cells #[.int .i64 kd, .int .i64 c, .slice A tl cap, .slice B ks.length capk] 49) := ⟨_, rfl⟩
    have h3 : Hid (Chg No w w3 ∧ w3.heap[w.heap.size]? = some (.cells #[.int .i64 kd, .int .i64 c, .slice A tl cap, .slice B ks.length capk] 49 (0, 0))) := by
      rw [hw3]; exact ⟨(Chg.refl _ _).alloc _, heap_alloc_new _ _⟩
    go_enter Tryz.func44, Tryz.ntmps44
    go_wp2_with fail
    rw [← hw3]
    clear hw3
    go_loopw [3, 4] (fun s3 s4 wr => ∃ m i : Nat, s3 = .int .i64 m ∧ s4 = .int .i64 i ∧ i ≤ ks.length ∧ m ≤ 5000 * (b + 1) ∧ Hid (m ≤ 4096 ∨ 1 + ((ks.take i).map (cntF n)).sum ≤ 4096 → m = 1 + ((ks.take i).map (cntF n)).sum) ∧ Hid (((ks.take i).map (cntF n)).sum ≤ tot) ∧ Hid (Chg No w3 wr)) (fun _ s4 _ => ks.length - (intOf s4).toNat)
    case atStart => exact ⟨1, 0, rfl, rfl, Nat.zero_le _, by omega, fun _ => by simp, by unfold Hid; simp, Chg.refl _ _⟩
    case round =>
      obtain ⟨m, i, rfl, rfl, gi, gm, hrl, hle, hch⟩ := hrel
      obtain ⟨p0, p1, p2, p3⟩ := obj_four (hch.out.obj h3.out.2 id)
      by_cases hlt : i < ks.length
      · by_cases hm : m ≤ 4096
        · obtain ⟨b', o, v0, v1, v2, v3, rfl, hv, x0, x1, x2, x3⟩ := forms_at (HK.out wr (h3.out.1.thenNo hch.out)) i hlt
          have HI := Lib.hid (IH.out ks[i] _ wr _ hv (b - 1) (by omega) (HKD.out _ (List.getElem_mem hlt)))
          obtain ⟨q1, q2⟩ := sum_map_take (cntF n) ks i hlt
          have hmm := hrl.out (.inl hm)
          have HN : Hid (∀ s : Nat, (s ≤ 4096 ∨ cntF n ks[i] ≤ 4096 → s = cntF n ks[i]) → (m + s ≤ 4096 ∨ 1 + ((ks.take (i + 1)).map (cntF n)).sum ≤ 4096 → m + s = 1 + ((ks.take (i + 1)).map (cntF n)).sum)) := fun s hs hx => by
            have := hs (by rcases hx with h | h <;> omega)
            omega
          have HLE : Hid (((ks.take (i + 1)).map (cntF n)).sum ≤ tot) := by unfold Hid; rw [HTO.out]; exact q2
          generalize cntF n ks[i] = ck at *
          have i0 : (0 : Int) ≤ (i : Int) := by omega
          have i1 : (i : Int) < (ks.length : Int) := by omega
          have hm' : (m : Int) ≤ 4096 := by omega
          have hbb : b - 1 + 1 = b := by omega
          rw [hbb] at HI
          clear hv IH hrl hle q1 q2 hmm hbb
          go_wp2_with (go_at_call 44; refine HI.out.mono ?_; rintro e w5 ⟨s, rfl, s1, s2, h5⟩; have H5 := Lib.hid (hch.out.thenNo h5); clear h5)
          go_roundw
          case rel => exact ⟨m + s, i + 1, by simp, by go_num, hlt, by omega, HN.out s s2.out, HLE.out, H5.out⟩
          case measure => simp [intOf]; omega
        · have hm' : ¬ (m : Int) ≤ 4096 := by omega
          have HE : Hid (m ≤ 4096 ∨ 1 + tot ≤ 4096 → m = 1 + tot) := fun hx => by
            have h1 := hle.out
            rcases hx with h | h
            · omega
            · have := hrl.out (.inr (by omega)); omega
          go_wp2
          go_ret
          exact ⟨m, rfl, gm, HE.out, h3.out.1.thenNo hch.out⟩
      · obtain rfl : i = ks.length := by omega
        rw [List.take_of_length_le (Nat.le_refl _), ← HTO.out] at hrl
        go_wp2
        go_ret
        exact ⟨m, rfl, gm, hrl.out, h3.out.1.thenNo hch.out⟩
theorem formSize_any : ∀ n, SizeOk n
  | 0 => fun _ _ _ _ h => h.elim
  | n + 1 => size_step n (Lib.hid (formSize_any n))
end Go.Proofs.YtpmndblakmobdaaGreatDoor
/- FrmE -/
namespace Go.Proofs.YtpmndblakmobdaaGreatDoor
open Go Go.RowKit

set_option maxHeartbeats 400000 in
theorem indexFunc_forms0 {n : Nat} {R : Nat → Prop} {w : World} {A : Option Addr} {l : List (FT n)} {cap : Nat} (hl : Forms R w A l cap) (fv : FuncId) (hf : Entered fv) (p : FT n → Bool)
    (hp : ∀ w', Chg No w w' → ∀ i (h : i < l.length) cs, (formV n) R w' cs l[i] → Calls Tryz.prog fv #[.agg cs.toArray] w' fun e w'' => e = .returned (.bool (p l[i])) ∧ Chg No w' w'') :
    Calls Tryz.prog 68 #[.slice A l.length cap, .func (.func fv) #[] #[]] w fun e w' => e = .returned (.int .i64 (findI p l)) ∧ Chg No w w' := by
  have hb := hl.big
  unfold big at hb
  have Hp := Lib.hid hp
  have HL := Lib.hid (fun W (h : Chg No w W) => hl.no (formE_good n) h)
  clear hp hl
  unfold Entered at hf
  go_enter Tryz.func68, Tryz.ntmps68
  go_wp2
  go_loopw [8] (fun i wr => ∃ k : Nat, k ≤ l.length ∧ i = .int .i64 k ∧ Hid (Chg No w wr) ∧ Hid (∀ j (h : j < l.length), j < k → p l[j] = false)) (fun i _ => l.length - (intOf i).toNat)
  case atStart => exact ⟨0, Nat.zero_le _, rfl, Chg.refl _ _, fun j h hk => absurd hk (by omega)⟩
  case round =>
    obtain ⟨k, hk, rfl, hch, hall⟩ := hrel
    by_cases hlt : k < l.length
    · obtain ⟨b, o, v0, v1, v2, v3, rfl, hv, x0, x1, x2, x3⟩ := forms_at (HL.out wr hch.out) k hlt
      have i0 : (0 : Int) ≤ (k : Int) := by omega
      have i1 : (k : Int) < (l.length : Int) := by omega
      have HP := Lib.hid (Hp.out wr hch.out k hlt _ hv)
      have Hhit : Hid (p l[k] = true → findI p l = k) := fun h => findI_hit hlt h hall.out
      have Hmiss : Hid (p l[k] = false → ∀ j (h : j < l.length), j < k + 1 → p l[j] = false) := fun hpk j h hj => by
        rcases Nat.lt_or_ge j k with g | g
        · exact hall.out j h g
        · obtain rfl : j = k := by omega
          exact hpk
      clear hv
      generalize p l[k] = pk at *
      cases pk with
      | true =>
        have HE := Lib.hid (Hhit.out rfl)
        clear Hmiss Hhit
        go_wp2_with (refine HP.out.mono ?_; rintro e w1 ⟨rfl, h1⟩)
        go_ret
        exact ⟨ret_int HE.out.symm, hch.out.thenNo h1⟩
      | false =>
        have HM := Lib.hid (Hmiss.out rfl)
        clear Hmiss Hhit
        go_wp2_with (refine HP.out.mono ?_; rintro e w1 ⟨rfl, h1⟩)
        go_roundw
        case rel => exact ⟨k + 1, hlt, by go_num, hch.out.thenNo h1, HM.out⟩
        case measure => simp [intOf]; omega
    · go_wp2
      go_ret
      exact ⟨ret_int (findI_miss (fun j h => hall.out j h (by omega))).symm, hch.out⟩
set_option maxHeartbeats 400000 in
theorem containsFunc_forms0 {n : Nat} {R : Nat → Prop} {w : World} {A : Option Addr} {l : List (FT n)} {cap : Nat} (hl : Forms R w A l cap) (fv : FuncId) (hf : Entered fv) (p : FT n → Bool)
    (hp : ∀ w', Chg No w w' → ∀ i (h : i < l.length) cs, (formV n) R w' cs l[i] → Calls Tryz.prog fv #[.agg cs.toArray] w' fun e w'' => e = .returned (.bool (p l[i])) ∧ Chg No w' w'') :
    Calls Tryz.prog 46 #[.slice A l.length cap, .func (.func fv) #[] #[]] w fun e w' => e = .returned (.bool (l.any p)) ∧ Chg No w w' := by
  have H := Lib.hid (indexFunc_forms0 hl fv hf p hp)
  clear hp hl
  go_enter Tryz.func46, Tryz.ntmps46
  go_wp2_with (refine H.out.mono ?_; rintro e w1 ⟨rfl, h1⟩)
  go_ret
  exact ⟨ret_bool (findI_ge p l), h1⟩

set_option maxHeartbeats 400000 in
theorem indexFunc_forms1 {n : Nat} {R : Nat → Prop} {w : World} {A : Option Addr} {l : List (FT n)} {cap : Nat} (hl : Forms R w A l cap) (fv : FuncId) (hf : Entered fv) (c : Value) (p : FT n → Bool)
    (hp : ∀ w', Chg No w w' → ∀ i (h : i < l.length) cs, (formV n) R w' cs l[i] → Calls Tryz.prog fv #[.agg cs.toArray, c] w' fun e w'' => e = .returned (.bool (p l[i])) ∧ Chg No w' w'') :
    Calls Tryz.prog 68 #[.slice A l.length cap, .func (.func fv) #[] #[c]] w fun e w' => e = .returned (.int .i64 (findI p l)) ∧ Chg No w w' := by
  have hb := hl.big
  unfold big at hb
  have Hp := Lib.hid hp
  have HL := Lib.hid (fun W (h : Chg No w W) => hl.no (formE_good n) h)
  clear hp hl
  unfold Entered at hf
  go_enter Tryz.func68, Tryz.ntmps68
  go_wp2
  go_loopw [8] (fun i wr => ∃ k : Nat, k ≤ l.length ∧ i = .int .i64 k ∧ Hid (Chg No w wr) ∧ Hid (∀ j (h : j < l.length), j < k → p l[j] = false)) (fun i _ => l.length - (intOf i).toNat)
  case atStart => exact ⟨0, Nat.zero_le _, rfl, Chg.refl _ _, fun j h hk => absurd hk (by omega)⟩
  case round =>
    obtain ⟨k, hk, rfl, hch, hall⟩ := hrel
    by_cases hlt : k < l.length
    · obtain ⟨b, o, v0, v1, v2, v3, rfl, hv, x0, x1, x2, x3⟩ := forms_at (HL.out wr hch.out) k hlt
      have i0 : (0 : Int) ≤ (k : Int) := by omega
      have i1 : (k : Int) < (l.length : Int) := by omega
      have HP := Lib.hid (Hp.out wr hch.out k hlt _ hv)
      have Hhit : Hid (p l[k] = true → findI p l = k) := fun h => findI_hit hlt h hall.out
      have Hmiss : Hid (p l[k] = false → ∀ j (h : j < l.length), j < k + 1 → p l[j] = false) := fun hpk j h hj => by
        rcases Nat.lt_or_ge j k with g | g
        · exact hall.out j h g
        · obtain rfl : j = k := by omega
          exact hpk
      clear hv
      generalize p l[k] = pk at *
      cases pk with
      | true =>
        have HE := Lib.hid (Hhit.out rfl)
        clear Hmiss Hhit
        go_wp2_with (refine HP.out.mono ?_; rintro e w1 ⟨rfl, h1⟩)
        go_ret
        exact ⟨ret_int HE.out.symm, hch.out.thenNo h1⟩
      | false =>
        have HM := Lib.hid (Hmiss.out rfl)
        clear Hmiss Hhit
        go_wp2_with (refine HP.out.mono ?_; rintro e w1 ⟨rfl, h1⟩)
        go_roundw
        case rel => exact ⟨k + 1, hlt, by go_num, hch.out.thenNo h1, HM.out⟩
        case measure => simp [intOf]; omega
    · go_wp2
      go_ret
      exact ⟨ret_int (findI_miss (fun j h => hall.out j h (by omega))).symm, hch.out⟩
set_option maxHeartbeats 400000 in
theorem containsFunc_forms1 {n : Nat} {R : Nat → Prop} {w : World} {A : Option Addr} {l : List (FT n)} {cap : Nat} (hl : Forms R w A l cap) (fv : FuncId) (hf : Entered fv) (c : Value) (p : FT n → Bool)
    (hp : ∀ w', Chg No w w' → ∀ i (h : i < l.length) cs, (formV n) R w' cs l[i] → Calls Tryz.prog fv #[.agg cs.toArray, c] w' fun e w'' => e = .returned (.bool (p l[i])) ∧ Chg No w' w'') :
    Calls Tryz.prog 46 #[.slice A l.length cap, .func (.func fv) #[] #[c]] w fun e w' => e = .returned (.bool (l.any p)) ∧ Chg No w w' := by
  have H := Lib.hid (indexFunc_forms1 hl fv hf c p hp)
  clear hp hl
  go_enter Tryz.func46, Tryz.ntmps46
  go_wp2_with (refine H.out.mono ?_; rintro e w1 ⟨rfl, h1⟩)
  go_ret
  exact ⟨ret_bool (findI_ge p l), h1⟩

set_option maxRecDepth 10000 in
theorem entered_deep1 : Entered 66 := fun _ _ => rfl
set_option maxRecDepth 10000 in
theorem entered_fine1 : Entered 67 := fun _ _ => rfl
def DeepOk (n : Nat) : Prop := ∀ (f : FT n) (R : Nat → Prop) (w : World) (cs : List Value), (formV n) R w cs f → ∀ (b : Nat) (z : Int), z = b → b ≤ 1000 →
    Calls Tryz.prog 43 #[.agg cs.toArray, .int .i64 z] w fun e w' => e = .returned (.bool (decide (b < depthF n f b))) ∧ Chg No w w'
theorem deep_law {n : Nat} {f : FT (n + 1)} {b : Nat} (hb : 1 ≤ b) : decide (b < depthF (n + 1) f b) = (Node.kids f).any (fun k => decide (b - 1 < depthF n k (b - 1))) := by
  rw [Bool.eq_iff_iff, decide_eq_true_eq, List.any_eq_true]
  have h := depthF_iff (f := f) (d := b)
  constructor
  · intro hlt
    by_cases hx : ∃ k ∈ Node.kids f, b - 1 < depthF n k (b - 1)
    · obtain ⟨k, hk, hd⟩ := hx
      exact ⟨k, hk, by simpa using hd⟩
    · exact absurd (h.2 ⟨hb, fun k hk => Nat.le_of_not_lt (fun hd => hx ⟨k, hk, hd⟩)⟩) (by omega)
  · rintro ⟨k, hk, hd⟩
    have hd' : b - 1 < depthF n k (b - 1) := by simpa using hd
    rcases Nat.lt_or_ge b (depthF (n + 1) f b) with g | g
    · exact g
    · have := (h.1 g).2 k hk; omega
set_option maxRecDepth 100000 in
set_option maxHeartbeats 2000000 in
theorem deep_step (n : Nat) (IH : Hid (DeepOk n)) : DeepOk (n + 1) := by
    rintro f R w cs h b _ rfl hb
    obtain ⟨A, cap, B, capk, rfl, i1, i2, hm, hk⟩ := node_cells h
    obtain ⟨w3, hw3⟩ : ∃ w3, w3 = (w.alloc (.cells #[.int .i64 (Node.kind f), .int .i64 (Node.lin f).1, .slice A (Node.lin f).2.length cap, .slice B (Node.kids f).length capk] 49)).alloc (.cells #[.int .i64 b] 3) := ⟨_, rfl⟩
    have h3 : Hid (Chg No w w3 ∧ w3.heap[w.heap.size]? = some (.cells #[.int .i64 (Node.kind f), .int .i64 (Node.lin f).1, .slice A (Node.lin f).2.length cap, .slice B (Node.kids f).length capk] 49 (0, 0)) ∧ w3.heap[w.heap.size + 1]? = some (.cells #[.int .i64 b] 3 (0, 0))) := by
      rw [hw3]; exact ⟨((Chg.refl _ _).alloc _).alloc _, at_old (heap_alloc_new _ _), at_new (by simp)⟩
    obtain ⟨p0, p1, p2, p3⟩ := obj_four h3.out.2.1
    have q0 : w3.cell? ⟨w.heap.size + 1, 0, none⟩ = some (.int .i64 b) := by simp [World.cell?, h3.out.2.2]
    by_cases hb1 : 1 ≤ b
    · rw [deep_law hb1]
      have hd : ¬ (b : Int) < 1 := by omega
      have HCF := Lib.hid (containsFunc_forms1 (hk.no (formE_good n) h3.out.1) 66 entered_deep1 (.pointer (some ⟨w.heap.size + 1, 0, none⟩)) (fun k => decide (b - 1 < depthF n k (b - 1))) (fun W hW i hi cs hcs => by
        have x0 : (W.alloc (.cells cs.toArray 49)).cell? ⟨w.heap.size + 1, 0, none⟩ = some (.int .i64 b) := ((Chg.refl No W).alloc _).cell (hW.cell q0 id) id
        have HI := Lib.hid (fun W' (hW' : Chg No W W') z hz => IH.out _ _ W' cs ((formV_good n).no hcs hW') (b - 1) z hz (by omega))
        obtain ⟨kd', c', A', tl', cap', B', kl', capk', rfl⟩ : ∃ kd c A tl cap B kl capk, cs = [.int .i64 kd, .int .i64 c, .slice A tl cap, .slice B kl capk] := by
          have hl := (formV_good n).len hcs
          match n, (Node.kids f)[i], hcs with
          | 0, _, h => exact h.elim
          | n + 1, _, h =>
            obtain ⟨A, cap, B, capk, e, _⟩ := node_cells h
            exact ⟨_, _, _, _, _, _, _, _, e⟩
        generalize depthF n (Node.kids f)[i] (b - 1) = dd at *
        clear hcs hk hm h
        go_enter Tryz.func66, Tryz.ntmps66
        go_wp2_with (go_at_call 43; refine (HI.out _ ((Chg.refl _ _).alloc _) _ (by omega)).mono ?_; rintro e w1 ⟨rfl, h1⟩)
        go_ret
        exact ⟨rfl, ((Chg.refl _ _).alloc _).thenNo h1⟩))
      generalize (Node.kids f).any (fun k => decide (b - 1 < depthF n k (b - 1))) = ans at *
      clear hk hm h
      go_enter Tryz.func43, Tryz.ntmps43
      go_upto_region 1 with fail
      rw [← hw3]
      clear hw3
      go_wp2_with (go_at_call 46; refine HCF.out.mono ?_; rintro e w1 ⟨rfl, h1⟩)
      go_ret
      exact ⟨rfl, h3.out.1.thenNo h1⟩
    · obtain rfl : b = 0 := by omega
      rw [show ((0 : Nat) : Int) = 0 from rfl] at hw3 q0
      clear hk hm h
      go_enter Tryz.func43, Tryz.ntmps43
      go_upto_region 1 with fail
      rw [← hw3]
      clear hw3
      go_wp2_with fail
      go_ret
      first | exact ⟨rfl, h3.out.1⟩ | exact ⟨rfl, ((Chg.refl _ _).alloc _).alloc _⟩
theorem deep_any : ∀ n, DeepOk n
  | 0 => fun _ _ _ _ h => h.elim
  | n + 1 => deep_step n (Lib.hid (deep_any n))
end Go.Proofs.YtpmndblakmobdaaGreatDoor
/- FrmF -/
namespace Go.Proofs.YtpmndblakmobdaaGreatDoor
open Go Go.RowKit

/-- What a sound formula is at its head. -/
def okS (kd : Int) (nb lb : Bool) (kl : Nat) : Bool :=
  (decide (kd = 0) || decide (kd = 1)) && nb && decide (kl = 0) || (decide (kd = 2) || decide (kd = 3)) && lb && decide (kl = 0) || decide (kd = 4) && nb && decide (kl = 1) || (decide (kd = 5) || decide (kd = 6)) && nb
def okSN {n : Nat} (f : Node (FT n)) : Bool := okS f.kind (noneB f.lin.1 f.lin.2.length) (linB f.lin.1 f.lin.2) f.kids.length
/-- Sound, but for depth and size. -/
def fineF : (n : Nat) → FT n → Bool
  | 0, _ => false
  | n + 1, f => okSN f && (Node.kids f).all (fineF n)
def FineOk (n : Nat) : Prop := ∀ (f : FT n) (R : Nat → Prop) (w : World) (cs : List Value), (formV n) R w cs f →
    Calls Tryz.prog 45 #[.agg cs.toArray] w fun e w' => e = .returned (.bool (fineF n f)) ∧ Chg No w w'
set_option maxRecDepth 100000 in
set_option maxHeartbeats 4000000 in
theorem fine_step (n : Nat) (IH : Hid (FineOk n)) : FineOk (n + 1) := by
    rintro f R w cs h
    obtain ⟨A, cap, B, capk, rfl, i1, i2, hm, hk⟩ := node_cells h
    have HC1 := Lib.hid (fun W (h : Chg No w W) => linCheck_any (Node.lin f).1 (hm.no monoE_good h))
    have HCF := Lib.hid (fun W0 (hW0 : Chg No w W0) => containsFunc_forms0 (hk.no (formE_good n) hW0) 67 entered_fine1 (fun k => !fineF n k) (fun W hW i hi cs hcs => by
        have HI := Lib.hid (fun W' (hW' : Chg No W W') => IH.out _ _ W' cs ((formV_good n).no hcs hW'))
        obtain ⟨kd', c', A', tl', cap', B', kl', capk', rfl⟩ := shape4 hcs
        generalize fineF n (Node.kids f)[i] = dd at *
        clear hcs hk hm h
        go_enter Tryz.func67, Tryz.ntmps67
        go_wp2_with (go_at_call 45; refine (HI.out _ (by first | exact (Chg.refl _ _).alloc _ | exact Chg.refl _ _)).mono ?_; rintro e w1 ⟨rfl, h1⟩)
        go_ret
        first | exact ⟨rfl, ((Chg.refl _ _).alloc _).thenNo h1⟩ | exact ⟨rfl, h1⟩))
    have hb1 := hm.big
    have hb2 := hk.big
    unfold big at hb1 hb2
    have hany : (Node.kids f).any (fun k => !fineF n k) = !(Node.kids f).all (fineF n) := by
      induction Node.kids f with
      | nil => rfl
      | cons k ks ih => simp only [List.any_cons, List.all_cons, ih, Bool.not_and]
    obtain ⟨ans, hans2⟩ : ∃ ans, ans = fineF (n + 1) f := ⟨_, rfl⟩
    rw [← hans2]
    have hans : fineF (n + 1) f = (okS (Node.kind f) (noneB (Node.lin f).1 (Node.lin f).2.length) (linB (Node.lin f).1 (Node.lin f).2) (Node.kids f).length && (Node.kids f).all (fineF n)) := rfl
    have hnil : (Node.kids f).length = 0 → (Node.kids f).all (fineF n) = true := fun h0 => by
      rw [List.eq_nil_of_length_eq_zero h0]; rfl
    rw [hans] at hans2
    rw [hany] at HCF
    have HANS := Lib.hid hans2
    have HNIL := Lib.hid hnil
    clear h hm hk hans hans2 hany IH hnil
    generalize (Node.kids f).all (fineF n) = al at *
    generalize linB (Node.lin f).1 (Node.lin f).2 = lb at *
    generalize Node.kind f = kd at *
    generalize (Node.lin f).1 = c at *
    generalize (Node.lin f).2.length = tl at *
    generalize (Node.kids f).length = kl at *
    obtain ⟨w3, hw3⟩ : ∃ w3, w3 = w.alloc (.cells #[.int .i64 kd, .int .i64 c, .slice A tl cap, .slice B kl capk] 49) := ⟨_, rfl⟩
    have h3 : Hid (Chg No w w3 ∧ w3.heap[w.heap.size]? = some (.cells #[.int .i64 kd, .int .i64 c, .slice A tl cap, .slice B kl capk] 49 (0, 0))) := by
      rw [hw3]; exact ⟨(Chg.refl _ _).alloc _, heap_alloc_new _ _⟩
    obtain ⟨nb, hnb⟩ : ∃ nb, nb = noneB c tl := ⟨_, rfl⟩
    have HNB := Lib.hid hnb
    rw [← hnb] at HANS
    clear hnb
    go_enter Tryz.func45, Tryz.ntmps45
    go_upto_region 1 with fail
    go_cut [3] (fun s3 wx => s3 = .bool nb ∧ wx = w3)
    case first =>
      clear HANS HC1 HCF
      by_cases hc : c = 0
      · subst hc
        by_cases ht : tl = 0
        · subst ht
          go_wp2_with fail
          go_meet
          exact ⟨by rw [HNB.out]; rfl, hw3.symm⟩
        · have e1 : ((tl : Int) == 0) = false := by simp; omega
          go_wp2_with fail
          go_meet
          exact ⟨by rw [HNB.out]; simp [noneB, ht], hw3.symm⟩
      · have e1 : (c == 0) = false := by simp [hc]
        go_wp2_with fail
        go_meet
        exact ⟨by rw [HNB.out]; simp [noneB, hc], hw3.symm⟩
    case rest =>
    obtain ⟨rfl, rfl⟩ := hcut
    clear hw3 HNB
    obtain ⟨p0, p1, p2, p3⟩ := obj_four h3.out.2
    have RET : Hid (∀ (q : Bool) (W : World), q = ans → Chg No w W → Ending.returned (.bool q) = Ending.returned (.bool ans) ∧ Chg No w W) := fun q W h g => ⟨by rw [h], g⟩
    by_cases h0 : kd = 0 ∨ kd = 1
    · have HO : Hid (ans = (nb && decide (kl = 0))) := by
        unfold Hid; rw [HANS.out]
        by_cases hz : kl = 0
        · rw [HNIL.out hz]; rcases h0 with rfl | rfl <;> simp [okS]
        · rcases h0 with rfl | rfl <;> simp [okS, hz]
      clear HANS HC1 HCF HNIL
      rcases h0 with rfl | rfl
      all_goals
        cases nb
        all_goals
          go_wp2_with fail
          go_ret
          exact RET.out _ _ (by rw [HO.out]; simp [beq0]) h3.out.1
    have n0 : (kd == 0) = false := by simp; omega
    have n1 : (kd == 1) = false := by simp; omega
    by_cases h2 : kd = 2 ∨ kd = 3
    · have HO : Hid (ans = (lb && decide (kl = 0))) := by
        unfold Hid; rw [HANS.out]
        by_cases hz : kl = 0
        · rw [HNIL.out hz]; rcases h2 with rfl | rfl <;> simp [okS]
        · rcases h2 with rfl | rfl <;> simp [okS, hz]
      clear HANS HCF HNIL n0 n1
      cases lb
      · rw [show (if false = true then (0 : Int) else 5) = 5 from rfl, show errV 83 5 = .iface 83 (.int .i64 5) by simp [errV]] at HC1
        have e : ans = false := HO.out
        subst e
        rcases h2 with rfl | rfl
        all_goals
          go_wp2_with (go_at_call 40; refine (HC1.out _ h3.out.1).mono ?_; rintro e w1 ⟨rfl, h1⟩; have r1 := h1.cell p1 id; have r2 := h1.cell p2 id; have r3 := h1.cell p3 id; have H1 := Lib.hid (h3.out.1.thenNo h1); clear h1)
          go_ret
          exact ⟨rfl, H1.out⟩
      · rw [show (if true = true then (0 : Int) else 5) = 0 from rfl, show errV 83 0 = .nilIface by simp [errV]] at HC1
        have HO1 : Hid (ans = decide (kl = 0)) := HO.out
        clear HO
        rcases h2 with rfl | rfl
        all_goals
          go_wp2_with (go_at_call 40; refine (HC1.out _ h3.out.1).mono ?_; rintro e w1 ⟨rfl, h1⟩; have r1 := h1.cell p1 id; have r2 := h1.cell p2 id; have r3 := h1.cell p3 id; have H1 := Lib.hid (h3.out.1.thenNo h1); clear h1)
          go_ret
          exact RET.out _ _ (by rw [HO1.out, beq0]) H1.out
    have n2 : (kd == 2) = false := by simp; omega
    have n3 : (kd == 3) = false := by simp; omega
    clear HC1 HNIL
    by_cases h4 : kd = 4
    · subst h4
      clear n0 n1 n2 n3
      have HO : Hid (ans = (nb && decide (kl = 1) && al)) := by unfold Hid; rw [HANS.out]; simp [okS]
      clear HANS
      by_cases hl : kl = 1
      · have e1 : ((kl : Int) != 1) = false := by simp [hl]
        have HO1 : Hid (ans = (nb && al)) := by unfold Hid; rw [HO.out]; simp [hl]
        clear HO hl
        cases nb
        · have e : ans = false := HO1.out
          subst e
          clear HCF
          go_wp2_with fail
          go_ret
          exact ⟨rfl, h3.out.1⟩
        · go_wp2_with (go_at_call 46; refine (HCF.out _ h3.out.1).mono ?_; rintro e w1 ⟨rfl, h1⟩)
          go_ret
          exact RET.out _ _ (by rw [HO1.out]; simp) (h3.out.1.thenNo h1)
      · have e1 : ((kl : Int) != 1) = true := by simp; omega
        have e : ans = false := by rw [HO.out]; simp [hl]
        subst e
        clear HO hl HCF
        go_wp2_with fail
        go_ret
        exact ⟨rfl, h3.out.1⟩
    have n4 : (kd == 4) = false := by simp; omega
    by_cases h5 : kd = 5 ∨ kd = 6
    · have HO1 : Hid (ans = (nb && al)) := by unfold Hid; rw [HANS.out]; rcases h5 with rfl | rfl <;> simp [okS]
      clear HANS n0 n1 n2 n3 n4
      cases nb
      · have e : ans = false := HO1.out
        subst e
        clear HCF
        rcases h5 with rfl | rfl
        all_goals
          go_wp2_with fail
          go_ret
          exact ⟨rfl, h3.out.1⟩
      · rcases h5 with rfl | rfl
        all_goals
          go_wp2_with (go_at_call 46; refine (HCF.out _ h3.out.1).mono ?_; rintro e w1 ⟨rfl, h1⟩)
          go_ret
          exact RET.out _ _ (by rw [HO1.out]; simp) (h3.out.1.thenNo h1)
    · have e : ans = false := by
        rw [HANS.out]
        have h' : kd ≠ 5 ∧ kd ≠ 6 := by omega
        have h'' : kd ≠ 0 ∧ kd ≠ 1 := by omega
        have h3' : kd ≠ 2 ∧ kd ≠ 3 := by omega
        simp [okS, h4, h'.1, h'.2, h''.1, h''.2, h3'.1, h3'.2]
      have n5 : (kd == 5) = false := by simp; omega
      have n6 : (kd == 6) = false := by simp; omega
      subst e
      clear HANS HCF
      go_wp2_with fail
      go_ret
      exact ⟨rfl, h3.out.1⟩
theorem fine_any : ∀ n, FineOk n
  | 0 => fun _ _ _ _ h => h.elim
  | n + 1 => fine_step n (Lib.hid (fine_any n))

end Go.Proofs.YtpmndblakmobdaaGreatDoor
/- FrmG -/
namespace Go.Proofs.YtpmndblakmobdaaGreatDoor
open Go Go.RowKit

theorem goF_cnt {α : Type} {s : α → Int → Int} {c : α → Nat} : ∀ (ks : List α) (l : Int), (∀ k ∈ ks, ∀ l, (c k : Int) ≤ l → s k l = l - c k) → ((ks.map c).sum : Int) ≤ l → goF s ks l = l - (ks.map c).sum
  | [], l, _, _ => by simp [goF]
  | k :: ks, l, h, hl => by
    rw [List.map_cons, List.sum_cons] at hl ⊢
    unfold goF
    rw [if_pos (by omega), h k List.mem_cons_self l (by omega), goF_cnt ks _ (fun k hk => h k (List.mem_cons_of_mem _ hk)) (by omega)]
    omega
theorem size_of_cnt : ∀ (n : Nat) (f : FT n) (l : Int), (cntF n f : Int) ≤ l → sizeF n f l = l - cntF n f
  | 0, _, l, _ => by simp [sizeF, cntF]
  | n + 1, f, l, h => by
    have e : cntF (n + 1) f = 1 + ((Node.kids f).map (cntF n)).sum := rfl
    rw [e] at h ⊢
    show goF (sizeF n) (Node.kids f) (l - 1) = _
    rw [goF_cnt (Node.kids f) (l - 1) (fun k _ l hl => size_of_cnt n k l hl) (by omega)]
    omega
theorem size_neg (n : Nat) (f : FT n) (l : Int) (h0 : 0 ≤ l) : sizeF n f l < 0 ↔ l < cntF n f := by
  constructor
  · intro h
    rcases Int.lt_or_le l (cntF n f) with g | g
    · exact g
    · have := size_of_cnt n f l g; omega
  · intro h
    rcases Int.lt_or_le (sizeF n f l) 0 with g | g
    · exact g
    · have := size_cnt n f l h0 g; omega
/-- What is amiss with a formula. -/
def chkF (n : Nat) (f : FT n) : Int := if 64 < depthF n f 64 then 4 else if 4096 < cntF n f then 2 else if fineF n f = true then 0 else 5
theorem chkF_range (n : Nat) (f : FT n) : 0 ≤ chkF n f ∧ chkF n f ≤ 16 := by
  unfold chkF
  split
  · omega
  · split
    · omega
    · split <;> omega
theorem chkF_zero {n : Nat} {f : FT n} (h : chkF n f = 0) : depthF n f 64 ≤ 64 ∧ cntF n f ≤ 4096 ∧ fineF n f = true := by
  unfold chkF at h
  split at h
  · omega
  · split at h
    · omega
    · split at h
      · rename_i h1 h2 h3
        exact ⟨by omega, by omega, h3⟩
      · omega

set_option maxHeartbeats 1000000 in
theorem formCheck_any {n : Nat} {f : FT n} {R : Nat → Prop} {w : World} {cs : List Value} (h : (formV n) R w cs f) :
    Calls Tryz.prog 29 #[.agg cs.toArray] w fun e w' => e = .returned (errV 83 (chkF n f)) ∧ Chg No w w' := by
  have hg := formV_good n
  obtain ⟨kd, c, A, tl, cap, B, kl, capk, rfl⟩ := shape4 h
  have HD := Lib.hid (fun W (hc : Chg No w W) z => deep_any n f R W _ (hg.no h hc) 64 z)
  have HS := Lib.hid (fun (hd : depthF n f 64 ≤ 64) W (hc : Chg No w W) => formSize_any n f R W _ (hg.no h hc) 64 (by omega) hd)
  have HF := Lib.hid (fun W (hc : Chg No w W) => fine_any n f R W _ (hg.no h hc))
  clear h
  unfold chkF
  generalize depthF n f 64 = d at *
  generalize cntF n f = s at *
  generalize fineF n f = o at *
  have hcw : Hid (Chg No w (w.alloc (.cells #[.int .i64 kd, .int .i64 c, .slice A tl cap, .slice B kl capk] 49)) ∧ (w.alloc (.cells #[.int .i64 kd, .int .i64 c, .slice A tl cap, .slice B kl capk] 49)).heap[w.heap.size]? = some (.cells #[.int .i64 kd, .int .i64 c, .slice A tl cap, .slice B kl capk] 49 (0, 0))) := ⟨(Chg.refl _ _).alloc _, heap_alloc_new _ _⟩
  have ST : Hid (∀ W W', (Chg No w W ∧ W.heap[w.heap.size]? = some (.cells #[.int .i64 kd, .int .i64 c, .slice A tl cap, .slice B kl capk] 49 (0, 0))) → Chg No W W' → (Chg No w W' ∧ W'.heap[w.heap.size]? = some (.cells #[.int .i64 kd, .int .i64 c, .slice A tl cap, .slice B kl capk] 49 (0, 0)))) := fun W W' h h' => ⟨h.1.thenNo h', h'.obj h.2 id⟩
  by_cases hd : 64 < d
  · rw [if_pos hd, errV_of _ (by decide)]
    have e1 : decide (64 < d) = true := by simpa using hd
    rw [e1] at HD
    go_enter Tryz.func29, Tryz.ntmps29
    go_wp2_with (go_at_call 43; refine (HD.out _ hcw.out.1 _ (by rfl) (by omega)).mono ?_; rintro e w1 ⟨rfl, h1⟩; have H1 := Lib.hid (ST.out _ _ hcw.out h1); obtain ⟨p0, p1, p2, p3⟩ := obj_four H1.out.2; clear h1)
    go_ret
    exact ⟨rfl, H1.out.1⟩
  rw [if_neg hd]
  have HS1 := Lib.hid (HS.out (by omega))
  have e1 : decide (64 < d) = false := by simpa using hd
  rw [e1] at HD
  clear HS
  by_cases hs : 4096 < s
  · rw [if_pos hs, errV_of _ (by decide)]
    have hs' : Hid (∀ x : Nat, (x ≤ 4096 ∨ s ≤ 4096 → x = s) → (4096 : Int) < x) := fun x hx => by
      rcases Nat.lt_or_ge 4096 x with g | g
      · omega
      · have := hx (.inl g); omega
    clear hs
    go_enter Tryz.func29, Tryz.ntmps29
    go_wp2_with (first
      | (go_at_call 43; refine (HD.out _ hcw.out.1 _ (by rfl) (by omega)).mono ?_; rintro e w1 ⟨rfl, h1⟩; have H1 := Lib.hid (ST.out _ _ hcw.out h1); obtain ⟨p0, p1, p2, p3⟩ := obj_four H1.out.2; clear h1)
      | (go_at_call 44; refine (HS1.out _ H1.out.1).mono ?_; rintro e w2 ⟨x, rfl, _, hx, h2⟩; have H2 := Lib.hid (ST.out _ _ H1.out h2); obtain ⟨q0, q1, q2, q3⟩ := obj_four H2.out.2; have hx' := hs'.out x hx.out; clear h2 hx))
    go_ret
    exact ⟨rfl, H2.out.1⟩
  rw [if_neg hs]
  have hs' : Hid (∀ x : Nat, (x ≤ 4096 ∨ s ≤ 4096 → x = s) → ¬ (4096 : Int) < x) := fun x hx => by
    have := hx (.inr (by omega)); omega
  clear hs
  cases o
  · rw [if_neg (by decide), errV_of _ (by decide)]
    go_enter Tryz.func29, Tryz.ntmps29
    go_wp2_with (first
      | (go_at_call 43; refine (HD.out _ hcw.out.1 _ (by rfl) (by omega)).mono ?_; rintro e w1 ⟨rfl, h1⟩; have H1 := Lib.hid (ST.out _ _ hcw.out h1); obtain ⟨p0, p1, p2, p3⟩ := obj_four H1.out.2; clear h1)
      | (go_at_call 44; refine (HS1.out _ H1.out.1).mono ?_; rintro e w2 ⟨x, rfl, _, hx, h2⟩; have H2 := Lib.hid (ST.out _ _ H1.out h2); obtain ⟨q0, q1, q2, q3⟩ := obj_four H2.out.2; have hx' := hs'.out x hx.out; clear h2 hx)
      | (go_at_call 45; refine (HF.out _ H2.out.1).mono ?_; rintro e w3 ⟨rfl, h3⟩))
    go_ret
    exact ⟨rfl, H2.out.1.thenNo h3⟩
  · rw [if_pos rfl, errV_zero]
    go_enter Tryz.func29, Tryz.ntmps29
    go_wp2_with (first
      | (go_at_call 43; refine (HD.out _ hcw.out.1 _ (by rfl) (by omega)).mono ?_; rintro e w1 ⟨rfl, h1⟩; have H1 := Lib.hid (ST.out _ _ hcw.out h1); obtain ⟨p0, p1, p2, p3⟩ := obj_four H1.out.2; clear h1)
      | (go_at_call 44; refine (HS1.out _ H1.out.1).mono ?_; rintro e w2 ⟨x, rfl, _, hx, h2⟩; have H2 := Lib.hid (ST.out _ _ H1.out h2); obtain ⟨q0, q1, q2, q3⟩ := obj_four H2.out.2; have hx' := hs'.out x hx.out; clear h2 hx)
      | (go_at_call 45; refine (HF.out _ H2.out.1).mono ?_; rintro e w3 ⟨rfl, h3⟩))
    go_ret
    exact ⟨rfl, H2.out.1.thenNo h3⟩

end Go.Proofs.YtpmndblakmobdaaGreatDoor
