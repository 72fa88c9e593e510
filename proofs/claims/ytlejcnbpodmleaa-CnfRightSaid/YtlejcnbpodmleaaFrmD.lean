/-
  formula.size: a formula's size, exactly where it is no greater than 4096.
-/
import Derived.Test.YtlejcnbpodmleaaCnfC
namespace Go.Proofs.Ytlejcnbpodmleaa
open Go Go.RowKit

theorem sum_map_take {α : Type} (c : α → Nat) (ks : List α) (i : Nat) (hi : i < ks.length) : ((ks.take (i + 1)).map c).sum = ((ks.take i).map c).sum + c ks[i] ∧ ((ks.take (i + 1)).map c).sum ≤ (ks.map c).sum := by
  have e : ((ks.take (i + 1)).map c).sum = ((ks.take i).map c).sum + c ks[i] := by
    rw [List.take_succ_eq_append_getElem hi, List.map_append, List.sum_append]; simp
  refine ⟨e, ?_⟩
  have h1 : ks = ks.take (i + 1) ++ ks.drop (i + 1) := (List.take_append_drop _ _).symm
  have h2 : (ks.map c).sum = ((ks.take (i + 1)).map c).sum + ((ks.drop (i + 1)).map c).sum := by
    conv => lhs; rw [h1]
    rw [List.map_append, List.sum_append]
  omega
def SizeOk (n : Nat) : Prop := ∀ (f : FT n) (R : Nat → Prop) (w : World) (cs : List Value), (formV n) R w cs f → ∀ b : Nat, b ≤ 64 → depthF n f b ≤ b →
    Calls Try.prog 52 #[.agg cs.toArray] w fun e w' => ∃ s : Nat, e = .returned (.int .i64 s) ∧ s ≤ 5000 * (b + 1) ∧ Hid (s ≤ 4096 ∨ cntF n f ≤ 4096 → s = cntF n f) ∧ Chg No w w'
set_option maxRecDepth 100000 in
set_option maxHeartbeats 2000000 in
theorem size_step (n : Nat) (IH : Hid (SizeOk n)) : SizeOk (n + 1) := by
    rintro f R w cs h b hb hdep
    obtain ⟨A, cap, B, capk, rfl, i1, i2, hm, hk⟩ := node_cells h
    have HK := Lib.hid (fun W (h : Chg No w W) => hk.no (formE_good n) h)
    have hb2 := hk.big
    unfold big at hb2
    obtain ⟨hb1, hkd⟩ := depthF_iff.1 hdep
    have hcnt : cntF (n + 1) f = 1 + ((Node.kids f).map (cntF n)).sum := rfl
    rw [hcnt]
    have HKD := Lib.hid hkd
    clear h hm hk hdep hkd hcnt
    generalize Node.kind f = kd at *
    generalize (Node.lin f).1 = c at *
    generalize (Node.lin f).2.length = tl at *
    generalize Node.kids f = ks at *
    obtain ⟨tot, htot⟩ : ∃ tot, tot = (ks.map (cntF n)).sum := ⟨_, rfl⟩
    rw [← htot]
    have HTO := Lib.hid htot
    clear htot
    obtain ⟨w3, hw3⟩ : ∃ w3, w3 = w.alloc (.cells #[.int .i64 kd, .int .i64 c, .slice A tl cap, .slice B ks.length capk] 27) := ⟨_, rfl⟩
    have h3 : Hid (Chg No w w3 ∧ w3.heap[w.heap.size]? = some (.cells #[.int .i64 kd, .int .i64 c, .slice A tl cap, .slice B ks.length capk] 27 (0, 0))) := by
      rw [hw3]; exact ⟨(Chg.refl _ _).alloc _, heap_alloc_new _ _⟩
    go_enter Try.func52, Try.ntmps52
    go_wp2_with fail
    rw [← hw3]
    clear hw3
    go_loopw [3, 4] (fun s3 s4 wr => ∃ m i : Nat, s3 = .int .i64 m ∧ s4 = .int .i64 i ∧ i ≤ ks.length ∧ m ≤ 5000 * (b + 1) ∧ Hid (m ≤ 4096 ∨ 1 + ((ks.take i).map (cntF n)).sum ≤ 4096 → m = 1 + ((ks.take i).map (cntF n)).sum) ∧ Hid (((ks.take i).map (cntF n)).sum ≤ tot) ∧ Hid (Chg No w3 wr)) (fun _ s4 _ => ks.length - (intOf s4).toNat)
    case atStart => exact ⟨1, 0, rfl, rfl, Nat.zero_le _, by omega, fun _ => by simp, by unfold Hid; simp, Chg.refl _ _⟩
    case round =>
      obtain ⟨m, i, rfl, rfl, gi, gm, hrl, hle, hch⟩ := hrel
      obtain ⟨p0, p1, p2, p3⟩ := obj_four (hch.out.obj h3.out.2 id)
      by_cases hlt : i < ks.length
      · by_cases hm : m ≤ 4096
        · obtain ⟨b', o, v0, v1, v2, v3, rfl, hv, x0, x1, x2, x3⟩ := forms_at (HK.out wr (h3.out.1.thenNo hch.out)) i hlt
          have HI := Lib.hid (IH.out ks[i] _ wr _ hv (b - 1) (by omega) (HKD.out _ (List.getElem_mem hlt)))
          obtain ⟨q1, q2⟩ := sum_map_take (cntF n) ks i hlt
          have hmm := hrl.out (.inl hm)
          have HN : Hid (∀ s : Nat, (s ≤ 4096 ∨ cntF n ks[i] ≤ 4096 → s = cntF n ks[i]) → (m + s ≤ 4096 ∨ 1 + ((ks.take (i + 1)).map (cntF n)).sum ≤ 4096 → m + s = 1 + ((ks.take (i + 1)).map (cntF n)).sum)) := fun s hs hx => by
            have := hs (by rcases hx with h | h <;> omega)
            omega
          have HLE : Hid (((ks.take (i + 1)).map (cntF n)).sum ≤ tot) := by unfold Hid; rw [HTO.out]; exact q2
          generalize cntF n ks[i] = ck at *
          have i0 : (0 : Int) ≤ (i : Int) := by omega
          have i1 : (i : Int) < (ks.length : Int) := by omega
          have hm' : (m : Int) ≤ 4096 := by omega
          have hbb : b - 1 + 1 = b := by omega
          rw [hbb] at HI
          clear hv IH hrl hle q1 q2 hmm hbb
          go_wp2_with (go_at_call 52; refine HI.out.mono ?_; rintro e w5 ⟨s, rfl, s1, s2, h5⟩; have H5 := Lib.hid (hch.out.thenNo h5); clear h5)
          go_roundw
          case rel => exact ⟨m + s, i + 1, by simp, by go_num, hlt, by omega, HN.out s s2.out, HLE.out, H5.out⟩
          case measure => simp [intOf]; omega
        · have hm' : ¬ (m : Int) ≤ 4096 := by omega
          have HE : Hid (m ≤ 4096 ∨ 1 + tot ≤ 4096 → m = 1 + tot) := fun hx => by
            have h1 := hle.out
            rcases hx with h | h
            · omega
            · have := hrl.out (.inr (by omega)); omega
          go_wp2
          go_ret
          exact ⟨m, rfl, gm, HE.out, h3.out.1.thenNo hch.out⟩
      · obtain rfl : i = ks.length := by omega
        rw [List.take_of_length_le (Nat.le_refl _), ← HTO.out] at hrl
        go_wp2
        go_ret
        exact ⟨m, rfl, gm, hrl.out, h3.out.1.thenNo hch.out⟩
theorem formSize_any : ∀ n, SizeOk n
  | 0 => fun _ _ _ _ h => h.elim
  | n + 1 => size_step n (Lib.hid (formSize_any n))
end Go.Proofs.Ytlejcnbpodmleaa
