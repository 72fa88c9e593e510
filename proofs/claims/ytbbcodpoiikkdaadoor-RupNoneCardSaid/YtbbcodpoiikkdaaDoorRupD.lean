/-
  The walk over RupNone.
-/
import Derived.Test.YtbbcodpoiikkdaaDoorRupC
namespace Go.Proofs.YtbbcodpoiikkdaaDoor
open Go Go.RowKit

theorem boolsTyC : SliceTy Tryd.prog 31 4 1 1 (.bool false) := ⟨Tryd.underlying31, by kernel_rfl, rfl, by decide, by decide⟩

set_option maxRecDepth 100000 in
set_option maxHeartbeats 4000000 in
theorem rupNone_walk {w : World} (hg : Handle w) (n : Int) (_ : I64 n) {A : Option Addr} {cl : List (List Int)} {cap : Nat} (hcl : Rows2 (Old w) w A cl cap) {B : Option Addr} {st : List (List Int)} {cb : Nat} (hst : Rows2 (Old w) w B st cb) :
    Calls Tryd.prog 4 #[.int .i64 n, .slice A cl.length cap, .slice B st.length cb] w fun e w' => e = .returned (.bool true) ∧ Chg No w w' := by
  have HU := Lib.hid (up_any w hg)
  have HCL := Lib.hid (fun W (h : Chg No w W) => hcl.no rowE_good h)
  have HST := Lib.hid (fun W (h : Chg No w W) => hst.no rowE_good h)
  have HL := Lib.hid (fun W (h : Chg No w W) => light7 n W (HCL.out W h) (HST.out W h))
  clear hg hcl hst
  go_enter Tryd.func4, Tryd.ntmps4
  go_upto_region 3 with (first
    | (go_at_call 7; refine HU.out.mono ?_; rintro e w1 ⟨rfl, h1⟩)
    | (go_at_call 8; refine (HL.out w1 h1).mono ?_; rintro e w2 ⟨b, rfl, hb8, rfl⟩; have HB8 := Lib.hid hb8; clear hb8))
  clear HU HL
  have H1 := Lib.hid h1
  clear h1
  cases b
  · go_wp2
    go_ret
    exact ⟨rfl, H1.out⟩
  by_cases hn0 : n < 0
  · go_wp2
    go_ret
    exact ⟨rfl, H1.out⟩
  by_cases hn8 : 8 < n
  · go_wp2
    go_ret
    exact ⟨rfl, H1.out⟩
  obtain ⟨N, rfl⟩ : ∃ N : Nat, n = N := ⟨n.toNat, by omega⟩
  have h8 : N ≤ 8 := by omega
  have HS100 : Hid (st.length ≤ 1000000) := by have := (HB8.out rfl).2; show _ ≤ _; omega
  have HRUP : Hid (∀ W, Chg No w W → Calls Tryd.prog 9 #[.int .i64 N, .slice A cl.length cap, .slice B st.length cb] W fun e w' => ∃ v, e = .returned v ∧ Hid ((∃ t x, v = .iface t x) ∨ (v = .nilIface ∧ ∀ k, allB cl (bitsB N k) = false)) ∧ Hid (Chg No w w')) := fun W h =>
    (rupCheck_any N (HCL.out W h) (HST.out W h) HS100.out).mono (by
      rintro e w' ⟨hch, c, p, hi, ⟨rfl, _, _, rfl⟩ | ⟨_, _, q, _, rfl, _⟩⟩
      · by_cases hc : c = 0
        · subst hc
          refine ⟨_, rfl, .inr ⟨errV_zero _, fun k => ?_⟩, h.thenNo hch⟩
          cases ha : allB cl (bitsB N k)
          · rfl
          · exact absurd hi (never ha (by rw [bitsB_len]; omega))
        · exact ⟨_, rfl, .inl ⟨_, _, errV_of _ hc⟩, h.thenNo hch⟩
      · exact ⟨_, rfl, .inl ⟨_, _, rfl⟩, h.thenNo hch⟩)
  clear HB8 HS100 hn0 hn8
  go_upto_region 6 with (go_at_call 9; refine (HRUP.out w1 H1.out).mono ?_; rintro e w2 ⟨v, rfl, HK, HC2⟩)
  clear HRUP
  rcases HK.out with ⟨t, x, rfl⟩ | ⟨rfl, ha⟩
  · clear HK
    go_wp2
    go_ret
    exact ⟨rfl, HC2.out⟩
  have HA := Lib.hid ha
  clear HK ha
  obtain ⟨M, hM⟩ : ∃ M, M = 2 ^ N := ⟨_, rfl⟩
  have HM9 : Hid (M ≤ 256) := by
    have := Nat.pow_le_pow_right (show 0 < 2 by decide) h8
    show M ≤ 256
    have : (2 : Nat) ^ 8 = 256 := by decide
    omega
  have hw : wrap64 ((2 : Int) ^ N) = (M : Int) := by
    have e : (2 : Int) ^ N = (M : Int) := by rw [hM]; simp
    rw [e]
    have : M ≤ 256 := HM9.out
    unfold wrap64
    omega
  clear hM
  go_upto_region 9 with fail
  go_loopw [10] (fun s10 wr => ∃ k : Nat, k ≤ M ∧ s10 = .int .i64 k ∧ Hid (Chg No w wr)) (fun s10 _ => M - (intOf s10).toNat)
  case atStart => exact ⟨0, Nat.zero_le _, rfl, HC2.out⟩
  case round =>
    obtain ⟨k, hk, rfl, HC⟩ := hrel
    by_cases hlt : k < M
    · have HV : Hid (∀ W A' cap', Chg No w W → Bools (fun _ => True) W A' (bitsB N k) cap' → Calls Tryd.prog 12 #[.slice A cl.length cap, .slice A' (bitsB N k).length cap'] W fun e w' => e = .returned (.bool false) ∧ W = w') := fun W A' cap' h g => by
        have := refValue_any (HCL.out W h) g
        rw [HA.out k] at this
        exact this
      rw [bitsB_len] at HV
      go_upto_region 12 with (at_make; refine wpList_make1 boolsTyC rfl rfl (.tmp 43) (.tmp 43) rfl N rfl rfl (by omega) ?_; intro w3 hm3 hc3 hs3)
      obtain ⟨q, hq⟩ : ∃ q, q = wr.heap.size := ⟨_, rfl⟩
      rw [← hq] at hm3 ⊢
      have HC3 : Hid (Chg No w w3) := HC.out.thenNo hc3
      have HM3 : Hid (w3.heap[q]? = some (.cells ((bitsAt N k 0).map Value.bool).toArray 4 (0, 0))) := by
        rw [bitsAt_zero, List.map_replicate]; exact hm3
      have HQ : Hid (w.heap.size ≤ q) := by rw [hq]; exact HC.out.size
      have HSTO : Hid (∀ (W : World) (j : Nat), j < N → Chg No w W → W.heap[q]? = some (.cells ((bitsAt N k j).map Value.bool).toArray 4 (0, 0)) → Chg No w (W.setCell ⟨q, j, none⟩ (.bool (bitB k j))) ∧ (W.setCell ⟨q, j, none⟩ (.bool (bitB k j))).heap[q]? = some (.cells ((bitsAt N k (j + 1)).map Value.bool).toArray 4 (0, 0))) := fun W j hj h g => by
        refine ⟨h.setCell _ _ (fun h => absurd h (by have := HQ.out; show ¬ q < w.heap.size; omega)), ?_⟩
        rw [bitsAt_next]
        simp [World.setCell, Array.getElem?_modify, g, List.map_set]
      have HAT : Hid (∀ (W : World) (j : Nat), j < N → W.heap[q]? = some (.cells ((bitsAt N k j).map Value.bool).toArray 4 (0, 0)) → (∃ v, W.cell? ⟨q, j, none⟩ = some (.bool v)) ∧ W.frozen? ⟨q, j, none⟩ = false) := fun W j hj g => by
        refine ⟨⟨(bitsAt N k j)[j]'(by rw [bitsAt_len]; exact hj), ?_⟩, by simp [World.frozen?, g]⟩
        simp [World.cell?, g, bitsAt_len, hj]
      clear hm3 hc3 hs3 hq
      go_upto_region 13 with fail
      go_loopw [12] (fun s12 wz => ∃ j : Nat, j ≤ N ∧ s12 = .int .i64 j ∧ Hid (Chg No w wz) ∧ Hid (wz.heap[q]? = some (.cells ((bitsAt N k j).map Value.bool).toArray 4 (0, 0)))) (fun s12 _ => N - (intOf s12).toNat)
      case atStart => exact ⟨0, Nat.zero_le _, rfl, HC3, HM3⟩
      case round =>
        obtain ⟨j, hj, rfl, HCZ, HZ⟩ := hrel
        by_cases hjl : j < N
        · obtain ⟨⟨v, hv⟩, hf⟩ := HAT.out _ j hjl HZ.out
          have HX := Lib.hid (HSTO.out _ j hjl HCZ.out HZ.out)
          go_wp2
          go_roundw
          case rel =>
            rw [bit_eq]
            exact ⟨j + 1, hjl, by go_num, HX.out.1, HX.out.2⟩
          case measure => simp [intOf]; omega
        · obtain rfl : j = N := by omega
          have HBS : Hid (Bools (fun _ => True) wr (some ⟨q, 0, none⟩) (bitsB j k) j) := by
            have h := HZ.out
            rw [bitsAt_all] at h
            have h2 := bools_of_block (R := fun _ => True) h trivial (by rw [bitsB_len]; unfold big; omega)
            rw [bitsB_len] at h2
            exact h2
          have HVV := Lib.hid (HV.out wr _ _ HCZ.out HBS.out)
          have hM9 : M ≤ 256 := HM9.out
          clear HBS HZ HV HSTO HAT hj
          go_wp2_with (go_at_call 12; refine HVV.out.mono ?_; rintro e w6 ⟨rfl, rfl⟩)
          go_roundw
          case rel => exact ⟨k + 1, hlt, by go_num, HCZ⟩
          case measure => simp [intOf]; omega
    · obtain rfl : k = M := by omega
      clear hk hlt HA
      go_wp2
      go_ret
      exact ⟨rfl, HC.out⟩
end Go.Proofs.YtbbcodpoiikkdaaDoor
