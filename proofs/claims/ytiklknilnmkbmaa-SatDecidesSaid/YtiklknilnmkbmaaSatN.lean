/-
  SatDecides: all values of up to eight variables (plain), and the walk.
-/
import Derived.Test.YtiklknilnmkbmaaSatM
namespace Go.Proofs.Ytiklknilnmkbmaa
open Go Go.RowKit

def bitB (k j : Nat) : Bool := decide (k / 2 ^ j % 2 = 1)
def bitsB (N k : Nat) : List Bool := (List.range N).map (bitB k)
def bitsAt (N k j : Nat) : List Bool := (List.range N).map fun i => decide (i < j) && bitB k i
theorem bitsB_len (N k : Nat) : (bitsB N k).length = N := by simp [bitsB]
theorem bitsAt_len (N k j : Nat) : (bitsAt N k j).length = N := by simp [bitsAt]
theorem bitsAt_all (N k : Nat) : bitsAt N k N = bitsB N k := by
  unfold bitsAt bitsB
  refine List.map_congr_left fun i hi => ?_
  rw [decide_eq_true (List.mem_range.1 hi), Bool.true_and]
theorem bitsAt_zero (N k : Nat) : bitsAt N k 0 = List.replicate N false := by
  refine List.ext_getElem (by simp [bitsAt]) fun i h1 h2 => ?_
  simp [bitsAt]
theorem bitsAt_next {N k j : Nat} : bitsAt N k (j + 1) = (bitsAt N k j).set j (bitB k j) := by
  unfold bitsAt
  refine List.ext_getElem (by simp) fun i h1 h2 => ?_
  rw [List.getElem_set]
  simp only [List.getElem_map, List.getElem_range]
  by_cases h : j = i
  · subst h; simp
  · rw [if_neg h]
    have : decide (i < j + 1) = decide (i < j) := by
      by_cases g : i < j
      · rw [decide_eq_true g, decide_eq_true (by omega)]
      · rw [decide_eq_false g, decide_eq_false (by omega)]
    rw [this]
theorem bits_every : ∀ vs : List Bool, ∃ k, k < 2 ^ vs.length ∧ bitsB vs.length k = vs
  | [] => ⟨0, by simp, rfl⟩
  | b :: vs => by
    obtain ⟨k, hk, he⟩ := bits_every vs
    have hd : (2 * k + (if b then 1 else 0)) / 2 = k := by cases b <;> simp <;> omega
    refine ⟨2 * k + (if b then 1 else 0), ?_, ?_⟩
    · rw [List.length_cons, Nat.pow_succ]; split <;> omega
    · show (List.range (vs.length + 1)).map _ = _
      rw [List.range_succ_eq_map, List.map_cons, List.map_map]
      congr 1
      · unfold bitB
        rw [Nat.pow_zero, Nat.div_one]
        cases b
        · exact decide_eq_false (by simp)
        · exact decide_eq_true (by simp <;> omega)
      · rw [← he, bitsB_len]
        unfold bitsB
        refine List.map_congr_left fun i _ => ?_
        unfold bitB
        have : (2 * k + (if b then 1 else 0)) / 2 ^ (i + 1) = k / 2 ^ i := by
          rw [Nat.pow_succ, Nat.mul_comm (2 ^ i) 2, ← Nat.div_div_eq_div_mul, hd]
        show decide ((2 * k + (if b then 1 else 0)) / 2 ^ (i + 1) % 2 = 1) = _
        rw [this]
/-- Some of the first k values make all true. -/
def someB (cl : List (List Int)) (N k : Nat) : Bool := (List.range k).any fun x => allB cl (bitsB N x)
theorem someB_next (cl : List (List Int)) (N k : Nat) : someB cl N (k + 1) = (someB cl N k || allB cl (bitsB N k)) := by
  unfold someB
  rw [List.range_succ, List.any_append]; simp
theorem someB_of {cl : List (List Int)} {N : Nat} {vs : List Bool} (h : allB cl vs = true) (hl : vs.length = N) : someB cl N (2 ^ N) = true := by
  subst hl
  obtain ⟨k, hk, he⟩ := bits_every vs
  exact List.any_eq_true.2 ⟨k, List.mem_range.2 hk, by rw [he]; exact h⟩
theorem someB_no {n : Int} {cl st : List (List Int)} {N : Nat} (hn : n = N) (h : RupIs n cl st 0 (-1)) : someB cl N (2 ^ N) = false := by
  cases hs : someB cl N (2 ^ N)
  · rfl
  · obtain ⟨k, _, ha⟩ := List.any_eq_true.1 hs
    exact absurd h (never ha (by rw [bitsB_len]; omega))

theorem bit_eq (k j : Nat) : (((k : Int) / 2 ^ j).tmod 2 == 1) = bitB k j := by
  have e : (k : Int) / 2 ^ j = ((k / 2 ^ j : Nat) : Int) := by simp
  rw [e, Int.tmod_eq_emod_of_nonneg (Int.natCast_nonneg _)]
  unfold bitB
  generalize k / 2 ^ j = m
  by_cases h : m % 2 = 1
  · rw [decide_eq_true h]
    exact beq_iff_eq.2 (by omega)
  · rw [decide_eq_false h]
    exact beq_eq_false_iff_ne.2 (by omega)
set_option maxRecDepth 100000 in
set_option maxHeartbeats 4000000 in
theorem satDecides_head {w : World} (n : Int) {A : Option Addr} {cl : List (List Int)} {cap : Nat} (hcl : Rows2 (Old w) w A cl cap) (hno : 8 < n ∨ chk n cl ≠ 0) :
    Calls Try.prog 4 #[.int .i64 n, .slice A cl.length cap] w fun e w' => e = .returned (.bool true) ∧ Chg No w w' := by
  have HU := Lib.hid (up_any w)
  have HCL := Lib.hid (fun W (h : Chg No w W) => hcl.no rowE_good h)
  have HL := Lib.hid (fun W (h : Chg No w W) => light8 n _ W A cl cap (HCL.out W h))
  have HR := Lib.hid (fun W (h : Chg No w W) => refCheck_any n _ W A cl cap (HCL.out W h))
  clear hcl
  by_cases hn : 8 < n
  · clear hno
    go_enter Try.func4, Try.ntmps4
    go_wp2_with (first
      | (go_at_call 6; refine HU.out.mono ?_; rintro e w1 ⟨rfl, h1⟩)
      | (go_at_call 7; refine (HL.out w1 h1).mono ?_; rintro e w2 ⟨b, rfl, hb8, rfl⟩; have HB8 := Lib.hid hb8; clear hb8))
    all_goals
      go_ret
      exact ⟨rfl, h1⟩
  · have hk : chk n cl ≠ 0 := by rcases hno with h | h; exact absurd h hn; exact h
    clear hno
    generalize chk n cl = ck at *
    have hck : (ck != 0) = true := by simpa using hk
    clear hk
    go_enter Try.func4, Try.ntmps4
    go_wp2_with (first
      | (go_at_call 6; refine HU.out.mono ?_; rintro e w1 ⟨rfl, h1⟩)
      | (go_at_call 7; refine (HL.out w1 h1).mono ?_; rintro e w2 ⟨b, rfl, hb8, rfl⟩; have HB8 := Lib.hid hb8; clear hb8)
      | (go_at_call 10; refine (HR.out w1 h1).mono ?_; rintro e w2 ⟨rfl, rfl⟩))
    all_goals
      go_ret
      exact ⟨rfl, h1⟩

set_option maxRecDepth 100000 in
set_option maxHeartbeats 4000000 in
theorem satDecides_all {w : World} (N : Nat) {A : Option Addr} {cl : List (List Int)} {cap : Nat} (hcl : Rows2 (Old w) w A cl cap) (h8 : N ≤ 8) (hk : chk N cl = 0) :
    Calls Try.prog 4 #[.int .i64 N, .slice A cl.length cap] w fun e w' => e = .returned (.bool true) ∧ Chg No w w' := by
  have HU := Lib.hid (up_any w)
  have HCL := Lib.hid (fun W (h : Chg No w W) => hcl.no rowE_good h)
  have HL := Lib.hid (fun W (h : Chg No w W) => light8 N _ W A cl cap (HCL.out W h))
  have HR := Lib.hid (fun W (h : Chg No w W) => refCheck_any N _ W A cl cap (HCL.out W h))
  have HSol := Lib.hid (fun W (h : Chg No w W) => solve_any N (HCL.out W h) 10000 (by omega))
  have HK := Lib.hid hk
  rw [hk] at HR
  clear hcl hk
  go_enter Try.func4, Try.ntmps4
  go_upto_region 3 with (first
    | (go_at_call 6; refine HU.out.mono ?_; rintro e w1 ⟨rfl, h1⟩)
    | (go_at_call 7; refine (HL.out w1 h1).mono ?_; rintro e w2 ⟨b, rfl, hb8, rfl⟩; have HB8 := Lib.hid hb8; clear hb8))
  clear HU HL
  have H1 := Lib.hid h1
  clear h1
  cases b
  · go_wp2
    go_ret
    exact ⟨rfl, H1.out⟩
  have HS : Hid (∀ W, Chg No w W → Calls Try.prog 8 #[.int .i64 N, .slice A cl.length cap, .int .i64 10000] W fun e w' => ∃ kind A1 n1 c1 A2 n2 c2, e = .returned (.tuple #[.agg #[.int .i64 kind, .slice A1 n1 c1, .slice A2 n2 c2], .nilIface]) ∧ Hid ((kind = 1 ∧ someB cl N (2 ^ N) = true) ∨ (kind = 2 ∧ someB cl N (2 ^ N) = false)) ∧ Hid (Chg No w w')) := fun W h =>
    (HSol.out W h).mono (by
      rintro e w' ⟨kind, st, vs, c, AS, cs, AV, cv, hs, rfl, _, _, hch⟩
      obtain ⟨hl, hc⟩ := HB8.out rfl
      rcases hs with ⟨g, _⟩ | ⟨_, _, _, _, _, g⟩ | ⟨_, rfl, _, rfl, _, ha, hl⟩ | ⟨_, rfl, _, rfl, _, g, _⟩
      · exact absurd HK.out g
      · exact absurd (enough_small HK.out (by omega) hl hc (by omega)) g
      · rw [errV_zero]
        exact ⟨_, _, _, _, _, _, _, rfl, .inl ⟨rfl, someB_of ha (by omega)⟩, h.thenNo hch⟩
      · rw [errV_zero]
        exact ⟨_, _, _, _, _, _, _, rfl, .inr ⟨rfl, someB_no rfl g⟩, h.thenNo hch⟩)
  clear HSol HB8
  obtain ⟨M, hM⟩ : ∃ M, M = 2 ^ N := ⟨_, rfl⟩
  rw [← hM] at HS
  have HM := Lib.hid hM
  go_upto_region 7 with (go_at_call 10; refine (HR.out w1 H1.out).mono ?_; rintro e w2 ⟨rfl, rfl⟩)
  have HM9 : Hid (M ≤ 256) := by
    have := Nat.pow_le_pow_right (show 0 < 2 by decide) h8
    show M ≤ 256
    have : (2 : Nat) ^ 8 = 256 := by decide
    omega
  have hw : wrap64 ((2 : Int) ^ N) = (M : Int) := by
    have e : (2 : Int) ^ N = (M : Int) := by rw [hM]; simp
    rw [e]
    have := HM9.out
    have : M ≤ 256 := this
    unfold wrap64
    omega
  clear hM HR
  go_loopw [7, 8] (fun s7 s8 wr => ∃ k : Nat, k ≤ M ∧ s7 = .bool (someB cl N k) ∧ s8 = .int .i64 k ∧ Hid (Chg No w wr)) (fun _ s8 _ => M - (intOf s8).toNat)
  case atStart => exact ⟨0, Nat.zero_le _, rfl, rfl, H1.out⟩
  case round =>
    obtain ⟨k, hk, rfl, rfl, HC⟩ := hrel
    by_cases hlt : k < M
    · have HN := Lib.hid (someB_next cl N k)
      have HV : Hid (∀ W A' cap', Chg No w W → Bools (fun _ => True) W A' (bitsB N k) cap' → Calls Try.prog 13 #[.slice A cl.length cap, .slice A' (bitsB N k).length cap'] W fun e w' => e = .returned (.bool (allB cl (bitsB N k))) ∧ W = w') := fun W A' cap' h g => refValue_any (HCL.out W h) g
      rw [bitsB_len] at HV
      go_upto_region 10 with (at_make; refine wpList_make1 boolsTyC rfl rfl (.tmp 37) (.tmp 37) rfl N rfl rfl (by omega) ?_; intro w3 hm3 hc3 hs3)
      obtain ⟨q, hq⟩ : ∃ q, q = wr.heap.size := ⟨_, rfl⟩
      rw [← hq] at hm3 ⊢
      have HC3 : Hid (Chg No w w3) := HC.out.thenNo hc3
      have HM3 : Hid (w3.heap[q]? = some (.cells ((bitsAt N k 0).map Value.bool).toArray 4 (0, 0))) := by
        rw [bitsAt_zero, List.map_replicate]; exact hm3
      have HQ : Hid (w.heap.size ≤ q) := by rw [hq]; exact HC.out.size
      have HST : Hid (∀ (W : World) (j : Nat), j < N → Chg No w W → W.heap[q]? = some (.cells ((bitsAt N k j).map Value.bool).toArray 4 (0, 0)) → Chg No w (W.setCell ⟨q, j, none⟩ (.bool (bitB k j))) ∧ (W.setCell ⟨q, j, none⟩ (.bool (bitB k j))).heap[q]? = some (.cells ((bitsAt N k (j + 1)).map Value.bool).toArray 4 (0, 0))) := fun W j hj h g => by
        refine ⟨h.setCell _ _ (fun h => absurd h (by have := HQ.out; show ¬ q < w.heap.size; omega)), ?_⟩
        rw [bitsAt_next]
        simp [World.setCell, Array.getElem?_modify, g, List.map_set]
      have HAT : Hid (∀ (W : World) (j : Nat), j < N → W.heap[q]? = some (.cells ((bitsAt N k j).map Value.bool).toArray 4 (0, 0)) → (∃ v, W.cell? ⟨q, j, none⟩ = some (.bool v)) ∧ W.frozen? ⟨q, j, none⟩ = false) := fun W j hj g => by
        refine ⟨⟨(bitsAt N k j)[j]'(by rw [bitsAt_len]; exact hj), ?_⟩, by simp [World.frozen?, g]⟩
        simp [World.cell?, g, bitsAt_len, hj]
      clear hm3 hc3 hs3 hq
      go_upto_region 11 with fail
      go_loopw [10] (fun s10 wz => ∃ j : Nat, j ≤ N ∧ s10 = .int .i64 j ∧ Hid (Chg No w wz) ∧ Hid (wz.heap[q]? = some (.cells ((bitsAt N k j).map Value.bool).toArray 4 (0, 0)))) (fun s10 _ => N - (intOf s10).toNat)
      case atStart => exact ⟨0, Nat.zero_le _, rfl, HC3, HM3⟩
      case round =>
        obtain ⟨j, hj, rfl, HCZ, HZ⟩ := hrel
        by_cases hjl : j < N
        · obtain ⟨⟨v, hv⟩, hf⟩ := HAT.out _ j hjl HZ.out
          have HX := Lib.hid (HST.out _ j hjl HCZ.out HZ.out)
          go_wp2
          go_roundw
          case rel =>
            rw [bit_eq]
            exact ⟨j + 1, hjl, by go_num, HX.out.1, HX.out.2⟩
          case measure => simp [intOf]; omega
        · obtain rfl : j = N := by omega
          have HBS : Hid (Bools (fun _ => True) wr (some ⟨q, 0, none⟩) (bitsB j k) j) := by
            have h := HZ.out
            rw [bitsAt_all] at h
            have h2 := bools_of_block (R := fun _ => True) h trivial (by rw [bitsB_len]; unfold big; omega)
            rw [bitsB_len] at h2
            exact h2
          have HVV := Lib.hid (HV.out wr _ _ HCZ.out HBS.out)
          clear HBS HZ HV HST HAT hj
          go_upto_region 15 with (go_at_call 13; refine HVV.out.mono ?_; rintro e w6 ⟨rfl, rfl⟩)
          have hM9 : M ≤ 256 := HM9.out
          generalize allB cl (bitsB j k) = a at *
          cases hs : someB cl j k
          · rw [hs, Bool.false_or] at HN
            clear hs
            go_wp2
            go_roundw
            case rel => exact ⟨k + 1, hlt, by rw [HN.out], by go_num, HCZ⟩
            case measure => simp [intOf]; omega
          · rw [hs, Bool.true_or] at HN
            clear hs
            go_wp2
            go_roundw
            case rel => exact ⟨k + 1, hlt, by rw [HN.out], by go_num, HCZ⟩
            case measure => simp [intOf]; omega
    · obtain rfl : k = M := by omega
      have HS1 := Lib.hid (HS.out wr HC.out)
      clear hk hlt HS HM
      generalize someB cl N k = sm at *
      go_upto_region 17 with (go_at_call 8; refine HS1.out.mono ?_; rintro e w2 ⟨kind, A1, n1, c1, A2, n2, c2, rfl, HKI, HC2⟩)
      clear HS1
      obtain ⟨w3, hw3⟩ : ∃ w3, w3 = w2.alloc (.cells #[.int .i64 kind, .slice A1 n1 c1, .slice A2 n2 c2] 27) := ⟨_, rfl⟩
      obtain ⟨q, hq⟩ : ∃ q, q = w2.heap.size := ⟨_, rfl⟩
      have HC3 : Hid (Chg No w w3) := by rw [hw3]; exact HC2.out.alloc _
      have ho : w3.heap[q]? = some (.cells #[.int .i64 kind, .slice A1 n1 c1, .slice A2 n2 c2] 27 (0, 0)) := by rw [hw3, hq]; exact heap_alloc_new _ _
      obtain ⟨⟨r0, r1, r2⟩, rf⟩ := obj_three ho
      rw [← hw3, ← hq]
      clear hw3 hq ho HC2
      rcases HKI.out with ⟨rfl, rfl⟩ | ⟨rfl, rfl⟩
      all_goals
        clear HKI
        go_wp2
        go_ret
        exact ⟨rfl, HC3.out⟩

theorem satDecides_walk {w : World} (n : Int) (_ : I64 n) {A : Option Addr} {cl : List (List Int)} {cap : Nat} (hcl : Rows2 (Old w) w A cl cap) :
    Calls Try.prog 4 #[.int .i64 n, .slice A cl.length cap] w fun e w' => e = .returned (.bool true) ∧ Chg No w w' := by
  by_cases hn : 8 < n
  · exact satDecides_head n hcl (.inl hn)
  by_cases hk : chk n cl = 0
  · obtain ⟨N, rfl, _⟩ := chk_zero hk
    exact satDecides_all N hcl (by omega) hk
  · exact satDecides_head n hcl (.inr hk)
end Go.Proofs.Ytiklknilnmkbmaa
