/-
  The walk over PropLong.
-/
import Derived.Test.YtcapcghaihmfeaaPropLaws
namespace Go.Proofs.Ytcapcghaihmfeaa
open Go Go.RowKit

theorem chk_ones (m : Nat) (h : m ≤ 140000) : chk 1 [List.replicate m 1] = if 131072 < m then 2 else 0 := by
  have h1 : manyB [List.replicate m 1] 0 = decide (131072 < m) := by
    simp only [manyB, List.length_replicate]
    by_cases hm : 131072 < m
    · rw [if_pos (by omega)]; simp [hm]
    · rw [if_neg (by omega)]; simp [hm]
  have h2 : ([List.replicate m (1 : Int)].any fun c => c.any fun l => !litB 1 l) = false := by
    simp only [List.any_cons, List.any_nil, Bool.or_false, List.any_eq_false]
    intro x hx
    rw [List.eq_of_mem_replicate hx]
    decide
  unfold chk
  rw [if_neg (by omega), if_neg (by simp), h1, h2]
  by_cases hm : 131072 < m <;> simp [hm]

theorem many_empty : ∀ (m : Nat), manyB (List.replicate m []) 0 = false
  | 0 => rfl
  | m + 1 => by
    rw [List.replicate_succ]
    simp only [manyB, List.length_nil]
    rw [if_neg (by decide)]
    exact many_empty m

theorem chk_empties (m : Nat) : chk 1 (List.replicate m []) = if 16384 < m then 2 else 0 := by
  have h2 : ((List.replicate m ([] : List Int)).any fun c => c.any fun l => !litB 1 l) = false := by
    rw [List.any_eq_false]
    intro x hx
    rw [List.eq_of_mem_replicate hx]
    simp
  unfold chk
  rw [if_neg (by omega), List.length_replicate, many_empty, h2]
  by_cases hm : 16384 < m <;> simp [hm]

theorem ones_set (m k : Nat) (h : k < m) : (List.replicate k (1 : Int) ++ List.replicate (m - k) 0).set k 1 = List.replicate (k + 1) 1 ++ List.replicate (m - (k + 1)) 0 := by
  rw [List.set_append_right _ _ (by simp)]
  simp only [List.length_replicate, Nat.sub_self]
  rw [show m - k = (m - (k + 1)) + 1 by omega, List.replicate_succ, List.set_cons_zero, List.replicate_succ']
  simp

theorem errEq (w : World) (a b : Int) : (binOp .eql 26 (.iface 28 (.int .i64 a)) (.iface 28 (.int .i64 b))).run Try.prog w = .ok (.bool (a == b)) w := by
  obtain ⟨i, hi, hc⟩ := errInfo
  exact run_eql_iface_ints w a b Try.underlying26 Try.underlying28 hi hc

/-- The statement's rest, from 'e := prop.Check(1, c)' on, is walked under a fact on what Check answers. -/
def LongPost (w : World) (e : Ending) (w' : World) : Prop := e = .returned (.bool true) ∧ Chg No w w'

set_option maxHeartbeats 2000000 in
theorem propLong_rows (n : Int) (m : Nat) (hn : (0 ≤ n ∧ n ≤ 140000 ∧ n = m) ∨ ((n < 0 ∨ 140000 < n) ∧ m = 3)) (w : World) :
    Calls Try.prog 3 #[.int .i64 n, .bool false] w (LongPost w) := by
  have HU := Lib.hid (up_any w)
  have hm : m ≤ 140000 := by omega
  have HE := Lib.hid (errEq)
  have HC : Hid (∀ W b, w.heap.size ≤ b → W.heap[b]? = some (.cells (List.replicate m (Value.slice none 0 0)).toArray 24 (0, 0)) → Calls Try.prog 10 #[.int .i64 1, .slice (some ⟨b, 0, none⟩) m m] W fun e w' => e = .returned (errV 28 (if 16384 < m then 2 else 0)) ∧ Chg No W w') := fun W b _ hb => by
    have h := rows_of_block (R := fun _ => True) (V := List.replicate m (Value.slice none 0 0)) (l := List.replicate m ([] : List Int)) hb trivial (by simp [big]; omega) (by simp) (fun i hi hi' => ⟨none, 0, by simp, by simp only [List.getElem_replicate]; exact Sl.empty⟩)
    have h2 := check_any 1 _ W _ _ _ h
    rw [chk_empties] at h2
    simpa using h2
  have he := HE.out
  rcases hn with ⟨h0, h1, rfl⟩ | ⟨h0, rfl⟩
  · by_cases hbig : 16384 < m
    · rw [if_pos hbig] at HC
      have hb2 : (16384 : Int) < (m : Int) := by omega
      go_enter Try.func3, Try.ntmps3
      go_wp2_with (first
        | (go_at_call 9; refine HU.out.mono ?_; rintro e w1 ⟨rfl, h1⟩)
        | (at_make; refine wpList_make1 rowsTy rfl rfl (.tmp 31) (.tmp 31) rfl m rfl rfl (by omega) ?_; intro w4 hm4 hc4 hs4; have HM4 := Lib.hid hm4; have hc5 := h1.thenNo hc4; have hs5 := h1.size; clear hm4)
        | (go_at_call 10; refine (HC.out w4 w1.heap.size hs5 HM4.out).mono ?_; rintro e w5 ⟨rfl, h6⟩; simp only [errV]))
      go_ret
      exact ⟨rfl, hc5.thenNo h6⟩
    · rw [if_neg hbig] at HC
      have hb2 : ¬ (16384 : Int) < (m : Int) := by omega
      go_enter Try.func3, Try.ntmps3
      go_wp2_with (first
        | (go_at_call 9; refine HU.out.mono ?_; rintro e w1 ⟨rfl, h1⟩)
        | (at_make; refine wpList_make1 rowsTy rfl rfl (.tmp 31) (.tmp 31) rfl m rfl rfl (by omega) ?_; intro w4 hm4 hc4 hs4; have HM4 := Lib.hid hm4; have hc5 := h1.thenNo hc4; have hs5 := h1.size; clear hm4)
        | (go_at_call 10; refine (HC.out w4 w1.heap.size hs5 HM4.out).mono ?_; rintro e w5 ⟨rfl, h6⟩; simp only [errV]))
      go_ret
      exact ⟨rfl, hc5.thenNo h6⟩
  · rw [if_neg (by decide)] at HC
    rcases h0 with h0 | h0
    · have h9 : ¬ (140000 : Int) < n := by omega
      go_enter Try.func3, Try.ntmps3
      go_wp2_with (first
        | (go_at_call 9; refine HU.out.mono ?_; rintro e w1 ⟨rfl, h1⟩)
        | (at_make; refine wpList_make1 rowsTy rfl rfl (.tmp 31) (.tmp 31) rfl 3 rfl rfl (by omega) ?_; intro w4 hm4 hc4 hs4; have HM4 := Lib.hid hm4; have hc5 := h1.thenNo hc4; have hs5 := h1.size; clear hm4)
        | (go_at_call 10; refine (HC.out w4 w1.heap.size hs5 HM4.out).mono ?_; rintro e w5 ⟨rfl, h6⟩; simp only [errV]))
      go_ret
      exact ⟨rfl, hc5.thenNo h6⟩
    · have h9 : ¬ n < 0 := by omega
      go_enter Try.func3, Try.ntmps3
      go_wp2_with (first
        | (go_at_call 9; refine HU.out.mono ?_; rintro e w1 ⟨rfl, h1⟩)
        | (at_make; refine wpList_make1 rowsTy rfl rfl (.tmp 31) (.tmp 31) rfl 3 rfl rfl (by omega) ?_; intro w4 hm4 hc4 hs4; have HM4 := Lib.hid hm4; have hc5 := h1.thenNo hc4; have hs5 := h1.size; clear hm4)
        | (go_at_call 10; refine (HC.out w4 w1.heap.size hs5 HM4.out).mono ?_; rintro e w5 ⟨rfl, h6⟩; simp only [errV]))
      go_ret
      exact ⟨rfl, hc5.thenNo h6⟩

/-- k ones, then zeros. -/
def onesL (m k : Nat) : List Int := List.replicate k 1 ++ List.replicate (m - k) 0

set_option maxHeartbeats 2000000 in
theorem propLong_lits (n : Int) (m : Nat) (hn : (0 ≤ n ∧ n ≤ 140000 ∧ n = m) ∨ ((n < 0 ∨ 140000 < n) ∧ m = 3)) (w : World) :
    Calls Try.prog 3 #[.int .i64 n, .bool true] w (LongPost w) := by
  have HU := Lib.hid (up_any w)
  have hm : m ≤ 140000 := by omega
  have HE := Lib.hid (errEq)
  have HC : Hid (∀ W b, W.heap[b]? = some (.cells ((onesL m m).map (Value.int .i64)).toArray 3 (0, 0)) → Calls Try.prog 10 #[.int .i64 1, .slice (some ⟨W.heap.size, 0, none⟩) 1 1] (W.alloc (.cells #[.slice (some ⟨b, 0, none⟩) m m] 24)) fun e w' => e = .returned (errV 28 (if 131072 < m then 2 else 0)) ∧ Chg No W w') := fun W b hb => by
    have e1 : onesL m m = List.replicate m 1 := by simp [onesL]
    rw [e1] at hb
    have hi : Ints (fun _ => True) (W.alloc (.cells #[.slice (some ⟨b, 0, none⟩) m m] 24)) (some ⟨b, 0, none⟩) (List.replicate m 1) m := by
      have := ints_of_block (R := fun _ => True) (w := W.alloc (.cells #[.slice (some ⟨b, 0, none⟩) m m] 24)) (at_old hb) trivial (by simp [big]; omega) (fun x hx => by rw [List.eq_of_mem_replicate hx]; exact i64_small (by omega))
      rwa [List.length_replicate] at this
    have h := rows_of_block (R := fun _ => True) (V := [.slice (some ⟨b, 0, none⟩) m m]) (l := [List.replicate m (1 : Int)]) (w := W.alloc (.cells #[.slice (some ⟨b, 0, none⟩) m m] 24)) (at_new rfl) trivial (by simp [big]) rfl (fun i hi1 hi2 => by
      obtain rfl : i = 0 := by simp at hi1; omega
      exact ⟨some ⟨b, 0, none⟩, m, by simp, hi⟩)
    have h2 := check_any 1 _ _ _ _ _ h
    rw [chk_ones m hm] at h2
    exact h2.mono (fun e w' ⟨he, hc⟩ => ⟨he, ((Chg.refl _ _).alloc _).thenNo hc⟩)
  have he := HE.out
  rcases hn with ⟨h0, h1, rfl⟩ | ⟨h0, rfl⟩
  · go_enter Try.func3, Try.ntmps3
    go_wp2_with (first
      | (go_at_call 9; refine HU.out.mono ?_; rintro e w1 ⟨rfl, h1⟩)
      | (at_make; refine wpList_make1 intsTy rfl rfl (.tmp 19) (.tmp 19) rfl m rfl rfl (by omega) ?_; intro w4 hm4 hc4 hs4; have HM4 := Lib.hid hm4; have hc5 := h1.thenNo hc4; have hs5 := h1.size; clear hm4))
    generalize hB : w1.heap.size = B at *
    have HB := Lib.hid hB
    clear hB
    go_loopw [9] (fun i wr => ∃ k : Nat, k ≤ m ∧ i = .int .i64 k ∧ Chg No w wr ∧ B < wr.heap.size ∧ Hid (wr.heap[B]? = some (.cells ((onesL m k).map (Value.int .i64)).toArray 3 (0, 0)))) (fun i _ => m - (intOf i).toNat)
    case atStart => exact ⟨0, Nat.zero_le _, rfl, hc5, by omega, by have h9 := HM4.out; unfold Hid; simpa [onesL] using h9⟩
    case round =>
      obtain ⟨k, hk, rfl, hch, hlt, harr⟩ := hrel
      by_cases hkm : k < m
      · have hc : wr.cell? ⟨B, k, none⟩ = some (.int .i64 ((onesL m k).getD k 0)) := by
          have hlen : k < (onesL m k).length := by simp [onesL]; omega
          simp [World.cell?, harr.out, hlen, List.getD]
        have hf : wr.frozen? ⟨B, k, none⟩ = false := by simp [World.frozen?, harr.out]
        have hnext : Hid ((wr.setCell ⟨B, k, none⟩ (.int .i64 1)).heap[B]? = some (.cells ((onesL m (k + 1)).map (Value.int .i64)).toArray 3 (0, 0))) := by
          have e : (onesL m k).set k 1 = onesL m (k + 1) := ones_set m k hkm
          rw [← e]
          simp only [World.setCell]
          unfold Hid
          rw [Array.getElem?_modify, if_pos rfl, harr.out]
          simp [List.map_set]
        have hcn := hch.setCell ⟨B, k, none⟩ (.int .i64 1) (fun h => by simp at h; omega)
        generalize (onesL m k).getD k 0 = x at *
        go_wp2
        go_roundw
        case rel => exact ⟨k + 1, hkm, by go_num, hcn, by simp [World.setCell]; exact hlt, hnext⟩
        case measure => simp [intOf]; omega
      · obtain rfl : k = m := by omega
        clear hkm
        have Hx := Lib.hid (HC.out wr B harr.out)
        by_cases hbig : 131072 < k
        · rw [if_pos hbig] at Hx
          have hb2 : (131072 : Int) < (k : Int) := by omega
          go_wp2_with (go_at_call 10; refine Hx.out.mono ?_; rintro e w5 ⟨rfl, h6⟩; simp only [errV])
          go_ret
          exact ⟨rfl, hch.thenNo h6⟩
        · rw [if_neg hbig] at Hx
          have hb2 : ¬ (131072 : Int) < (k : Int) := by omega
          go_wp2_with (go_at_call 10; refine Hx.out.mono ?_; rintro e w5 ⟨rfl, h6⟩; simp only [errV])
          go_ret
          exact ⟨rfl, hch.thenNo h6⟩
  · rcases h0 with h0 | h0
    · have h9 : ¬ (140000 : Int) < n := by omega
      go_enter Try.func3, Try.ntmps3
      go_wp2_with (first
        | (go_at_call 9; refine HU.out.mono ?_; rintro e w1 ⟨rfl, h1⟩)
        | (at_make; refine wpList_make1 intsTy rfl rfl (.tmp 19) (.tmp 19) rfl 3 rfl rfl (by omega) ?_; intro w4 hm4 hc4 hs4; have HM4 := Lib.hid hm4; have hc5 := h1.thenNo hc4; have hs5 := h1.size; clear hm4))
      generalize hB : w1.heap.size = B at *
      have HB := Lib.hid hB
      clear hB
      go_loopw [9] (fun i wr => ∃ k : Nat, k ≤ 3 ∧ i = .int .i64 k ∧ Chg No w wr ∧ B < wr.heap.size ∧ Hid (wr.heap[B]? = some (.cells ((onesL 3 k).map (Value.int .i64)).toArray 3 (0, 0)))) (fun i _ => 3 - (intOf i).toNat)
      case atStart => exact ⟨0, Nat.zero_le _, rfl, hc5, by omega, by have h9 := HM4.out; unfold Hid; simpa [onesL] using h9⟩
      case round =>
        obtain ⟨k, hk, rfl, hch, hlt, harr⟩ := hrel
        by_cases hkm : k < 3
        · have hc : wr.cell? ⟨B, k, none⟩ = some (.int .i64 ((onesL 3 k).getD k 0)) := by
            have hlen : k < (onesL 3 k).length := by simp [onesL]; omega
            simp [World.cell?, harr.out, hlen, List.getD]
          have hf : wr.frozen? ⟨B, k, none⟩ = false := by simp [World.frozen?, harr.out]
          have hnext : Hid ((wr.setCell ⟨B, k, none⟩ (.int .i64 1)).heap[B]? = some (.cells ((onesL 3 (k + 1)).map (Value.int .i64)).toArray 3 (0, 0))) := by
            have e : (onesL 3 k).set k 1 = onesL 3 (k + 1) := ones_set 3 k hkm
            rw [← e]
            simp only [World.setCell]
            unfold Hid
            rw [Array.getElem?_modify, if_pos rfl, harr.out]
            simp [List.map_set]
          have hcn := hch.setCell ⟨B, k, none⟩ (.int .i64 1) (fun h => by simp at h; omega)
          generalize (onesL 3 k).getD k 0 = x at *
          go_wp2
          go_roundw
          case rel => exact ⟨k + 1, hkm, by go_num, hcn, by simp [World.setCell]; exact hlt, hnext⟩
          case measure => simp [intOf]; omega
        · obtain rfl : k = 3 := by omega
          clear hkm
          have Hx := Lib.hid (HC.out wr B harr.out)
          rw [if_neg (by decide)] at Hx
          go_wp2_with (go_at_call 10; refine Hx.out.mono ?_; rintro e w5 ⟨rfl, h6⟩; simp only [errV])
          go_ret
          exact ⟨rfl, hch.thenNo h6⟩
    · have h9 : ¬ n < 0 := by omega
      go_enter Try.func3, Try.ntmps3
      go_wp2_with (first
        | (go_at_call 9; refine HU.out.mono ?_; rintro e w1 ⟨rfl, h1⟩)
        | (at_make; refine wpList_make1 intsTy rfl rfl (.tmp 19) (.tmp 19) rfl 3 rfl rfl (by omega) ?_; intro w4 hm4 hc4 hs4; have HM4 := Lib.hid hm4; have hc5 := h1.thenNo hc4; have hs5 := h1.size; clear hm4))
      generalize hB : w1.heap.size = B at *
      have HB := Lib.hid hB
      clear hB
      go_loopw [9] (fun i wr => ∃ k : Nat, k ≤ 3 ∧ i = .int .i64 k ∧ Chg No w wr ∧ B < wr.heap.size ∧ Hid (wr.heap[B]? = some (.cells ((onesL 3 k).map (Value.int .i64)).toArray 3 (0, 0)))) (fun i _ => 3 - (intOf i).toNat)
      case atStart => exact ⟨0, Nat.zero_le _, rfl, hc5, by omega, by have h9 := HM4.out; unfold Hid; simpa [onesL] using h9⟩
      case round =>
        obtain ⟨k, hk, rfl, hch, hlt, harr⟩ := hrel
        by_cases hkm : k < 3
        · have hc : wr.cell? ⟨B, k, none⟩ = some (.int .i64 ((onesL 3 k).getD k 0)) := by
            have hlen : k < (onesL 3 k).length := by simp [onesL]; omega
            simp [World.cell?, harr.out, hlen, List.getD]
          have hf : wr.frozen? ⟨B, k, none⟩ = false := by simp [World.frozen?, harr.out]
          have hnext : Hid ((wr.setCell ⟨B, k, none⟩ (.int .i64 1)).heap[B]? = some (.cells ((onesL 3 (k + 1)).map (Value.int .i64)).toArray 3 (0, 0))) := by
            have e : (onesL 3 k).set k 1 = onesL 3 (k + 1) := ones_set 3 k hkm
            rw [← e]
            simp only [World.setCell]
            unfold Hid
            rw [Array.getElem?_modify, if_pos rfl, harr.out]
            simp [List.map_set]
          have hcn := hch.setCell ⟨B, k, none⟩ (.int .i64 1) (fun h => by simp at h; omega)
          generalize (onesL 3 k).getD k 0 = x at *
          go_wp2
          go_roundw
          case rel => exact ⟨k + 1, hkm, by go_num, hcn, by simp [World.setCell]; exact hlt, hnext⟩
          case measure => simp [intOf]; omega
        · obtain rfl : k = 3 := by omega
          clear hkm
          have Hx := Lib.hid (HC.out wr B harr.out)
          rw [if_neg (by decide)] at Hx
          go_wp2_with (go_at_call 10; refine Hx.out.mono ?_; rintro e w5 ⟨rfl, h6⟩; simp only [errV])
          go_ret
          exact ⟨rfl, hch.thenNo h6⟩

theorem propLong_walk {w : World} (n : Int) (_ : I64 n) (lits : Bool) : Calls Try.prog 3 #[.int .i64 n, .bool lits] w fun e w' => e = .returned (.bool true) ∧ Chg No w w' := by
  have h : ∃ m : Nat, (0 ≤ n ∧ n ≤ 140000 ∧ n = m) ∨ ((n < 0 ∨ 140000 < n) ∧ m = 3) := by
    by_cases h1 : 0 ≤ n ∧ n ≤ 140000
    · exact ⟨n.toNat, .inl ⟨h1.1, h1.2, by omega⟩⟩
    · exact ⟨3, .inr ⟨by omega, rfl⟩⟩
  obtain ⟨m, hm⟩ := h
  cases lits
  · exact propLong_rows n m hm w
  · exact propLong_lits n m hm w
end Go.Proofs.Ytcapcghaihmfeaa
