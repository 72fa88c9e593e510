/-
  Plain law of CnfLong: the clauses of an FOr of n FTrue.
-/
import Derived.Test.YtlejcnbpodmleaaCnfMks
import Derived.Laws.MakeOwn
namespace Go.Proofs.Ytlejcnbpodmleaa
open Go Go.RowKit

def manyT (n : Nat) : FT 2 := ⟨6, (0, []), List.replicate n (leafF 0)⟩
theorem lit_leaf (N : Int) (out : List (List Int)) : litF 1 (leafF 0) [] N out = (N + 1, out ++ [[N + 1]], N + 1) := by
  rw [lit_full (by decide) (by decide)]
  rfl
/-- 1 .. n. -/
def upto (n : Nat) : List Int := (List.range n).map (fun i : Nat => (i : Int) + 1)
theorem litL_leaf (n : Nat) : litL 1 [] (List.replicate n (leafF 0)) (0, [], []) = ((n : Int), (upto n).map (fun k => [k]), upto n) := by
  induction n with
  | zero => rfl
  | succ n ih =>
    have e : litL 1 [] (List.replicate (n + 1) (leafF 0)) (0, [], []) = ((litF 1 (leafF 0) [] (litL 1 [] (List.replicate n (leafF 0)) (0, [], [])).1 (litL 1 [] (List.replicate n (leafF 0)) (0, [], [])).2.1).1, (litF 1 (leafF 0) [] (litL 1 [] (List.replicate n (leafF 0)) (0, [], [])).1 (litL 1 [] (List.replicate n (leafF 0)) (0, [], [])).2.1).2.1, (litL 1 [] (List.replicate n (leafF 0)) (0, [], [])).2.2 ++ [(litF 1 (leafF 0) [] (litL 1 [] (List.replicate n (leafF 0)) (0, [], [])).1 (litL 1 [] (List.replicate n (leafF 0)) (0, [], [])).2.1).2.2]) := by
      unfold litL
      rw [List.replicate_succ', List.foldl_append]
      rfl
    rw [e, ih, lit_leaf]
    unfold upto
    rw [List.range_succ, List.map_append, List.map_append]
    rfl
theorem atoms_many (n : Nat) : atomsF 2 (manyT n) [] = [] := by
  have h : ∀ n : Nat, (List.replicate n (leafF 0)).foldl (fun l k => atomsF 1 k l) [] = [] := fun n => by
    induction n with
    | zero => rfl
    | succ n ih => rw [List.replicate_succ, List.foldl_cons]; exact ih
  exact h n
theorem lit_many (n : Nat) : litF 2 (manyT n) [] 0 [] = ((n : Int) + 1, (upto n).map (fun k => [k]) ++ gate 6 ((n : Int) + 1) (upto n), (n : Int) + 1) := by
  rw [lit_full (by show (6 : Int) ≠ 2; decide) (by show (6 : Int) ≠ 4; decide)]
  show ((litL 1 [] (List.replicate n (leafF 0)) (0, [], [])).1 + 1, (litL 1 [] (List.replicate n (leafF 0)) (0, [], [])).2.1 ++ gate 6 ((litL 1 [] (List.replicate n (leafF 0)) (0, [], [])).1 + 1) (litL 1 [] (List.replicate n (leafF 0)) (0, [], [])).2.2, (litL 1 [] (List.replicate n (leafF 0)) (0, [], [])).1 + 1) = _
  rw [litL_leaf]
theorem all_many (n : Nat) : cnfAll 2 (manyT n) = ((n : Int) + 1, ((upto n).map (fun k => [k]) ++ gate 6 ((n : Int) + 1) (upto n)) ++ [[(n : Int) + 1]]) := by
  unfold cnfAll
  rw [atoms_many]
  show ((litF 2 (manyT n) [] 0 []).1, (litF 2 (manyT n) [] 0 []).2.1 ++ [[(litF 2 (manyT n) [] 0 []).2.2]]) = _
  rw [lit_many]
theorem upto_len (n : Nat) : (upto n).length = n := by simp [upto]
theorem size_many (n : Nat) : ∀ l : Int, (n : Int) ≤ l → goF (sizeF 1) (List.replicate n (leafF 0)) l = l - n := by
  induction n with
  | zero => intro l _; simp [goF]
  | succ n ih =>
    intro l hl
    rw [List.replicate_succ]
    unfold goF
    rw [if_pos (by omega)]
    have e : sizeF 1 (leafF 0) l = l - 1 := rfl
    rw [e, ih (l - 1) (by omega)]
    omega
theorem is_many (n : Nat) (h : n ≤ 10000) : isB 2 (manyT n) = true := by
  rw [is_eq]
  unfold ref03IsB
  rw [Bool.and_eq_true, Bool.and_eq_true, decide_eq_true_eq, decide_eq_true_eq]
  refine ⟨⟨?_, ?_⟩, ?_⟩
  · refine depthF_iff.2 ⟨by decide, fun k hk => ?_⟩
    have hk' : k = leafF 0 := List.eq_of_mem_replicate hk
    subst hk'
    decide
  · have e : sizeF 2 (manyT n) 20480 = goF (sizeF 1) (List.replicate n (leafF 0)) 20479 := rfl
    rw [e, size_many n 20479 (by omega)]
    omega
  · unfold onlyF
    rw [Bool.and_eq_true, List.all_eq_true]
    refine ⟨rfl, fun k hk => ?_⟩
    have hk' : k = leafF 0 := List.eq_of_mem_replicate hk
    subst hk'
    rfl
/-- How many literals there are in all. -/
def litSum (cl : List (List Int)) : Nat := (cl.map List.length).sum
theorem manyB_no : ∀ (cl : List (List Int)) (m : Int), 0 ≤ m → m + litSum cl ≤ 131072 → manyB cl m = false
  | [], _, _, _ => rfl
  | c :: cs, m, h0, h => by
    have e : litSum (c :: cs) = c.length + litSum cs := by simp [litSum]
    rw [e] at h
    unfold manyB
    rw [if_neg (by omega)]
    exact manyB_no cs _ (by omega) (by omega)
theorem litSum_append (a b : List (List Int)) : litSum (a ++ b) = litSum a + litSum b := by simp [litSum]
theorem litSum_map (f : Int → List Int) (k : Nat) (hf : ∀ x, (f x).length = k) : ∀ l : List Int, litSum (l.map f) = l.length * k
  | [] => by simp [litSum]
  | x :: l => by
    have := litSum_map f k hf l
    simp only [litSum, List.map_cons, List.sum_cons, List.length_cons, hf] at this ⊢
    rw [this, Nat.add_mul, Nat.one_mul, Nat.add_comm]
theorem upto_mem {n : Nat} {x : Int} (h : x ∈ upto n) : 1 ≤ x ∧ x ≤ n := by
  unfold upto at h
  obtain ⟨i, hi, rfl⟩ := List.mem_map.1 h
  rw [List.mem_range] at hi
  omega
theorem chk_fit (n : Nat) (h : n ≤ 8191) : chk ((n : Int) + 1) (((upto n).map (fun k => [k]) ++ gate 6 ((n : Int) + 1) (upto n)) ++ [[(n : Int) + 1]]) = 0 := by
  have hg : gate 6 ((n : Int) + 1) (upto n) = (upto n).map (fun k => [(n : Int) + 1, -k]) ++ [-((n : Int) + 1) :: upto n] := by unfold gate; rw [if_pos (.inl rfl)]
  unfold chk
  rw [if_neg (by omega), if_neg (by simp only [List.length_append, List.length_map, gate_len, upto_len, List.length_cons, List.length_nil]; omega), if_neg, if_neg]
  · rw [Bool.not_eq_true, List.any_eq_false]
    intro c hc
    rw [Bool.not_eq_true, List.any_eq_false]
    intro x hx
    have hb : x ≠ 0 ∧ -((n : Int) + 1) ≤ x ∧ x ≤ (n : Int) + 1 := by
      rw [hg] at hc
      rcases List.mem_append.1 hc with hc | hc
      · rcases List.mem_append.1 hc with hc | hc
        · obtain ⟨k, hk, rfl⟩ := List.mem_map.1 hc
          have := upto_mem hk
          simp at hx; subst hx
          omega
        · rcases List.mem_append.1 hc with hc | hc
          · obtain ⟨k, hk, rfl⟩ := List.mem_map.1 hc
            have := upto_mem hk
            simp at hx
            rcases hx with rfl | rfl <;> omega
          · simp at hc
            subst hc
            rcases List.mem_cons.1 hx with rfl | hx
            · omega
            · have := upto_mem hx; omega
      · simp at hc; subst hc
        simp at hx; subst hx
        omega
    simp [litB, hb.1, hb.2.1, hb.2.2]
  · rw [manyB_no _ 0 (by omega)]
    · simp
    · rw [hg]
      simp only [litSum_append]
      rw [litSum_map (fun k => [k]) 1 (fun _ => rfl), litSum_map (fun k => [(n : Int) + 1, -k]) 2 (fun _ => rfl), upto_len]
      simp only [litSum, List.map_cons, List.map_nil, List.sum_cons, List.sum_nil, List.length_cons, List.length_nil, upto_len]
      omega
theorem long_err (n : Nat) (h : n ≤ 10000) : cnfErr 2 (manyT n) = if n ≤ 8191 then 0 else 2 := by
  unfold cnfErr
  rw [if_pos (is_many n h), all_many]
  simp only
  by_cases hn : n ≤ 8191
  · rw [chk_fit n hn, if_neg (fun h => h.elim (fun h => by omega) (fun h => h rfl)), if_pos hn]
  · rw [if_pos (.inl (by omega)), if_neg hn]
theorem long_out (n : Nat) (h : n ≤ 10000) : (cnfOut 2 (manyT n)).1 = (if n ≤ 8191 then (n : Int) + 1 else 0) ∧ (cnfOut 2 (manyT n)).2.2.length = (if n ≤ 8191 then 2 * n + 2 else 0) := by
  unfold cnfOut
  rw [long_err n h]
  split
  · rw [if_pos rfl, all_many]
    refine ⟨rfl, ?_⟩
    simp only [List.length_append, List.length_map, gate_len, upto_len, List.length_cons, List.length_nil]
    omega
  · rw [if_neg (by decide)]
    exact ⟨rfl, rfl⟩

section
variable {P : Program}
theorem wpList_makeN {t e : TypeId} {sz bytes : Nat} {z : Value} (T : SliceTy P t e sz bytes z) {ops : Array Oper} {rest : List Oper} {o : Oper} {act : Act} {Q : Exit → Act → World → Prop} (hgd : o.guard = none) (l c : Operand)
    (ho : o.op = .makeSlice t l c) {w : World} (n : Nat) (hl : act.eval l = .int .i64 (n : Int)) (hc : act.eval c = .int .i64 (n : Int)) (hbytes : n * bytes ≤ 140737488355328)
    (h : ∀ w', w'.heap[w.heap.size]? = some (.cells (madeCells z.cells (n * sz)) e (0, 0)) → Chg No w w' → w'.heap.size = w.heap.size + 1 → wpList P ops Q rest (act.put o.dst (.slice (some ⟨w.heap.size, 0, none⟩) n n)) w') : wpList P ops Q (o :: rest) act w := by
  refine wpList_plain hgd fun K hK => ?_
  obtain ⟨i, hi, hz, hsz, hby⟩ := info_parts T.info
  have hn : n ≤ 140737488355328 := Nat.le_trans (Nat.le_mul_of_pos_right _ T.bpos) hbytes
  have hb : (i.bytes : Int) * (n : Int) ≤ 281474976710656 := by
    rw [hby, ← Int.natCast_mul, Nat.mul_comm]; omega
  have hrun := run_make (P := P) w t e i z T.sl hi hz .i64 .i64 (n : Int) (n : Int) (by omega) (by omega) hb (by omega)
  rw [hsz] at hrun
  simp only [Int.toNat_natCast] at hrun
  unfold Oper.wp
  simp only [execOp, ho, hl, hc, Sem.run_bind, Sem.run_pure, hrun, Result.andThen_ok]
  exact hK _ _ (h _ (heap_alloc_new w _) ((Chg.refl _ _).alloc _) (by simp))
end
theorem formsTy : SliceTy Try.prog 25 27 4 64 (.agg #[.int .i64 0, .int .i64 0, .slice none 0 0, .slice none 0 0]) := ⟨Try.underlying25, by kernel_rfl, rfl, by decide, by decide⟩
theorem forms_made {w : World} {b n : Nat} {t : TypeId} (hn : n ≤ 10000) (h : w.heap[b]? = some (.cells (madeCells (Value.cells (.agg #[.int .i64 0, .int .i64 0, .slice none 0 0, .slice none 0 0])) (n * 4)) t (0, 0))) :
    Forms (n := 1) (fun k => k = b) w (some ⟨b, 0, none⟩) (List.replicate n (leafF 0)) n := by
  refine ⟨by simp, by unfold maxLen; omega, ?_, (fun h => by cases h), fun i hi => ?_⟩
  · show (List.replicate n (leafF 0)).length * 64 ≤ big
    simp; unfold big; omega
  · rw [List.length_replicate] at hi
    rw [List.getElem_replicate]
    refine ⟨b, 0, rfl, rfl, [.int .i64 0, .int .i64 0, .slice none 0 0, .slice none 0 0], rfl, fun j u hj => ?_, (formV_good 1).mono (leaf_form 0 (by unfold I64; decide) w) (fun _ _ f => f.elim)⟩
    have hj4 : j < 4 := (List.getElem?_eq_some_iff.1 hj).1
    have hlt : 0 + i * 4 + j < n * 4 := by omega
    have hm : (0 + i * 4 + j) % 4 = j := by omega
    simp only [World.cell?, h]
    unfold madeCells
    rw [Array.getElem?_map, Array.getElem?_range, if_pos hlt]
    simp only [Option.map_some]
    show some ((#[Value.int .i64 0, Value.int .i64 0, Value.slice none 0 0, Value.slice none 0 0] : Array Value)[(0 + i * 4 + j) % 4]!) = some u
    rw [hm]
    match j, hj4 with
    | 0, _ => simpa using hj
    | 1, _ => simpa using hj
    | 2, _ => simpa using hj
    | 3, _ => simpa using hj

set_option maxRecDepth 100000 in
set_option maxHeartbeats 2000000 in
theorem cnfLong_walk {w : World} (a : Int) (ha : I64 a) :
    Calls Try.prog 4 #[.int .i64 a] w fun e w' => e = .returned (.bool true) ∧ Chg No w w' := by
  have HU := Lib.hid (fun W => up9_any W)
  have HM : Hid (∀ n : Nat, n ≤ 10000 → ∀ W b, W.heap[b]? = some (.cells (madeCells (Value.cells (.agg #[.int .i64 0, .int .i64 0, .slice none 0 0, .slice none 0 0])) (n * 4)) 27 (0, 0)) →
      Calls Try.prog 9 #[.agg #[.int .i64 6, .int .i64 0, .slice none 0 0, .slice (some ⟨b, 0, none⟩) n n]] W fun e w' => ∃ AA la ca BB cb, e = .returned (.tuple #[.agg #[.int .i64 (if n ≤ 8191 then (n : Int) + 1 else 0), .slice AA la ca, .slice BB (if n ≤ 8191 then 2 * n + 2 else 0) cb], errV 43 (if n ≤ 8191 then 0 else 2)]) ∧ Chg No W w') := fun n hn W b hb => by
    have hf : (formV 2) (fun k => k = b) W [.int .i64 6, .int .i64 0, .slice none 0 0, .slice (some ⟨b, 0, none⟩) n n] (manyT n) :=
      ⟨none, 0, some ⟨b, 0, none⟩, n, by show [Value.int .i64 6, _, _, Value.slice _ n n] = [Value.int .i64 6, _, _, Value.slice _ (List.replicate n (leafF 0)).length n]; rw [List.length_replicate]; rfl, by show I64 6; unfold I64; decide, by show I64 0; unfold I64; decide, Sl.empty, forms_made hn hb⟩
    refine (make9_any hf).mono ?_
    rintro e w' ⟨AA, ca, BB, cb, Z, rfl, _, _, _, hc⟩
    refine ⟨AA, (cnfOut 2 (manyT n)).2.1.length, ca, BB, cb, ?_, hc⟩
    rw [long_err n hn, (long_out n hn).1, (long_out n hn).2]
  have fin : ∀ n : Nat, n ≤ 10000 → Hid (∀ W b, W.heap[b]? = some (.cells (madeCells (Value.cells (.agg #[.int .i64 0, .int .i64 0, .slice none 0 0, .slice none 0 0])) (n * 4)) 27 (0, 0)) →
      Calls Try.prog 9 #[.agg #[.int .i64 6, .int .i64 0, .slice none 0 0, .slice (some ⟨b, 0, none⟩) n n]] W fun e w' => ∃ AA la ca BB cb lb N er, e = .returned (.tuple #[.agg #[.int .i64 N, .slice AA la ca, .slice BB lb cb], er]) ∧
        (n ≤ 8191 → N = (n : Int) + 1 ∧ ((lb : Int) == 2 * (n : Int) + 2) = true ∧ er = .nilIface) ∧ (8191 < n → lb = 0 ∧ er = .iface 43 (.int .i64 2)) ∧ Chg No W w') := fun n hn W b hb => by
    refine (HM.out n hn W b hb).mono ?_
    rintro e w' ⟨AA, la, ca, BB, cb, rfl, hc⟩
    refine ⟨AA, la, ca, BB, cb, _, _, _, rfl, fun h => ?_, fun h => ?_, hc⟩
    · rw [if_pos h, if_pos h, if_pos h]
      refine ⟨rfl, ?_, errV_zero _⟩
      simp
    · rw [if_neg (by omega), if_neg (by omega)]
      exact ⟨rfl, errV_of _ (by decide)⟩
  clear HM
  have heq : ∀ W, (binOp .eql 35 (.iface 43 (.int .i64 2)) (.iface 43 (.int .i64 2))).run Try.prog W = .ok (.bool true) W := fun W => by kernel_rfl
  have HFIN := Lib.hid fin
  clear fin
  by_cases hr : a < 0 ∨ 10000 < a
  · have HF3 := HFIN.out 3 (by omega)
    clear HFIN
    rcases hr with h | h
    case' inl => have e1 : decide (a < 0) = true := by simpa using h
    case' inr =>
      have e1 : decide (a < 0) = false := by simp; omega
      have e2 : decide (10000 < a) = true := by simpa using h
    all_goals
      clear h ha
      go_enter Try.func4, Try.ntmps4
      go_wp2_with (first
        | (go_at_call 7; refine (HU.out _).mono ?_; rintro e w1 ⟨rfl, h1⟩; have H1 := Lib.hid h1; clear h1)
        | (at_make; refine wpList_makeN formsTy rfl (.tmp 14) (.tmp 14) rfl 3 rfl rfl (by omega) ?_; intro w2 hm2 hc2 _; have HM2 := Lib.hid hm2; have H2 := Lib.hid (H1.out.thenNo hc2); clear hm2 hc2)
        | (go_at_call 9; refine (HF3.out _ _ HM2.out).mono ?_; rintro e w3 ⟨AA, la, ca, BB, cb, lb, N, er, rfl, k1, k2, h3⟩; obtain ⟨rfl, k3, rfl⟩ := k1 (by omega); have k4 : ((lb : Int) == 8) = true := (by have h := eq_of_beq k3; rw [h]; rfl); clear k3; have H3 := Lib.hid (H2.out.thenNo h3); clear k1 k2 h3))
      go_ret
      exact ⟨rfl, H3.out.alloc _⟩
  · obtain ⟨n, rfl⟩ : ∃ n : Nat, a = n := ⟨a.toNat, by omega⟩
    have e1 : decide ((n : Int) < 0) = false := by simp
    have e2 : decide (10000 < (n : Int)) = false := by simp; omega
    have HF3 := HFIN.out n (by omega)
    have hn : n ≤ 10000 := by omega
    clear HFIN hr ha
    by_cases hn2 : n ≤ 8191
    · have e3 : decide (8192 < (n : Int) + 1) = false := by simp; omega
      have HN2 := Lib.hid hn2
      clear hn2
      go_enter Try.func4, Try.ntmps4
      go_wp2_with (first
        | (go_at_call 7; refine (HU.out _).mono ?_; rintro e w1 ⟨rfl, h1⟩; have H1 := Lib.hid h1; clear h1)
        | (at_make; refine wpList_makeN formsTy rfl (.tmp 14) (.tmp 14) rfl n rfl rfl (by omega) ?_; intro w2 hm2 hc2 _; have HM2 := Lib.hid hm2; have H2 := Lib.hid (H1.out.thenNo hc2); clear hm2 hc2)
        | (go_at_call 9; refine (HF3.out _ _ HM2.out).mono ?_; rintro e w3 ⟨AA, la, ca, BB, cb, lb, N, er, rfl, k1, k2, h3⟩; obtain ⟨rfl, k3, rfl⟩ := k1 HN2.out; have H3 := Lib.hid (H2.out.thenNo h3); clear k1 k2 h3))
      go_ret
      exact ⟨rfl, H3.out.alloc _⟩
    · have e3 : decide (8192 < (n : Int) + 1) = true := by simp; omega
      have HN2 : Hid (8191 < n) := by unfold Hid; omega
      clear hn2
      go_enter Try.func4, Try.ntmps4
      go_wp2_with (first
        | (go_at_call 7; refine (HU.out _).mono ?_; rintro e w1 ⟨rfl, h1⟩; have H1 := Lib.hid h1; clear h1)
        | (at_make; refine wpList_makeN formsTy rfl (.tmp 14) (.tmp 14) rfl n rfl rfl (by omega) ?_; intro w2 hm2 hc2 _; have HM2 := Lib.hid hm2; have H2 := Lib.hid (H1.out.thenNo hc2); clear hm2 hc2)
        | (go_at_call 9; refine (HF3.out _ _ HM2.out).mono ?_; rintro e w3 ⟨AA, la, ca, BB, cb, lb, N, er, rfl, k1, k2, h3⟩; obtain ⟨rfl, rfl⟩ := k2 HN2.out; have H3 := Lib.hid (H2.out.thenNo h3); clear k1 k2 h3))
      go_ret
      exact ⟨rfl, H3.out.alloc _⟩
end Go.Proofs.Ytlejcnbpodmleaa
