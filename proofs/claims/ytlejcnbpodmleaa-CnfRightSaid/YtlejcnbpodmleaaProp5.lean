/-
  Walks over the document's answers for clauses: Lits, Check, Light, Value; and prop.Value.
-/
import Derived.Test.YtlejcnbpodmleaaProp1
import Derived.Laws.EntriesVeiled
namespace Go.Proofs.Ytlejcnbpodmleaa
open Go Go.RowKit

theorem litB_facts (n l : Int) : litB n l = !(l == 0 || decide (n < l) || decide (l < -n)) := by
  rw [Bool.eq_iff_iff]
  simp only [litB, Bool.and_eq_true, bne_iff_ne, decide_eq_true_eq, Bool.not_eq_true', Bool.or_eq_false_iff, beq_eq_false_iff_ne, decide_eq_false_iff_not]
  omega

set_option maxHeartbeats 400000 in
theorem lits_any (n : Int) (R : Nat → Prop) (w : World) (A : Option Addr) (l : List Int) (cap : Nat) (hl : Ints R w A l cap) (h0 : 0 ≤ n) (h1 : n ≤ 8192) :
    Calls Try.prog 50 #[.int .i64 n, .slice A l.length cap] w fun e w' => e = .returned (.bool (l.all (litB n))) ∧ w = w' := by
  have hb := hl.big
  unfold big at hb
  have HL := Lib.hid hl
  clear hl
  go_enter Try.func50, Try.ntmps50
  go_wp2
  go_loop [5] (fun i => ∃ k : Nat, k ≤ l.length ∧ i = .int .i64 k ∧ Hid (∀ j (h : j < l.length), j < k → litB n l[j] = true)) (fun i => l.length - (intOf i).toNat)
  case atStart => exact ⟨0, Nat.zero_le _, rfl, fun j h hj => absurd hj (by omega)⟩
  case round =>
    obtain ⟨k, hk, rfl, hall⟩ := hrel
    by_cases hlt : k < l.length
    · obtain ⟨b, o, rfl, hx⟩ := HL.out.int_at k hlt
      have hlm := Lib.hid (List.getElem_mem hlt)
      generalize hxe : l[k] = x at *
      have HX := Lib.hid hxe
      clear hxe
      have hbad : Hid (litB n x = false → l.all (litB n) = false) := fun h => by
        rw [List.all_eq_false]; exact ⟨x, hlm.out, by simp [h]⟩
      have hgood : Hid (litB n x = true → ∀ j (h : j < l.length), j < k + 1 → litB n l[j] = true) := fun h j hj hk => by
        rcases Nat.lt_or_ge j k with g | g
        · exact hall.out j hj g
        · obtain rfl : j = k := by omega
          rw [HX.out]; exact h
      by_cases c1 : x = 0
      · subst c1
        go_wp2
        go_ret
        exact ⟨ret_bool (hbad.out (by simp [litB])).symm, rfl⟩
      by_cases c2 : n < x
      · have d1 : (x == 0) = false := by simpa using c1
        go_wp2
        go_ret
        exact ⟨ret_bool (hbad.out (by rw [litB_facts n x]; simp [c2])).symm, rfl⟩
      by_cases c3 : x < -n
      · have d1 : (x == 0) = false := by simpa using c1
        go_wp2
        go_ret
        exact ⟨ret_bool (hbad.out (by rw [litB_facts n x]; simp [c3])).symm, rfl⟩
      · have d1 : (x == 0) = false := by simpa using c1
        have Hg := Lib.hid (hgood.out (by rw [litB_facts n x]; simp [d1, c2, c3]))
        go_wp2
        go_round
        case rel => exact ⟨k + 1, hlt, by go_num, Hg⟩
        case measure => simp [intOf]; omega
    · have Hf : Hid (l.all (litB n) = true) := by
        rw [Hid, List.all_eq_true]
        intro x hx
        obtain ⟨i, hi, rfl⟩ := List.mem_iff_getElem.1 hx
        exact hall.out i hi (by omega)
      go_wp2
      go_ret
      exact ⟨ret_bool Hf.out.symm, rfl⟩

theorem all_litB (n : Int) (c : List Int) : (c.any fun l => !litB n l) = !c.all (litB n) := by
  induction c with
  | nil => rfl
  | cons x c ih => simp [ih, Bool.not_and]

set_option maxHeartbeats 1000000 in
theorem refCheck_any (n : Int) (R : Nat → Prop) (w : World) (A : Option Addr) (cl : List (List Int)) (cap : Nat) (hcl : Rows2 R w A cl cap) :
    Calls Try.prog 29 #[.int .i64 n, .slice A cl.length cap] w fun e w' => e = .returned (.int .i64 (chk n cl)) ∧ w = w' := by
  have hb := hcl.big
  unfold big at hb
  have HCL := Lib.hid hcl
  clear hcl
  by_cases hn0 : n < 0
  · have Hf := Lib.hid (chk_arg (cl := cl) (Or.inl hn0))
    go_enter Try.func29, Try.ntmps29
    go_wp2
    go_ret
    exact ⟨ret_int Hf.out.symm, rfl⟩
  by_cases hn1 : 8192 < n
  · have Hf := Lib.hid (chk_arg (cl := cl) (Or.inr hn1))
    go_enter Try.func29, Try.ntmps29
    go_wp2
    go_ret
    exact ⟨ret_int Hf.out.symm, rfl⟩
  by_cases hl : 16384 < cl.length
  · have Hf := Lib.hid (chk_long (n := n) (cl := cl) (by omega) (by omega) hl)
    go_enter Try.func29, Try.ntmps29
    go_wp2
    go_ret
    exact ⟨ret_int Hf.out.symm, rfl⟩
  have hl' : ¬ (16384 : Int) < (cl.length : Int) := by omega
  go_enter Try.func29, Try.ntmps29
  go_wp2
  go_loop [5, 6] (fun m i => ∃ (k : Nat) (t : Int), k ≤ cl.length ∧ i = .int .i64 k ∧ m = .int .i64 (131072 - t) ∧ 0 ≤ t ∧ t ≤ 131072 ∧ Hid (manyB cl 0 = manyB (cl.drop k) t)) (fun _ i => cl.length - (intOf i).toNat)
  case atStart => exact ⟨0, 0, Nat.zero_le _, rfl, rfl, by omega, by omega, rfl⟩
  case round =>
    obtain ⟨k, t, hk, rfl, rfl, ht0, ht1, hmany⟩ := hrel
    by_cases hlt : k < cl.length
    · obtain ⟨b, o, A', c', rfl, hx, hx'⟩ := HCL.out.row_at k hlt
      have hb' := hx'.big
      unfold big at hb'
      by_cases hlong : 131072 - t < (cl[k].length : Int)
      · have Hf := Lib.hid (chk_many hn0 hn1 hl (by rw [hmany.out, drop_step _ _ hlt]; simp only [manyB]; rw [if_pos hlong]))
        go_wp2
        go_ret
        exact ⟨ret_int Hf.out.symm, rfl⟩
      · have Hm := Lib.hid (show manyB cl 0 = manyB (cl.drop (k + 1)) (t + cl[k].length) by rw [hmany.out, drop_step _ _ hlt]; simp only [manyB]; rw [if_neg hlong])
        clear hmany hx'
        go_wp2
        go_round
        case rel => exact ⟨k + 1, t + cl[k].length, hlt, by go_num, by go_num, by omega, by omega, Hm⟩
        case measure => simp [intOf]; omega
    · have Hm := Lib.hid (show manyB cl 0 = false by rw [hmany.out, List.drop_eq_nil_of_le (by omega)]; rfl)
      clear hmany
      go_wp2
      go_loop [7] (fun i => ∃ k : Nat, k ≤ cl.length ∧ i = .int .i64 k ∧ Hid (∀ j (h : j < cl.length), j < k → (cl[j].any fun l => !litB n l) = false)) (fun i => cl.length - (intOf i).toNat)
      case atStart => exact ⟨0, Nat.zero_le _, rfl, fun j _ h => absurd h (by omega)⟩
      case round =>
        clear hlt hk
        obtain ⟨k, hk, rfl, hall⟩ := hrel
        by_cases hlt : k < cl.length
        · obtain ⟨b, o, A', c', rfl, hx, hx'⟩ := HCL.out.row_at k hlt
          have HC := Lib.hid (lits_any n R w A' cl[k] c' hx' (by omega) (by omega))
          clear hx'
          have hany := all_litB n cl[k]
          cases hb2 : cl[k].all (litB n)
          · rw [hb2] at HC hany
            have Hf := Lib.hid (chk_form hn0 hn1 hl Hm.out hlt hany)
            clear hany hb2
            go_wp2_with (go_at_call 50; refine HC.out.mono ?_; rintro e w1 ⟨rfl, rfl⟩)
            go_ret
            exact ⟨ret_int Hf.out.symm, rfl⟩
          · rw [hb2] at HC hany
            have Hany := Lib.hid hany
            clear hany hb2
            go_wp2_with (go_at_call 50; refine HC.out.mono ?_; rintro e w1 ⟨rfl, rfl⟩)
            go_round
            case rel => exact ⟨k + 1, hlt, by go_num, fun j h hj => by
              rcases Nat.lt_or_ge j k with g | g
              · exact hall.out j h g
              · obtain rfl : j = k := by omega
                exact Hany.out⟩
            case measure => simp [intOf]; omega
        · have Hf := Lib.hid (chk_fine hn0 hn1 hl Hm.out (fun k hk => hall.out k hk (by omega)))
          go_wp2
          go_ret
          exact ⟨ret_int Hf.out.symm, rfl⟩

/-- What Light answers doesn't matter, but that it is a bool. -/
def SomeBool (w : World) (e : Ending) (w' : World) : Prop := ∃ b : Bool, e = .returned (.bool b) ∧ w = w'

/-- A literal is true by values. -/
def valB (values : List Bool) (l : Int) : Bool := decide (1 ≤ l.natAbs) && decide (l.natAbs ≤ values.length) && (values.getD (l.natAbs - 1) false == decide (0 < l))
/-- All clauses are true by values. -/
def allB (cl : List (List Int)) (values : List Bool) : Bool := cl.all fun c => c.any (valB values)

theorem neg_out {l : Int} (h : I64 l) (n : Nat) (hl : ¬ (1 ≤ l.natAbs ∧ l.natAbs ≤ n)) : ∃ m : Int, wrap64 (-l) = m ∧ (max l m < 1 ∨ (n : Int) < max l m) := by
  refine ⟨_, rfl, ?_⟩
  unfold I64 at h
  by_cases hm : l = -9223372036854775808
  · have : wrap64 (-l) = l := by subst hm; unfold wrap64; omega
    rw [this]; omega
  · have : wrap64 (-l) = -l := by unfold wrap64; omega
    rw [this]; omega

set_option maxHeartbeats 400000 in
theorem value1_out (l : Int) (hl : I64 l) (pb : Nat) (w : World) (A : Option Addr) (n cap : Nat) (hout : ¬ (1 ≤ l.natAbs ∧ l.natAbs ≤ n)) (hc : w.cell? ⟨pb, 0, none⟩ = some (.slice A n cap)) :
    Calls Try.prog 38 #[.int .i64 l, .pointer (some ⟨pb, 0, none⟩)] w fun e w' => e = .returned (.bool false) ∧ w = w' := by
  obtain ⟨m, hneg, hm⟩ := neg_out hl n hout
  clear hl hout
  generalize hx : max l m = x at *
  have Hx := Lib.hid hx
  go_enter Try.func38, Try.ntmps38
  go_wp2
  all_goals
    go_ret
    exact ⟨rfl, rfl⟩

set_option maxHeartbeats 400000 in
theorem value1_any (l : Int) (hl : I64 l) (pb : Nat) (R : Nat → Prop) (w : World) (A : Option Addr) (values : List Bool) (cap : Nat) (hv : Bools R w A values cap) (hc : w.cell? ⟨pb, 0, none⟩ = some (.slice A values.length cap)) :
    Calls Try.prog 38 #[.int .i64 l, .pointer (some ⟨pb, 0, none⟩)] w fun e w' => e = .returned (.bool (valB values l)) ∧ w = w' := by
  have hb := hv.big
  unfold big at hb
  by_cases hin : ¬ (1 ≤ l.natAbs ∧ l.natAbs ≤ values.length)
  · rw [show valB values l = false by unfold valB; simp; omega]
    exact value1_out l hl pb w A values.length cap hin hc
  have hin : 1 ≤ l.natAbs ∧ l.natAbs ≤ values.length := by omega
  by_cases h0 : 0 < l
  · obtain ⟨k, rfl⟩ : ∃ k : Nat, l = (k : Int) + 1 := ⟨(l - 1).toNat, by omega⟩
    have h1 : k < values.length := by omega
    obtain ⟨b, o, rfl, hx⟩ := hv.bool_at k h1
    have Hf := Lib.hid (show valB values ((k : Int) + 1) = values[k] by unfold valB; rw [show ((k : Int) + 1).natAbs = k + 1 by omega]; simp [h0, List.getD, h1]; omega)
    clear hv hl h0 hin
    go_enter Try.func38, Try.ntmps38
    go_wp2
    go_ret
    exact ⟨ret_bool Hf.out.symm, rfl⟩
  · obtain ⟨k, rfl⟩ : ∃ k : Nat, l = -((k : Int) + 1) := ⟨(-l - 1).toNat, by omega⟩
    have h1 : k < values.length := by omega
    obtain ⟨b, o, rfl, hx⟩ := hv.bool_at k h1
    have Hf := Lib.hid (show valB values (-((k : Int) + 1)) = !values[k] by
      unfold valB
      rw [show (-((k : Int) + 1)).natAbs = k + 1 by omega]
      have e1 : ¬ (0 : Int) < -((k : Int) + 1) := by omega
      have e2 : k + 1 ≤ values.length := by omega
      simp only [e1, e2, decide_false, decide_true]
      simp [List.getD, h1])
    clear hv hl h0 hin
    go_enter Try.func38, Try.ntmps38
    go_wp2
    go_ret
    exact ⟨ret_bool (by rw [Hf.out]; cases values[k] <;> rfl), rfl⟩

theorem entered_value1 : Entered 38 := fun _ _ => rfl
theorem entered_value2 : Entered 40 := fun _ _ => rfl

set_option maxHeartbeats 400000 in
theorem indexFunc_rows (R : Nat → Prop) (w : World) (A : Option Addr) (l : List (List Int)) (cap : Nat) (hl : Rows2 R w A l cap) (fv : FuncId) (hf : Entered fv) (c : Value) (p : List Int → Bool)
    (hp : ∀ w', Chg No w w' → ∀ i (h : i < l.length), ∀ A' cap', Ints R w' A' l[i] cap' → Calls Try.prog fv #[.slice A' l[i].length cap', c] w' fun e w'' => e = .returned (.bool (p l[i])) ∧ Chg No w' w'') :
    Calls Try.prog 59 #[.slice A l.length cap, .func (.func fv) #[] #[c]] w fun e w' => e = .returned (.int .i64 (findI p l)) ∧ Chg No w w' := by
  go_enter Try.func59, Try.ntmps59
  have hb := hl.big
  unfold big at hb
  have Hp := Lib.hid hp
  clear hp
  unfold Entered at hf
  go_wp2
  go_loopw [8] (fun i wr => ∃ k : Nat, k ≤ l.length ∧ i = .int .i64 k ∧ Chg No w wr ∧ Hid (∀ j (h : j < l.length), j < k → p l[j] = false)) (fun i _ => l.length - (intOf i).toNat)
  case atStart => exact ⟨0, Nat.zero_le _, rfl, Chg.refl _ _, fun j h hk => absurd hk (by omega)⟩
  case round =>
    obtain ⟨k, hk, rfl, hch, hall⟩ := hrel
    by_cases hlt : k < l.length
    · obtain ⟨b, o, A', c', rfl, hx, hx'⟩ := (hl.no rowE_good hch).row_at k hlt
      have HP := Lib.hid (Hp.out wr hch k hlt A' c' hx')
      clear hx'
      go_wp2_with (refine HP.out.mono ?_; rintro e w1 ⟨rfl, h1⟩)
      · have hpk : p l[k] = true := by assumption
        go_ret
        exact ⟨ret_int (findI_hit hlt hpk hall.out).symm, hch.thenNo h1⟩
      · have hpk : p l[k] = false := by assumption
        go_roundw
        case rel => exact ⟨k + 1, hlt, by go_num, hch.thenNo h1, fun j h hj => by
          rcases Nat.lt_or_ge j k with g | g
          · exact hall.out j h g
          · obtain rfl : j = k := by omega
            exact hpk⟩
        case measure => simp [intOf]; omega
    · go_wp2
      go_ret
      exact ⟨ret_int (findI_miss (fun j h => hall.out j h (by omega))).symm, hch⟩

set_option maxHeartbeats 400000 in
theorem containsFunc_rows (R : Nat → Prop) (w : World) (A : Option Addr) (l : List (List Int)) (cap : Nat) (hl : Rows2 R w A l cap) (fv : FuncId) (hf : Entered fv) (c : Value) (p : List Int → Bool)
    (hp : ∀ w', Chg No w w' → ∀ i (h : i < l.length), ∀ A' cap', Ints R w' A' l[i] cap' → Calls Try.prog fv #[.slice A' l[i].length cap', c] w' fun e w'' => e = .returned (.bool (p l[i])) ∧ Chg No w' w'') :
    Calls Try.prog 39 #[.slice A l.length cap, .func (.func fv) #[] #[c]] w fun e w' => e = .returned (.bool (l.any p)) ∧ Chg No w w' := by
  have H := Lib.hid (indexFunc_rows R w A l cap hl fv hf c p hp)
  clear hp hl
  go_enter Try.func39, Try.ntmps39
  go_wp2_with (refine H.out.mono ?_; rintro e w1 ⟨rfl, h1⟩)
  go_ret
  exact ⟨ret_bool (findI_ge p l), h1⟩

set_option maxHeartbeats 400000 in
theorem value2_any {R R' : Nat → Prop} {w : World} {A A' : Option Addr} {c : List Int} {cap cap' : Nat} (hc : Ints R w A c cap) {values : List Bool} (hv : Bools R' w A' values cap') (p1 p2 : Nat)
    (h1 : w.cell? ⟨p1, 0, none⟩ = some (.slice A' values.length cap')) (h2 : w.cell? ⟨p2, 0, none⟩ = some (.func (.func 38) #[] #[.pointer (some ⟨p1, 0, none⟩)])) :
    Calls Try.prog 40 #[.slice A c.length cap, .pointer (some ⟨p2, 0, none⟩)] w fun e w' => e = .returned (.bool (!c.any (valB values))) ∧ Chg No w w' := by
  have H := Lib.hid (containsFunc_ints R w A c cap hc 38 entered_value1 (.pointer (some ⟨p1, 0, none⟩)) (valB values) (fun w' hw' i hi =>
    (value1_any c[i] (hc.int_ok i hi) p1 R' w' A' values cap' (hv.no boolE_good hw') (hw'.cell h1 id)).mono (by rintro e w1 ⟨rfl, rfl⟩; exact ⟨rfl, Chg.refl _ _⟩)))
  clear hc hv h1
  go_enter Try.func40, Try.ntmps40
  go_wp2_with (refine H.out.mono ?_; rintro e w1 ⟨rfl, h1⟩)
  go_ret
  exact ⟨rfl, h1⟩

theorem not_any_not (cl : List (List Int)) (values : List Bool) : (!cl.any fun c => !c.any (valB values)) = allB cl values := by
  unfold allB
  induction cl with
  | nil => rfl
  | cons c cl ih => rw [List.any_cons, List.all_cons, ← ih]; simp [Bool.not_or]

set_option maxHeartbeats 1000000 in
theorem value_any {R R' : Nat → Prop} {w : World} {A A' : Option Addr} {cl : List (List Int)} {cap cap' : Nat} (hcl : Rows2 R w A cl cap) {values : List Bool} (hv : Bools R' w A' values cap') :
    Calls Try.prog 19 #[.slice A cl.length cap, .slice A' values.length cap'] w fun e w' => e = .returned (.bool (allB cl values)) ∧ Chg No w w' := by
  have HC : Hid (∀ W p1 p2, Chg No w W → W.cell? ⟨p1, 0, none⟩ = some (.slice A' values.length cap') → W.cell? ⟨p2, 0, none⟩ = some (.func (.func 38) #[] #[.pointer (some ⟨p1, 0, none⟩)]) →
      Calls Try.prog 39 #[.slice A cl.length cap, .func (.func 40) #[] #[.pointer (some ⟨p2, 0, none⟩)]] W fun e w' => e = .returned (.bool (cl.any fun c => !c.any (valB values))) ∧ Chg No W w') := fun W p1 p2 hW h1 h2 =>
    containsFunc_rows R W A cl cap (hcl.no rowE_good hW) 40 entered_value2 _ _ (fun w' hw' i hi A2 c2 hx => value2_any hx (hv.no boolE_good (hW.thenNo hw')) p1 p2 (hw'.cell h1 id) (hw'.cell h2 id))
  have Hf := Lib.hid (not_any_not cl values)
  clear hcl hv
  go_enter Try.func19, Try.ntmps19
  go_wp2_with (go_at_call 39; refine (HC.out _ w.heap.size (w.heap.size + 1) (((Chg.refl _ _).alloc _).alloc _) (by go_simp) (by go_simp)).mono ?_; rintro e w1 ⟨rfl, h1⟩)
  go_ret
  exact ⟨ret_bool Hf.out, (((Chg.refl _ _).alloc _).alloc _).thenNo h1⟩

theorem valB_pos (values : List Bool) (k : Nat) (hn : k < values.length) : valB values ((k : Int) + 1) = values[k] := by
  unfold valB
  rw [show ((k : Int) + 1).natAbs = k + 1 by omega]
  have e1 : (0 : Int) < (k : Int) + 1 := by omega
  have e2 : k + 1 ≤ values.length := by omega
  simp only [e1, e2, decide_true]
  simp [List.getD, hn]
theorem valB_neg (values : List Bool) (k : Nat) (hn : k < values.length) : valB values (-((k : Int) + 1)) = !values[k] := by
  unfold valB
  rw [show (-((k : Int) + 1)).natAbs = k + 1 by omega]
  have e1 : ¬ (0 : Int) < -((k : Int) + 1) := by omega
  have e2 : k + 1 ≤ values.length := by omega
  simp only [e1, e2, decide_false, decide_true]
  simp [List.getD, hn]
theorem valB_out (values : List Bool) (l : Int) (h : ¬ (1 ≤ l.natAbs ∧ l.natAbs ≤ values.length)) : valB values l = false := by
  unfold valB; simp; omega
theorem any_next {α : Type} (l : List α) (p : α → Bool) (j : Nat) (h : j < l.length) : (l.take (j + 1)).any p = ((l.take j).any p || p l[j]) := by
  rw [List.take_succ_eq_append_getElem h, List.any_append]; simp

end Go.Proofs.Ytlejcnbpodmleaa
