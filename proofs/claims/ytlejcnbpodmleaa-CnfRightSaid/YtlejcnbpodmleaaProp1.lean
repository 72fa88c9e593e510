/-
  Walks over package prop's small functions and the document's: what each returns.
-/
import Derived.Test.YtlejcnbpodmleaaRows
import Derived.Test.YtlejcnbpodmleaaBase
import Derived.Test.YtlejcnbpodmleaaFind
namespace Go.Proofs.Ytlejcnbpodmleaa
open Go Go.RowKit

def litB (n l : Int) : Bool := l != 0 && decide (-n ≤ l) && decide (l ≤ n)

set_option maxHeartbeats 400000 in
theorem literal_any (n l : Int) (w : World) (h0 : 0 ≤ n) (h1 : n ≤ 8192) :
    Calls Try.prog 45 #[.int .i64 n, .int .i64 l] w fun e w' => e = .returned (.bool (litB n l)) ∧ w = w' := by
  go_enter Try.func45, Try.ntmps45
  go_wp2
  all_goals
    go_ret
    refine ⟨ret_bool ?_, rfl⟩
    simp_all [litB]
    try omega

set_option maxHeartbeats 400000 in
theorem indexFunc_ints (R : Nat → Prop) (w : World) (A : Option Addr) (l : List Int) (cap : Nat) (hl : Ints R w A l cap) (fv : FuncId) (hf : Entered fv) (c : Value) (p : Int → Bool)
    (hp : ∀ w', Chg No w w' → ∀ i (h : i < l.length), Calls Try.prog fv #[.int .i64 l[i], c] w' fun e w'' => e = .returned (.bool (p l[i])) ∧ Chg No w' w'') :
    Calls Try.prog 60 #[.slice A l.length cap, .func (.func fv) #[] #[c]] w fun e w' => e = .returned (.int .i64 (findI p l)) ∧ Chg No w w' := by
  go_enter Try.func60, Try.ntmps60
  have hb := hl.big
  unfold big at hb
  have Hp := Lib.hid hp
  clear hp
  unfold Entered at hf
  go_wp2
  go_loopw [8] (fun i wr => ∃ k : Nat, k ≤ l.length ∧ i = .int .i64 k ∧ Chg No w wr ∧ Hid (∀ j (h : j < l.length), j < k → p l[j] = false)) (fun i _ => l.length - (intOf i).toNat)
  case atStart => exact ⟨0, Nat.zero_le _, rfl, Chg.refl _ _, fun j h hk => absurd hk (by omega)⟩
  case round =>
    obtain ⟨k, hk, rfl, hch, hall⟩ := hrel
    by_cases hlt : k < l.length
    · obtain ⟨b, o, rfl, hx⟩ := (hl.no intE_good hch).int_at k hlt
      go_wp2_with (refine (Hp.out wr hch k hlt).mono ?_; rintro e w1 ⟨rfl, h1⟩)
      · have hpk : p l[k] = true := by assumption
        go_ret
        exact ⟨ret_int (findI_hit hlt hpk hall.out).symm, hch.thenNo h1⟩
      · have hpk : p l[k] = false := by assumption
        go_roundw
        case rel => exact ⟨k + 1, hlt, by go_num, hch.thenNo h1, fun j h hj => by
          rcases Nat.lt_or_ge j k with g | g
          · exact hall.out j h g
          · obtain rfl : j = k := by omega
            exact hpk⟩
        case measure => simp [intOf]; omega
    · go_wp2
      go_ret
      exact ⟨ret_int (findI_miss (fun j h => hall.out j h (by omega))).symm, hch⟩

set_option maxHeartbeats 400000 in
theorem containsFunc_ints (R : Nat → Prop) (w : World) (A : Option Addr) (l : List Int) (cap : Nat) (hl : Ints R w A l cap) (fv : FuncId) (hf : Entered fv) (c : Value) (p : Int → Bool)
    (hp : ∀ w', Chg No w w' → ∀ i (h : i < l.length), Calls Try.prog fv #[.int .i64 l[i], c] w' fun e w'' => e = .returned (.bool (p l[i])) ∧ Chg No w' w'') :
    Calls Try.prog 41 #[.slice A l.length cap, .func (.func fv) #[] #[c]] w fun e w' => e = .returned (.bool (l.any p)) ∧ Chg No w w' := by
  have H := Lib.hid (indexFunc_ints R w A l cap hl fv hf c p hp)
  clear hp hl
  go_enter Try.func41, Try.ntmps41
  go_wp2_with (refine H.out.mono ?_; rintro e w1 ⟨rfl, h1⟩)
  go_ret
  exact ⟨ret_bool (findI_ge p l), h1⟩

set_option maxHeartbeats 400000 in
theorem check1_any (n l : Int) (pb : Nat) (w : World) (h0 : 0 ≤ n) (h1 : n ≤ 8192) (hc : w.cell? ⟨pb, 0, none⟩ = some (.int .i64 n)) :
    Calls Try.prog 44 #[.int .i64 l, .pointer (some ⟨pb, 0, none⟩)] w fun e w' => e = .returned (.bool (!litB n l)) ∧ w = w' := by
  go_enter Try.func44, Try.ntmps44
  go_wp2_with (refine (literal_any n l _ h0 h1).mono ?_; rintro e w1 ⟨rfl, rfl⟩)
  go_ret
  exact ⟨rfl, rfl⟩

theorem entered_check1 : Entered 44 := fun _ _ => rfl
/-- Are clauses' literals too many, behind m? -/
def manyB : List (List Int) → Int → Bool
  | [], _ => false
  | c :: cs, m => if 131072 - m < (c.length : Int) then true else manyB cs (m + c.length)
/-- P6.1 by number. -/
def chk (n : Int) (cl : List (List Int)) : Int :=
  if n < 0 ∨ 8192 < n then 1 else if 16384 < cl.length then 2 else if manyB cl 0 then 2 else if cl.any (fun c => c.any (fun l => !litB n l)) then 5 else 0

theorem drop_step {α : Type} (l : List α) (k : Nat) (h : k < l.length) : l.drop k = l[k] :: l.drop (k + 1) := List.drop_eq_getElem_cons h

theorem chk_arg {n : Int} {cl : List (List Int)} (h : n < 0 ∨ 8192 < n) : chk n cl = 1 := by simp [chk, h]
theorem chk_long {n : Int} {cl : List (List Int)} (g0 : 0 ≤ n) (g1 : n ≤ 8192) (h : 16384 < cl.length) : chk n cl = 2 := by
  have h0 : ¬ n < 0 := by omega
  have h1 : ¬ 8192 < n := by omega
  simp [chk, h0, h1, h]
theorem chk_many {n : Int} {cl : List (List Int)} (g0 : 0 ≤ n) (g1 : n ≤ 8192) (h : ¬ 16384 < cl.length) (hm : manyB cl 0 = true) : chk n cl = 2 := by
  have h0 : ¬ n < 0 := by omega
  have h1 : ¬ 8192 < n := by omega
  simp [chk, h0, h1, h, hm]
theorem chk_form {n : Int} {cl : List (List Int)} (g0 : 0 ≤ n) (g1 : n ≤ 8192) (h : ¬ 16384 < cl.length) (hm : manyB cl 0 = false) {k : Nat} (hk : k < cl.length) (hf : (cl[k].any fun l => !litB n l) = true) : chk n cl = 5 := by
  have : (cl.any fun c => c.any fun l => !litB n l) = true := List.any_eq_true.2 ⟨_, List.getElem_mem hk, hf⟩
  have h0 : ¬ n < 0 := by omega
  have h1 : ¬ 8192 < n := by omega
  simp only [chk, h0, h1, h, hm, this]; simp
theorem chk_fine {n : Int} {cl : List (List Int)} (g0 : 0 ≤ n) (g1 : n ≤ 8192) (h : ¬ 16384 < cl.length) (hm : manyB cl 0 = false) (hf : ∀ k (hk : k < cl.length), (cl[k].any fun l => !litB n l) = false) : chk n cl = 0 := by
  have : (cl.any fun c => c.any fun l => !litB n l) = false := by
    rw [List.any_eq_false]
    intro c hc
    obtain ⟨i, hi, rfl⟩ := List.mem_iff_getElem.1 hc
    simpa using hf i hi
  have h0 : ¬ n < 0 := by omega
  have h1 : ¬ 8192 < n := by omega
  simp only [chk, h0, h1, h, hm, this]; simp

set_option maxHeartbeats 1000000 in
theorem check_any (n : Int) (R : Nat → Prop) (w : World) (A : Option Addr) (cl : List (List Int)) (cap : Nat) (hcl : Rows2 R w A cl cap) :
    Calls Try.prog 24 #[.int .i64 n, .slice A cl.length cap] w fun e w' => e = .returned (errV 43 (chk n cl)) ∧ Chg No w w' := by
  have hb := hcl.big
  unfold big at hb
  by_cases hn0 : n < 0
  · have Hf := Lib.hid (chk_arg (cl := cl) (Or.inl hn0))
    go_enter Try.func24, Try.ntmps24
    go_wp2
    go_ret
    exact ⟨by rw [Hf.out]; rfl, (Chg.refl _ _).alloc _⟩
  by_cases hn1 : 8192 < n
  · have Hf := Lib.hid (chk_arg (cl := cl) (Or.inr hn1))
    go_enter Try.func24, Try.ntmps24
    go_wp2
    go_ret
    exact ⟨by rw [Hf.out]; rfl, (Chg.refl _ _).alloc _⟩
  by_cases hl : 16384 < cl.length
  · have Hf := Lib.hid (chk_long (n := n) (cl := cl) (by omega) (by omega) hl)
    go_enter Try.func24, Try.ntmps24
    go_wp2
    go_ret
    exact ⟨by rw [Hf.out]; rfl, (Chg.refl _ _).alloc _⟩
  have hl' : ¬ (16384 : Int) < (cl.length : Int) := by omega
  go_enter Try.func24, Try.ntmps24
  go_wp2
  have hcl := Lib.hid hcl
  go_loopw [5, 23] (fun m i wr => ∃ (k : Nat) (t : Int), k ≤ cl.length ∧ i = .int .i64 k ∧ m = .int .i64 t ∧ 0 ≤ t ∧ t ≤ 131072 ∧ Chg No w wr ∧ wr.cell? ⟨w.heap.size, 0, none⟩ = some (.int .i64 n) ∧ Hid (manyB cl 0 = manyB (cl.drop k) t)) (fun _ i _ => cl.length - (intOf i).toNat)
  case atStart => exact ⟨0, 0, Nat.zero_le _, rfl, rfl, by omega, by omega, (Chg.refl _ _).alloc _, by go_simp, rfl⟩
  case round =>
    obtain ⟨k, t, hk, rfl, rfl, ht0, ht1, hch, hcell, hmany⟩ := hrel
    by_cases hlt : k < cl.length
    · obtain ⟨b, o, A', c', rfl, hx, hx'⟩ := (hcl.out.no rowE_good hch).row_at k hlt
      have hb' := hx'.big
      unfold big at hb'
      by_cases hlong : 131072 - t < (cl[k].length : Int)
      · have Hf := Lib.hid (chk_many hn0 hn1 hl (by rw [hmany.out, drop_step _ _ hlt]; simp only [manyB]; rw [if_pos hlong]))
        go_wp2
        go_ret
        exact ⟨by rw [Hf.out]; rfl, hch⟩
      · have Hm := Lib.hid (show manyB cl 0 = manyB (cl.drop (k + 1)) (t + cl[k].length) by rw [hmany.out, drop_step _ _ hlt]; simp only [manyB]; rw [if_neg hlong])
        clear hmany hx'
        go_wp2
        go_roundw
        case rel => exact ⟨k + 1, t + cl[k].length, hlt, by go_num, rfl, by omega, by omega, hch, hcell, Hm⟩
        case measure => simp [intOf]; omega
    · have Hm := Lib.hid (show manyB cl 0 = false by rw [hmany.out, List.drop_eq_nil_of_le (by omega)]; rfl)
      clear hmany
      go_wp2
      go_loopw [40] (fun i wr => ∃ k : Nat, k ≤ cl.length ∧ i = .int .i64 k ∧ Chg No w wr ∧ wr.cell? ⟨w.heap.size, 0, none⟩ = some (.int .i64 n) ∧ Hid (∀ j (h : j < cl.length), j < k → (cl[j].any fun l => !litB n l) = false)) (fun i _ => cl.length - (intOf i).toNat)
      case atStart => exact ⟨0, Nat.zero_le _, rfl, hch, hcell, fun j _ h => absurd h (by omega)⟩
      case round =>
        clear hch hcell hlt hk
        obtain ⟨k, hk, rfl, hch, hcell, hall⟩ := hrel
        by_cases hlt : k < cl.length
        · obtain ⟨b, o, A', c', rfl, hx, hx'⟩ := (hcl.out.no rowE_good hch).row_at k hlt
          have hb' := hx'.big
          unfold big at hb'
          have HC := Lib.hid (fun W (hW : Chg No wr W) => containsFunc_ints R W A' cl[k] c' (hx'.no intE_good hW) 44 entered_check1 (.pointer (some ⟨w.heap.size, 0, none⟩)) (fun l => !litB n l)
            (fun w' hw' i hi => (check1_any n cl[k][i] w.heap.size w' (by omega) (by omega) (hw'.cell (hW.cell hcell id) id)).mono (by rintro e w1 ⟨rfl, rfl⟩; exact ⟨rfl, Chg.refl _ _⟩)))
          clear hx'
          go_wp2_with (refine (HC.out _ (Chg.refl _ _)).mono ?_; rintro e w1 ⟨rfl, h1⟩)
          · have hpk : (cl[k].any fun l => !litB n l) = true := by assumption
            have Hf := Lib.hid (chk_form hn0 hn1 hl Hm.out hlt hpk)
            clear hpk
            go_wp2
            go_ret
            exact ⟨by rw [Hf.out]; rfl, hch.thenNo h1⟩
          · have hpk : (cl[k].any fun l => !litB n l) = false := by assumption
            go_roundw
            case rel => exact ⟨k + 1, hlt, by go_num, hch.thenNo h1, h1.cell hcell id, fun j h hj => by
              rcases Nat.lt_or_ge j k with g | g
              · exact hall.out j h g
              · obtain rfl : j = k := by omega
                exact hpk⟩
            case measure => simp [intOf]; omega
        · go_wp2
          go_ret
          exact ⟨by rw [chk_fine hn0 hn1 hl Hm.out (fun k hk => hall.out k hk (by omega))]; rfl, hch⟩

end Go.Proofs.Ytlejcnbpodmleaa
