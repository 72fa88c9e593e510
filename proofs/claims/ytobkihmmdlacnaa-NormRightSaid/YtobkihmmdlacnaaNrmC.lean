/-
  The reference's Up.
-/
import Derived.Test.YtobkihmmdlacnaaNrmA
namespace Go.Proofs.Ytobkihmmdlacnaa
open Go Go.RowKit

theorem div_parts {a g : Int} (hg : 1 ≤ g) : Int.tdiv a g * g = a - Int.tmod a g ∧ -g < Int.tmod a g ∧ Int.tmod a g < g := by
  have h1 : Int.tmod a g + g * Int.tdiv a g = a := Int.tmod_add_mul_tdiv a g
  have h2 : (Int.tmod a g).natAbs = a.natAbs % g.natAbs := Int.natAbs_tmod a g
  have h3 : a.natAbs % g.natAbs < g.natAbs := Nat.mod_lt _ (by omega)
  rw [Int.mul_comm]
  omega
theorem up_parts {a g : Int} (hg : 1 ≤ g) : a ≤ upI a g * g ∧ (upI a g - 1) * g < a ∧ upI a g * g < a + g := by
  obtain ⟨h1, h2, h3⟩ := div_parts (a := a) hg
  unfold upI
  split
  · rw [Int.add_mul, Int.one_mul, h1, Int.add_sub_cancel, h1]
    omega
  · rw [Int.sub_mul, Int.one_mul, h1]
    omega
set_option maxHeartbeats 1000000 in
theorem refUp_any (a g : Int) (w : World) (h1 : -1073741824 ≤ a) (h2 : a ≤ 1073741824) (hg : 1 ≤ g) (hg2 : g ≤ 1073741824) :
    Calls Try.prog 30 #[.int .i64 a, .int .i64 g] w fun e w' => e = .returned (.int .i64 (upI a g)) ∧ w = w' := by
  obtain ⟨t1, t2⟩ := tdiv_range h1 h2 hg
  obtain ⟨d1, d2, d3⟩ := div_parts (a := a) hg
  obtain ⟨u1, u2, u3⟩ := up_parts (a := a) hg
  have hg1 : g ≠ 0 := by omega
  have hq : upI a g = Int.tdiv a g ∨ (upI a g = Int.tdiv a g + 1 ∧ Int.tdiv a g * g < a) := by
    unfold upI; split
    · exact .inr ⟨rfl, by rw [d1]; omega⟩
    · exact .inl rfl
  have HD : Hid (Int.tdiv a g * g = a - Int.tmod a g) := d1
  have b1 : -3000000000 ≤ Int.tdiv a g * g := by rw [d1]; omega
  have b2 : Int.tdiv a g * g ≤ 3000000000 := by rw [d1]; omega
  have HQ := Lib.hid hq
  have b3 : (upI a g - 1) * g = upI a g * g - g := by rw [Int.sub_mul, Int.one_mul]
  have b4 : -3000000000 ≤ (upI a g - 1) * g := by rw [b3]; omega
  have b5 : (upI a g - 1) * g ≤ 3000000000 := by omega
  have b6 : upI a g * g ≤ 3000000000 := by omega
  have b7 : -3000000000 ≤ upI a g * g := by omega
  have b8 : -2000000000 ≤ upI a g := by rcases hq with h | h <;> omega
  have b9 : upI a g ≤ 2000000000 := by rcases hq with h | h <;> omega
  clear d1 hq b3
  generalize upI a g = u at *
  go_enter Try.func30, Try.ntmps30
  go_wp2
  go_loopw [5] (fun s5 wr => wr = w ∧ ∃ q : Int, s5 = .int .i64 q ∧ (q = u ∨ (q = Int.tdiv a g ∧ u = Int.tdiv a g + 1 ∧ Int.tdiv a g * g < a))) (fun s5 _ => (u - intOf s5).toNat)
  case atStart => exact ⟨rfl, _, rfl, by rcases HQ.out with h | h; exact .inl h.symm; exact .inr ⟨rfl, h.1, h.2⟩⟩
  case round =>
    obtain ⟨rfl, q, rfl, hq⟩ := hrel
    rcases hq with rfl | ⟨rfl, hu, hlt⟩
    · have e1 : decide (q * g < a) = false := by simpa using u1
      clear u1 HQ HD
      go_wp2
      clear e1
      obtain ⟨wo, rfl⟩ : ∃ wo, wo = wr := ⟨_, rfl⟩
      go_loopw [5] (fun s5 wr => wr = wo ∧ s5 = .int .i64 q) (fun _ _ => 0)
      case atStart => exact ⟨rfl, rfl⟩
      case round =>
        obtain ⟨rfl, rfl⟩ := hrel
        have e2 : decide (a ≤ (q - 1) * g) = false := by simpa using u2
        clear u2
        go_wp2
        go_ret
        exact ⟨rfl, rfl⟩
    · have e1 : decide (Int.tdiv a g * g < a) = true := by simpa using hlt
      have HU := Lib.hid hu
      clear hu hlt HQ HD
      go_wp2
      go_roundw
      case rel => exact ⟨trivial, _, rfl, .inl HU.out.symm⟩
      case measure => have := HU.out; simp [intOf]; omega
end Go.Proofs.Ytobkihmmdlacnaa
