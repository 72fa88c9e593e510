/-
  The walk over NormLiterals.
-/
import Derived.Test.YtlejcnbpodmleaaNrmG
namespace Go.Proofs.Ytlejcnbpodmleaa
open Go Go.RowKit

theorem LitRet.shape {w w' : World} {f : FT 2} {E : Value} {e : Ending} (h : LitRet w f E e w') : ∃ k c A l ca B m cb, e = .returned (.tuple #[.agg #[.int .i64 k, .int .i64 c, .slice A l ca, .slice B m cb], E]) ∧ (formV 2) (fun k => w.heap.size ≤ k) w' [.int .i64 k, .int .i64 c, .slice A l ca, .slice B m cb] f ∧ Chg No w w' := by
  obtain ⟨cs, rfl, hf, hc⟩ := h
  obtain ⟨k, c, A, l, ca, B, m, cb, rfl⟩ := shape4 hf
  exact ⟨k, c, A, l, ca, B, m, cb, rfl, hf, hc⟩
theorem litErr_range (c : Int) (t : List Mono) : 0 ≤ litErr c t ∧ litErr c t ≤ 16 := by
  unfold litErr
  split
  · split
    · omega
    · split
      · omega
      · split <;> omega
  · omega

end Go.Proofs.Ytlejcnbpodmleaa
