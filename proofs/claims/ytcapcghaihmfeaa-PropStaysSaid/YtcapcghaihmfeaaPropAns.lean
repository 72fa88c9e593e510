/-
  prop.Follow, whatever it is asked: one answer.
-/
import Derived.Test.YtcapcghaihmfeaaPropLaws
import Derived.Test.YtcapcghaihmfeaaOwnRows
namespace Go.Proofs.Ytcapcghaihmfeaa
open Go Go.RowKit

/-- What Follow answers: whether there is a conflict, the assignment, the code. -/
def IsAns (n : Int) (cl : List (List Int)) (lits : List Int) (conf : Bool) (a : List Int) (c : Int) : Prop :=
  (chk n cl ≠ 0 ∧ conf = false ∧ a = [] ∧ c = chk n cl) ∨
  (chk n cl = 0 ∧ lits.all (litB n) = false ∧ conf = false ∧ a = [] ∧ c = 5) ∨
  (chk n cl = 0 ∧ lits.all (litB n) = true ∧ conf = false ∧ c = 0 ∧ Fol n.toNat cl lits a) ∨
  (chk n cl = 0 ∧ lits.all (litB n) = true ∧ conf = true ∧ a = [] ∧ c = 0 ∧ ¬ ∃ a, Fol n.toNat cl lits a)
theorem isAns_ex (n : Int) (cl : List (List Int)) (lits : List Int) : ∃ conf a c, IsAns n cl lits conf a c := by
  by_cases h : chk n cl = 0
  · cases hl : lits.all (litB n)
    · exact ⟨_, _, _, .inr (.inl ⟨h, hl, rfl, rfl, rfl⟩)⟩
    · by_cases hf : ∃ a, Fol n.toNat cl lits a
      · obtain ⟨a, hf⟩ := hf
        exact ⟨_, _, _, .inr (.inr (.inl ⟨h, hl, rfl, rfl, hf⟩))⟩
      · exact ⟨_, _, _, .inr (.inr (.inr ⟨h, hl, rfl, rfl, rfl, hf⟩))⟩
  · exact ⟨_, _, _, .inl ⟨h, rfl, rfl, rfl⟩⟩
theorem isAns_len {n : Int} {cl : List (List Int)} {lits : List Int} {conf : Bool} {a : List Int} {c : Int} (h : IsAns n cl lits conf a c) : a.length ≤ 9000 := by
  rcases h with ⟨_, _, rfl, _⟩ | ⟨_, _, _, rfl, _⟩ | ⟨h1, _, _, _, h5⟩ | ⟨_, _, _, rfl, _⟩
  · simp
  · simp
  · obtain ⟨N, rfl, hN, _⟩ := chk_zero h1
    have := h5.len
    rw [Int.toNat_natCast] at this
    omega
  · simp
/-- The block of what Follow answers. -/
def AnsAt (S : Option Addr) (a : List Int) (B : Nat) (w : World) : Prop := (a = [] ∧ S = none) ∨ ∃ ba, S = some ⟨ba, 0, none⟩ ∧ B ≤ ba ∧ w.heap[ba]? = some (.cells (a.map (Value.int .i64)).toArray 3 (0, 0))
theorem AnsAt.no {S : Option Addr} {a : List Int} {B : Nat} {w w' : World} (h : AnsAt S a B w) (c : Chg No w w') : AnsAt S a B w' := by
  rcases h with h | ⟨ba, h1, h2, h3⟩
  · exact .inl h
  · exact .inr ⟨ba, h1, h2, c.obj h3 id⟩
theorem AnsAt.cell {S : Option Addr} {a : List Int} {B : Nat} {w : World} (h : AnsAt S a B w) (k : Nat) (hk : k < a.length) : ∃ ba, S = some ⟨ba, 0, none⟩ ∧ w.cell? ⟨ba, k, none⟩ = some (.int .i64 a[k]) := by
  rcases h with ⟨rfl, _⟩ | ⟨ba, h1, h2, h3⟩
  · exact absurd hk (Nat.not_lt_zero k)
  · exact ⟨ba, h1, by simp [World.cell?, h3, hk]⟩

theorem follow_ans {n : Int} {cl : List (List Int)} {lits : List Int} {conf : Bool} {a : List Int} {c : Int} (h : IsAns n cl lits conf a c) {R R' : Nat → Prop} {W : World} {A A' : Option Addr} {cap cap' : Nat} (hcl : Rows2 R W A cl cap) (hlits : Ints R' W A' lits cap') :
    Calls Try.prog 12 #[.int .i64 n, .slice A cl.length cap, .slice A' lits.length cap'] W fun e w' => ∃ S, e = .returned (.tuple #[.slice S a.length a.length, .bool conf, errV 28 c]) ∧ AnsAt S a W.heap.size w' ∧ Chg No W w' := by
  rcases h with ⟨h1, rfl, rfl, rfl⟩ | ⟨h1, h2, rfl, rfl, rfl⟩ | ⟨h1, h2, rfl, rfl, h5⟩ | ⟨h1, h2, rfl, rfl, rfl, h6⟩
  · exact (follow_bad n hcl lits h1).mono (by rintro e w' ⟨rfl, h⟩; exact ⟨none, rfl, .inl ⟨rfl, rfl⟩, h⟩)
  · exact (follow_lits n hcl hlits h1 (by rw [lits_all, h2]; rfl)).mono (by rintro e w' ⟨rfl, h⟩; exact ⟨none, rfl, .inl ⟨rfl, rfl⟩, h⟩)
  · exact (follow_fine n hcl hlits h1 h2 h5).mono (by rintro e w' ⟨ba, rfl, hb, h, hc⟩; exact ⟨_, rfl, .inr ⟨ba, rfl, hb, h⟩, hc⟩)
  · exact (follow_confl n hcl hlits h1 h2 h6).mono (by rintro e w' ⟨rfl, h⟩; exact ⟨none, rfl, .inl ⟨rfl, rfl⟩, h⟩)
end Go.Proofs.Ytcapcghaihmfeaa
