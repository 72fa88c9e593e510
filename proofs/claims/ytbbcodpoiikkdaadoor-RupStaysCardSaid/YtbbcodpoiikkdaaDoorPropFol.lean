/-
  prop.Follow and the reference's, whatever they are asked: what is shown in XPropLaws, XPropAns and XPropRgt, without a law of chapter 6.
-/
import Derived.Test.YtbbcodpoiikkdaaDoorProp4
import Derived.Test.YtbbcodpoiikkdaaDoorProp5
import Derived.Test.YtbbcodpoiikkdaaDoorProp6
import Derived.Test.YtbbcodpoiikkdaaDoorOwnRows
namespace Go.Proofs.YtbbcodpoiikkdaaDoor
open Go Go.RowKit


theorem lits_all (n : Int) (lits : List Int) : badLits n lits = !lits.all (litB n) := by
  unfold badLits; exact all_litB n lits

section
variable {R R' : Nat → Prop} {w : World} (n : Int) {A A' : Option Addr} {cl : List (List Int)} {cap cap' : Nat} (hcl : Rows2 R w A cl cap) {lits : List Int} (hlits : Ints R' w A' lits cap') (hgood : chk n cl = 0)
include hcl hlits hgood
theorem follow_confl (hfine : lits.all (litB n) = true) (hC : ¬ ∃ a, Fol n.toNat cl lits a) :
    Calls Tryd.prog 18 #[.int .i64 n, .slice A cl.length cap, .slice A' lits.length cap'] w fun e w' => e = .returned (.tuple #[.slice none 0 0, .bool true, .nilIface]) ∧ Chg No w w' :=
  (follow_good n hcl hlits hgood (by rw [lits_all, hfine]; rfl)).mono (by
    rintro e w' ⟨hch, ⟨rfl, _⟩ | ⟨a, ba, rfl, hf, _⟩⟩
    · exact ⟨rfl, hch⟩
    · exact absurd ⟨a, hf⟩ hC)
theorem follow_fine {a : List Int} (hfine : lits.all (litB n) = true) (hf : Fol n.toNat cl lits a) :
    Calls Tryd.prog 18 #[.int .i64 n, .slice A cl.length cap, .slice A' lits.length cap'] w fun e w' => ∃ ba, e = .returned (.tuple #[.slice (some ⟨ba, 0, none⟩) a.length a.length, .bool false, .nilIface]) ∧ w.heap.size ≤ ba ∧ w'.heap[ba]? = some (.cells (a.map (Value.int .i64)).toArray 3 (0, 0)) ∧ Chg No w w' :=
  (follow_good n hcl hlits hgood (by rw [lits_all, hfine]; rfl)).mono (by
    rintro e w' ⟨hch, ⟨rfl, h⟩ | ⟨a, ba, rfl, hf', h1, h2⟩⟩
    · exact absurd h hf.fine
    · obtain rfl := hf'.unique hf
      exact ⟨ba, rfl, h1, h2, hch⟩)
theorem refFollow_confl (hfine : lits.all (litB n) = true) (hC : ¬ ∃ a, Fol n.toNat cl lits a) :
    Calls Tryd.prog 22 #[.int .i64 n, .slice A cl.length cap, .slice A' lits.length cap'] w fun e w' => e = .returned (.tuple #[.slice none 0 0, .bool true]) ∧ Chg No w w' :=
  (refFollow_any n hcl hlits hgood hfine).mono (by
    rintro e w' ⟨hch, ⟨rfl, _⟩ | ⟨a, ba, rfl, hf, _⟩⟩
    · exact ⟨rfl, hch⟩
    · exact absurd ⟨a, hf⟩ hC)
theorem refFollow_fine {a : List Int} (hfine : lits.all (litB n) = true) (hf : Fol n.toNat cl lits a) :
    Calls Tryd.prog 22 #[.int .i64 n, .slice A cl.length cap, .slice A' lits.length cap'] w fun e w' => ∃ ba, e = .returned (.tuple #[.slice (some ⟨ba, 0, none⟩) a.length a.length, .bool false]) ∧ w.heap.size ≤ ba ∧ w'.heap[ba]? = some (.cells (a.map (Value.int .i64)).toArray 3 (0, 0)) ∧ Chg No w w' :=
  (refFollow_any n hcl hlits hgood hfine).mono (by
    rintro e w' ⟨hch, ⟨rfl, h⟩ | ⟨a, ba, rfl, hf', h1, h2⟩⟩
    · exact absurd h hf.fine
    · obtain rfl := hf'.unique hf
      exact ⟨ba, rfl, h1, h2, hch⟩)
end

/-- What Follow answers: whether there is a conflict, the assignment, the code. -/
def IsAns (n : Int) (cl : List (List Int)) (lits : List Int) (conf : Bool) (a : List Int) (c : Int) : Prop :=
  (chk n cl ≠ 0 ∧ conf = false ∧ a = [] ∧ c = chk n cl) ∨
  (chk n cl = 0 ∧ lits.all (litB n) = false ∧ conf = false ∧ a = [] ∧ c = 5) ∨
  (chk n cl = 0 ∧ lits.all (litB n) = true ∧ conf = false ∧ c = 0 ∧ Fol n.toNat cl lits a) ∨
  (chk n cl = 0 ∧ lits.all (litB n) = true ∧ conf = true ∧ a = [] ∧ c = 0 ∧ ¬ ∃ a, Fol n.toNat cl lits a)
theorem isAns_ex (n : Int) (cl : List (List Int)) (lits : List Int) : ∃ conf a c, IsAns n cl lits conf a c := by
  by_cases h : chk n cl = 0
  · cases hl : lits.all (litB n)
    · exact ⟨_, _, _, .inr (.inl ⟨h, hl, rfl, rfl, rfl⟩)⟩
    · by_cases hf : ∃ a, Fol n.toNat cl lits a
      · obtain ⟨a, hf⟩ := hf
        exact ⟨_, _, _, .inr (.inr (.inl ⟨h, hl, rfl, rfl, hf⟩))⟩
      · exact ⟨_, _, _, .inr (.inr (.inr ⟨h, hl, rfl, rfl, rfl, hf⟩))⟩
  · exact ⟨_, _, _, .inl ⟨h, rfl, rfl, rfl⟩⟩
theorem isAns_len {n : Int} {cl : List (List Int)} {lits : List Int} {conf : Bool} {a : List Int} {c : Int} (h : IsAns n cl lits conf a c) : a.length ≤ 9000 := by
  rcases h with ⟨_, _, rfl, _⟩ | ⟨_, _, _, rfl, _⟩ | ⟨h1, _, _, _, h5⟩ | ⟨_, _, _, rfl, _⟩
  · simp
  · simp
  · obtain ⟨N, rfl, hN, _⟩ := chk_zero h1
    have := h5.len
    rw [Int.toNat_natCast] at this
    omega
  · simp
/-- The block of what Follow answers. -/
def AnsAt (S : Option Addr) (a : List Int) (B : Nat) (w : World) : Prop := (a = [] ∧ S = none) ∨ ∃ ba, S = some ⟨ba, 0, none⟩ ∧ B ≤ ba ∧ w.heap[ba]? = some (.cells (a.map (Value.int .i64)).toArray 3 (0, 0))
theorem AnsAt.no {S : Option Addr} {a : List Int} {B : Nat} {w w' : World} (h : AnsAt S a B w) (c : Chg No w w') : AnsAt S a B w' := by
  rcases h with h | ⟨ba, h1, h2, h3⟩
  · exact .inl h
  · exact .inr ⟨ba, h1, h2, c.obj h3 id⟩
theorem AnsAt.cell {S : Option Addr} {a : List Int} {B : Nat} {w : World} (h : AnsAt S a B w) (k : Nat) (hk : k < a.length) : ∃ ba, S = some ⟨ba, 0, none⟩ ∧ w.cell? ⟨ba, k, none⟩ = some (.int .i64 a[k]) := by
  rcases h with ⟨rfl, _⟩ | ⟨ba, h1, h2, h3⟩
  · exact absurd hk (Nat.not_lt_zero k)
  · exact ⟨ba, h1, by simp [World.cell?, h3, hk]⟩

theorem follow_ans {n : Int} {cl : List (List Int)} {lits : List Int} {conf : Bool} {a : List Int} {c : Int} (h : IsAns n cl lits conf a c) {R R' : Nat → Prop} {W : World} {A A' : Option Addr} {cap cap' : Nat} (hcl : Rows2 R W A cl cap) (hlits : Ints R' W A' lits cap') :
    Calls Tryd.prog 18 #[.int .i64 n, .slice A cl.length cap, .slice A' lits.length cap'] W fun e w' => ∃ S, e = .returned (.tuple #[.slice S a.length a.length, .bool conf, errV 36 c]) ∧ AnsAt S a W.heap.size w' ∧ Chg No W w' := by
  rcases h with ⟨h1, rfl, rfl, rfl⟩ | ⟨h1, h2, rfl, rfl, rfl⟩ | ⟨h1, h2, rfl, rfl, h5⟩ | ⟨h1, h2, rfl, rfl, rfl, h6⟩
  · exact (follow_bad n hcl lits h1).mono (by rintro e w' ⟨rfl, h⟩; exact ⟨none, rfl, .inl ⟨rfl, rfl⟩, h⟩)
  · exact (follow_lits n hcl hlits h1 (by rw [lits_all, h2]; rfl)).mono (by rintro e w' ⟨rfl, h⟩; exact ⟨none, rfl, .inl ⟨rfl, rfl⟩, h⟩)
  · exact (follow_fine n hcl hlits h1 h2 h5).mono (by rintro e w' ⟨ba, rfl, hb, h, hc⟩; exact ⟨_, rfl, .inr ⟨ba, rfl, hb, h⟩, hc⟩)
  · exact (follow_confl n hcl hlits h1 h2 h6).mono (by rintro e w' ⟨rfl, h⟩; exact ⟨none, rfl, .inl ⟨rfl, rfl⟩, h⟩)

theorem valB_opp {values : List Bool} {l : Int} (h0 : l ≠ 0) (h : valB values l = true) : valB values (-l) = false := by
  have e : decide (0 < -l) = !decide (0 < l) := by
    by_cases hp : 0 < l
    · rw [decide_eq_true hp, decide_eq_false (by omega)]; rfl
    · rw [decide_eq_false hp, decide_eq_true (by omega)]; rfl
  unfold valB at *
  rw [Int.natAbs_neg, e]
  simp only [Bool.and_eq_true, decide_eq_true_eq, beq_iff_eq] at h
  rw [h.2]
  cases decide (0 < l) <;> simp
/-- Values by which clauses and literals are true make true what follows. -/
theorem drv_true {n : Nat} {cl : List (List Int)} {lits : List Int} {values : List Bool} (hcl : ∀ c ∈ cl, ∀ l ∈ c, l ≠ 0 ∧ l.natAbs ≤ n) (hl : ∀ l ∈ lits, valB values l = true) (hc : ∀ c ∈ cl, c.any (valB values) = true) :
    ∀ l, Drv cl lits l → valB values l = true := by
  intro l h
  induction h with
  | lit h => exact hl _ h
  | @unit c l hcc hlc _ ih =>
    obtain ⟨m, hm, hv⟩ := List.any_eq_true.1 (hc c hcc)
    by_cases e : m = l
    · rw [← e]; exact hv
    · have h1 := ih m hm e
      have hb := hcl c hcc m hm
      rw [valB_opp hb.1 hv] at h1; cases h1

theorem right_fol {n : Nat} {cl : List (List Int)} {lits : List Int} {values : List Bool} (hcl : ∀ c ∈ cl, ∀ l ∈ c, l ≠ 0 ∧ l.natAbs ≤ n) (hl : ∀ l ∈ lits, valB values l = true) (hc : ∀ c ∈ cl, c.any (valB values) = true) : ¬ Confl cl lits := by
  have ht := drv_true hcl hl hc
  rintro (⟨l, h0, h1, h2⟩ | ⟨c, hcc, h⟩)
  · have e1 := ht _ h1
    have e2 := ht _ h2
    rw [valB_opp h0 e1] at e2; cases e2
  · obtain ⟨m, hm, hv⟩ := List.any_eq_true.1 (hc c hcc)
    have e2 := ht _ (h m hm)
    rw [valB_opp (hcl c hcc m hm).1 hv] at e2; cases e2

/-- What an assignment that tells what follows says of a variable agrees with the values. -/
theorem right_at {n : Nat} {cl : List (List Int)} {lits a : List Int} {values : List Bool} (hf : Fol n cl lits a) (hcl : ∀ c ∈ cl, ∀ l ∈ c, l ≠ 0 ∧ l.natAbs ≤ n) (hl : ∀ l ∈ lits, valB values l = true) (hc : ∀ c ∈ cl, c.any (valB values) = true)
    (i : Nat) (h1 : 1 ≤ i) (h2 : i ≤ n) : (a.getD i 0 = 1 → values.getD (i - 1) false = true) ∧ (a.getD i 0 = -1 → values.getD (i - 1) false = false) := by
  have ht := drv_true hcl hl hc
  have hv : val a (i : Int) = a.getD i 0 := by unfold val; rw [if_neg (by omega), Int.natAbs_natCast]
  constructor
  · intro h
    have := ht _ ((hf.tells (i : Int) (by omega) (by simpa using h2)).1 (by rw [hv, h]))
    unfold valB at this
    simp only [Int.natAbs_natCast, Bool.and_eq_true, decide_eq_true_eq, beq_iff_eq] at this
    rw [this.2]
    exact decide_eq_true (by omega)
  · intro h
    have := ht _ ((hf.tells (-(i : Int)) (by omega) (by simpa using h2)).1 (by rw [val_neg _ _ (by omega), hv, h]; rfl))
    unfold valB at this
    rw [Int.natAbs_neg, Int.natAbs_natCast] at this
    simp only [Bool.and_eq_true, decide_eq_true_eq, beq_iff_eq] at this
    rw [this.2]
    exact decide_eq_false (by omega)

end Go.Proofs.YtbbcodpoiikkdaaDoor
