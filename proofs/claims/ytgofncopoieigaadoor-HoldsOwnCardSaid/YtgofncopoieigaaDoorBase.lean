/-
  What memory holds, said of lists: a slice of anything whose elements are known, a world that has changed in some blocks alone. General: no program is named here.
-/
import Derived.WalkKit
import Derived.WalkSpells
import Derived.Lib.Hide
import Derived.WalkLawsBesides
namespace Go.Proofs.YtgofncopoieigaaDoor
open Go Go.RowKit

/-- The world has changed in the blocks of S alone; it may have new ones. -/
structure Chg (S : Nat → Prop) (w w' : World) : Prop where
  os : w'.os = w.os
  tape : w'.tape = w.tape
  output : w'.output = w.output
  size : w.heap.size ≤ w'.heap.size
  block : ∀ k, k < w.heap.size → ¬ S k → w'.heap[k]? = w.heap[k]?

/-- No block. -/
def No : Nat → Prop := fun _ => False

namespace Chg
variable {S T : Nat → Prop} {w w1 w2 w3 : World}
theorem refl (S : Nat → Prop) (w : World) : Chg S w w := ⟨rfl, rfl, rfl, Nat.le_refl _, fun _ _ _ => rfl⟩
theorem trans (h : Chg S w w1) (g : Chg T w1 w2) (hT : ∀ k, T k → k < w.heap.size → S k) : Chg S w w2 :=
  ⟨g.os.trans h.os, g.tape.trans h.tape, g.output.trans h.output, Nat.le_trans h.size g.size,
   fun k hk hs => (g.block k (Nat.lt_of_lt_of_le hk h.size) (fun t => hs (hT k t hk))).trans (h.block k hk hs)⟩
theorem mono (h : Chg S w w1) (hS : ∀ k, S k → k < w.heap.size → T k) : Chg T w w1 :=
  ⟨h.os, h.tape, h.output, h.size, fun k hk hs => h.block k hk (fun s => hs (hS k s hk))⟩
theorem no (h : Chg No w w1) : Chg S w w1 := h.mono (fun _ f _ => f.elim)
theorem thenNo (h : Chg S w w1) (g : Chg No w1 w2) : Chg S w w2 := h.trans g (fun _ f _ => f.elim)
theorem drew (h : Chg S w w1) : Chg S w w1.drew := ⟨h.os, h.tape, h.output, h.size, h.block⟩
theorem drewN (h : Chg S w w1) (n : Nat) : Chg S w (w1.drewN n) := ⟨h.os, h.tape, h.output, h.size, h.block⟩
theorem alloc (h : Chg S w w1) (o : Obj) : Chg S w (w1.alloc o) :=
  h.thenNo ⟨rfl, rfl, rfl, by simp, fun k hk _ => Below.heap_alloc _ _ _ hk⟩
theorem setCell (h : Chg S w w1) (a : Addr) (u : Value) (ha : a.block < w.heap.size → S a.block) : Chg S w (w1.setCell a u) :=
  h.trans (T := fun k => k = a.block) ⟨rfl, rfl, rfl, by simp [World.setCell], fun k _ hs => Below.heap_setCell _ _ _ _ hs⟩ (fun k hk hlt => by subst hk; exact ha hlt)
theorem grown {row : Option Nat} (h : Chg S w w1) (hg : w1.grownBy w2 row) (hr : ∀ k, row = some k → k < w.heap.size → S k) : Chg S w w2 :=
  h.trans (T := fun k => row = some k) ⟨hg.os, hg.tape, hg.output, hg.size, fun k hk hs => hg.block k hk (fun e => hs e.symm)⟩ (fun k hk hlt => hr k hk hlt)
theorem below (h : Chg S w w1) {B : Nat} (hB : B ≤ w.heap.size) (hS : ∀ k, S k → B ≤ k) : Below B w w1 :=
  ⟨h.os, h.tape, h.output, h.size, fun k hk => h.block k (Nat.lt_of_lt_of_le hk hB) (fun s => by have := hS k s; omega)⟩
theorem cell (h : Chg S w w1) {b o : Nat} {v : Value} (hc : w.cell? ⟨b, o, none⟩ = some v) (hb : ¬ S b) : w1.cell? ⟨b, o, none⟩ = some v :=
  (World.cell?_of_block (w := w) (h.block b (World.block_lt_of_cell? w _ hc) hb)).trans hc
theorem obj (h : Chg S w w1) {b : Nat} {x : Obj} (hc : w.heap[b]? = some x) (hb : ¬ S b) : w1.heap[b]? = some x :=
  (h.block b ((Array.getElem?_eq_some_iff.1 hc).1) hb).trans hc
end Chg

/-- An int of 64 bits. -/
def I64 (x : Int) : Prop := -9223372036854775808 ≤ x ∧ x ≤ 9223372036854775807
theorem I64.of {x : Int} (h1 : -9000000000000000000 ≤ x) (h2 : x ≤ 9000000000000000000) : I64 x := by unfold I64; omega

/-- What lies at an offset of a block, which lies in the region R as all that it leads to; how many bytes it takes. -/
structure Elem (α : Type) where
  bytes : Nat
  pos : 0 < bytes
  at_ : (Nat → Prop) → World → Nat → Nat → α → Prop
instance {α : Type} : CoeFun (Elem α) (fun _ => (Nat → Prop) → World → Nat → Nat → α → Prop) := ⟨Elem.at_⟩

/-- Such a thing stays where no block of its region changes; it lies in R. -/
structure Elem.Good {α : Type} (E : Elem α) : Prop where
  stay : ∀ {R w w' b o x}, E R w b o x → (∀ k, k < w.heap.size → R k → w'.heap[k]? = w.heap[k]?) → E R w' b o x
  mono : ∀ {R R' : Nat → Prop} {w b o x}, E R w b o x → (∀ k, k < w.heap.size → R k → R' k) → E R' w b o x
  lies : ∀ {R w b o x}, E R w b o x → b < w.heap.size ∧ R b

theorem Elem.Good.chg {α : Type} {E : Elem α} (g : E.Good) {R S : Nat → Prop} {w w' : World} {b o : Nat} {x : α} (h : E R w b o x) (c : Chg S w w') (hd : ∀ k, R k → ¬ S k) : E R w' b o x :=
  g.stay h (fun k hk hr => c.block k hk (hd k hr))

/-- An int. -/
def IntE : Elem Int := ⟨8, by decide, fun R w b o x => R b ∧ w.cell? ⟨b, o, none⟩ = some (.int .i64 x) ∧ I64 x⟩
/-- A bool. -/
def BoolE : Elem Bool := ⟨1, by decide, fun R w b o x => R b ∧ w.cell? ⟨b, o, none⟩ = some (.bool x)⟩
/-- A string. -/
def StrE : Elem ByteArray := ⟨16, by decide, fun R w b o x => R b ∧ w.cell? ⟨b, o, none⟩ = some (.string x) ∧ x.size ≤ maxLen⟩

theorem cell_lt {w : World} {b o : Nat} {v : Value} (h : w.cell? ⟨b, o, none⟩ = some v) : b < w.heap.size := World.block_lt_of_cell? w _ h
theorem cell_of_heap {w w' : World} {b o : Nat} (h : w'.heap[b]? = w.heap[b]?) : w'.cell? ⟨b, o, none⟩ = w.cell? ⟨b, o, none⟩ := World.cell?_of_block (w := w) h

theorem intE_good : IntE.Good where
  stay := fun h hs => ⟨h.1, (cell_of_heap (hs _ (cell_lt h.2.1) h.1)).trans h.2.1, h.2.2⟩
  mono := fun h hm => ⟨hm _ (cell_lt h.2.1) h.1, h.2⟩
  lies := fun h => ⟨cell_lt h.2.1, h.1⟩
theorem boolE_good : BoolE.Good where
  stay := fun h hs => ⟨h.1, (cell_of_heap (hs _ (cell_lt h.2) h.1)).trans h.2⟩
  mono := fun h hm => ⟨hm _ (cell_lt h.2) h.1, h.2⟩
  lies := fun h => ⟨cell_lt h.2, h.1⟩
theorem strE_good : StrE.Good where
  stay := fun h hs => ⟨h.1, (cell_of_heap (hs _ (cell_lt h.2.1) h.1)).trans h.2.1, h.2.2⟩
  mono := fun h hm => ⟨hm _ (cell_lt h.2.1) h.1, h.2⟩
  lies := fun h => ⟨cell_lt h.2.1, h.1⟩

/-- The most bytes that a slice is let hold: 2^47. -/
def big : Nat := 140737488355328

/-- The slice at A, of l.length elements of sz cells, holds l. -/
structure Sl {α : Type} (E : Elem α) (sz : Nat) (R : Nat → Prop) (w : World) (A : Option Addr) (l : List α) (cap : Nat) : Prop where
  le : l.length ≤ cap
  max : cap ≤ maxLen
  room : l.length * E.bytes ≤ big
  nil : A = none → cap = 0
  at_ : ∀ i (h : i < l.length), ∃ b o, A = some ⟨b, o, none⟩ ∧ E R w b (o + i * sz) l[i]

/-- A slice as an element. -/
def SlE {α : Type} (E : Elem α) (sz : Nat) : Elem (List α) := ⟨24, by decide, fun R w b o l =>
  R b ∧ ∃ A cap, w.cell? ⟨b, o, none⟩ = some (.slice A l.length cap) ∧ Sl E sz R w A l cap⟩

namespace Sl
variable {α : Type} {E : Elem α} {sz cap : Nat} {R R' S : Nat → Prop} {w w' : World} {A : Option Addr} {l : List α}
theorem stay (g : E.Good) (h : Sl E sz R w A l cap) (hs : ∀ k, k < w.heap.size → R k → w'.heap[k]? = w.heap[k]?) : Sl E sz R w' A l cap :=
  ⟨h.le, h.max, h.room, h.nil, fun i hi => let ⟨b, o, e, x⟩ := h.at_ i hi; ⟨b, o, e, g.stay x hs⟩⟩
theorem mono (g : E.Good) (h : Sl E sz R w A l cap) (hm : ∀ k, k < w.heap.size → R k → R' k) : Sl E sz R' w A l cap :=
  ⟨h.le, h.max, h.room, h.nil, fun i hi => let ⟨b, o, e, x⟩ := h.at_ i hi; ⟨b, o, e, g.mono x hm⟩⟩
theorem chg (g : E.Good) (h : Sl E sz R w A l cap) (c : Chg S w w') (hd : ∀ k, R k → ¬ S k) : Sl E sz R w' A l cap :=
  h.stay g (fun k hk hr => c.block k hk (hd k hr))
theorem no (g : E.Good) (h : Sl E sz R w A l cap) (c : Chg No w w') : Sl E sz R w' A l cap := h.chg g c (fun _ _ f => f)
theorem empty : Sl E sz R w none ([] : List α) 0 := ⟨Nat.le_refl _, Nat.zero_le _, by simp, fun _ => rfl, fun i hi => absurd hi (Nat.not_lt_zero i)⟩
theorem big (h : Sl E sz R w A l cap) : l.length ≤ big := Nat.le_trans (Nat.le_mul_of_pos_right _ E.pos) h.room
end Sl

theorem slE_good {α : Type} {E : Elem α} (g : E.Good) (sz : Nat) : (SlE E sz).Good where
  stay := fun h hs => let ⟨hr, A, cap, hc, hl⟩ := h; ⟨hr, A, cap, (cell_of_heap (hs _ (cell_lt hc) hr)).trans hc, hl.stay g hs⟩
  mono := fun h hm => let ⟨hr, A, cap, hc, hl⟩ := h; ⟨hm _ (cell_lt hc) hr, A, cap, hc, hl.mono g hm⟩
  lies := fun h => let ⟨hr, _, _, hc, _⟩ := h; ⟨cell_lt hc, hr⟩

/-- []int, [][]int, []bool. -/
abbrev Ints := Sl IntE 1
abbrev RowE : Elem (List Int) := SlE IntE 1
abbrev Rows2 := Sl RowE 1
abbrev Bools := Sl BoolE 1
theorem rowE_good : RowE.Good := slE_good intE_good 1

namespace Sl
variable {R : Nat → Prop} {w : World} {A : Option Addr} {cap : Nat}
theorem int_at {l : List Int} (h : Ints R w A l cap) (i : Nat) (hi : i < l.length) : ∃ b o, A = some ⟨b, o, none⟩ ∧ w.cell? ⟨b, o + i, none⟩ = some (.int .i64 l[i]) := by
  obtain ⟨b, o, e, x⟩ := h.at_ i hi
  exact ⟨b, o, e, by simpa using x.2.1⟩
theorem int_ok {l : List Int} (h : Ints R w A l cap) (i : Nat) (hi : i < l.length) : I64 l[i] := by
  obtain ⟨b, o, e, x⟩ := h.at_ i hi
  exact x.2.2
theorem bool_at {l : List Bool} (h : Bools R w A l cap) (i : Nat) (hi : i < l.length) : ∃ b o, A = some ⟨b, o, none⟩ ∧ w.cell? ⟨b, o + i, none⟩ = some (.bool l[i]) := by
  obtain ⟨b, o, e, x⟩ := h.at_ i hi
  exact ⟨b, o, e, by simpa using x.2⟩
theorem row_at {l : List (List Int)} (h : Rows2 R w A l cap) (i : Nat) (hi : i < l.length) :
    ∃ b o A' cap', A = some ⟨b, o, none⟩ ∧ w.cell? ⟨b, o + i, none⟩ = some (.slice A' l[i].length cap') ∧ Ints R w A' l[i] cap' := by
  obtain ⟨b, o, e, _, A', c', x⟩ := h.at_ i hi
  exact ⟨b, o, A', c', e, by simpa using x.1, x.2⟩
end Sl

/-- An error that is one of api's codes (T: the number of api.Code); 0: none. -/
def errV (T : TypeId) (c : Int) : Value := if c = 0 then .nilIface else .iface T (.int .i64 c)

end Go.Proofs.YtgofncopoieigaaDoor
