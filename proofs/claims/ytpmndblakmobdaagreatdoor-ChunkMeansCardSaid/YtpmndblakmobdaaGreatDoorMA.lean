/-
  Base, Code, Own, OwnRows, Find, Open, OpenS, Later, OwnL, in one file.
-/
import Derived.WalkKit
import Derived.WalkSpells
import Derived.Lib.Hide
import Derived.WalkLawsBesides
import Derived.Test.YtpmndblakmobdaaGreatDoorRows
import Derived.LaidEql
import Derived.ProofKit
import Derived.SizedLaws
import Derived.Deep.Slices
import Derived.Deep.QuietTactic
import Derived.BigQuiet
/- Base -/
namespace Go.Proofs.YtpmndblakmobdaaGreatDoor
open Go Go.RowKit

/-- The world has changed in the blocks of S alone; it may have new ones. -/
structure Chg (S : Nat → Prop) (w w' : World) : Prop where
  os : w'.os = w.os
  tape : w'.tape = w.tape
  output : w'.output = w.output
  size : w.heap.size ≤ w'.heap.size
  block : ∀ k, k < w.heap.size → ¬ S k → w'.heap[k]? = w.heap[k]?

/-- No block. -/
def No : Nat → Prop := fun _ => False

namespace Chg
variable {S T : Nat → Prop} {w w1 w2 w3 : World}
theorem refl (S : Nat → Prop) (w : World) : Chg S w w := ⟨rfl, rfl, rfl, Nat.le_refl _, fun _ _ _ => rfl⟩
theorem trans (h : Chg S w w1) (g : Chg T w1 w2) (hT : ∀ k, T k → k < w.heap.size → S k) : Chg S w w2 :=
  ⟨g.os.trans h.os, g.tape.trans h.tape, g.output.trans h.output, Nat.le_trans h.size g.size,
   fun k hk hs => (g.block k (Nat.lt_of_lt_of_le hk h.size) (fun t => hs (hT k t hk))).trans (h.block k hk hs)⟩
theorem mono (h : Chg S w w1) (hS : ∀ k, S k → k < w.heap.size → T k) : Chg T w w1 :=
  ⟨h.os, h.tape, h.output, h.size, fun k hk hs => h.block k hk (fun s => hs (hS k s hk))⟩
theorem no (h : Chg No w w1) : Chg S w w1 := h.mono (fun _ f _ => f.elim)
theorem thenNo (h : Chg S w w1) (g : Chg No w1 w2) : Chg S w w2 := h.trans g (fun _ f _ => f.elim)
theorem drew (h : Chg S w w1) : Chg S w w1.drew := ⟨h.os, h.tape, h.output, h.size, h.block⟩
theorem drewN (h : Chg S w w1) (n : Nat) : Chg S w (w1.drewN n) := ⟨h.os, h.tape, h.output, h.size, h.block⟩
theorem alloc (h : Chg S w w1) (o : Obj) : Chg S w (w1.alloc o) :=
  h.thenNo ⟨rfl, rfl, rfl, by simp, fun k hk _ => Below.heap_alloc _ _ _ hk⟩
theorem setCell (h : Chg S w w1) (a : Addr) (u : Value) (ha : a.block < w.heap.size → S a.block) : Chg S w (w1.setCell a u) :=
  h.trans (T := fun k => k = a.block) ⟨rfl, rfl, rfl, by simp [World.setCell], fun k _ hs => Below.heap_setCell _ _ _ _ hs⟩ (fun k hk hlt => by subst hk; exact ha hlt)
theorem grown {row : Option Nat} (h : Chg S w w1) (hg : w1.grownBy w2 row) (hr : ∀ k, row = some k → k < w.heap.size → S k) : Chg S w w2 :=
  h.trans (T := fun k => row = some k) ⟨hg.os, hg.tape, hg.output, hg.size, fun k hk hs => hg.block k hk (fun e => hs e.symm)⟩ (fun k hk hlt => hr k hk hlt)
theorem below (h : Chg S w w1) {B : Nat} (hB : B ≤ w.heap.size) (hS : ∀ k, S k → B ≤ k) : Below B w w1 :=
  ⟨h.os, h.tape, h.output, h.size, fun k hk => h.block k (Nat.lt_of_lt_of_le hk hB) (fun s => by have := hS k s; omega)⟩
theorem cell (h : Chg S w w1) {b o : Nat} {v : Value} (hc : w.cell? ⟨b, o, none⟩ = some v) (hb : ¬ S b) : w1.cell? ⟨b, o, none⟩ = some v :=
  (World.cell?_of_block (w := w) (h.block b (World.block_lt_of_cell? w _ hc) hb)).trans hc
theorem obj (h : Chg S w w1) {b : Nat} {x : Obj} (hc : w.heap[b]? = some x) (hb : ¬ S b) : w1.heap[b]? = some x :=
  (h.block b ((Array.getElem?_eq_some_iff.1 hc).1) hb).trans hc
end Chg

/-- An int of 64 bits. -/
def I64 (x : Int) : Prop := -9223372036854775808 ≤ x ∧ x ≤ 9223372036854775807
theorem I64.of {x : Int} (h1 : -9000000000000000000 ≤ x) (h2 : x ≤ 9000000000000000000) : I64 x := by unfold I64; omega

/-- What lies at an offset of a block, which lies in the region R as all that it leads to; how many bytes it takes. -/
structure Elem (α : Type) where
  bytes : Nat
  pos : 0 < bytes
  at_ : (Nat → Prop) → World → Nat → Nat → α → Prop
instance {α : Type} : CoeFun (Elem α) (fun _ => (Nat → Prop) → World → Nat → Nat → α → Prop) := ⟨Elem.at_⟩

/-- Such a thing stays where no block of its region changes; it lies in R. -/
structure Elem.Good {α : Type} (E : Elem α) : Prop where
  stay : ∀ {R w w' b o x}, E R w b o x → (∀ k, k < w.heap.size → R k → w'.heap[k]? = w.heap[k]?) → E R w' b o x
  mono : ∀ {R R' : Nat → Prop} {w b o x}, E R w b o x → (∀ k, k < w.heap.size → R k → R' k) → E R' w b o x
  lies : ∀ {R w b o x}, E R w b o x → b < w.heap.size ∧ R b

theorem Elem.Good.chg {α : Type} {E : Elem α} (g : E.Good) {R S : Nat → Prop} {w w' : World} {b o : Nat} {x : α} (h : E R w b o x) (c : Chg S w w') (hd : ∀ k, R k → ¬ S k) : E R w' b o x :=
  g.stay h (fun k hk hr => c.block k hk (hd k hr))

/-- An int. -/
def IntE : Elem Int := ⟨8, by decide, fun R w b o x => R b ∧ w.cell? ⟨b, o, none⟩ = some (.int .i64 x) ∧ I64 x⟩
/-- A bool. -/
def BoolE : Elem Bool := ⟨1, by decide, fun R w b o x => R b ∧ w.cell? ⟨b, o, none⟩ = some (.bool x)⟩
/-- A string. -/
def StrE : Elem ByteArray := ⟨16, by decide, fun R w b o x => R b ∧ w.cell? ⟨b, o, none⟩ = some (.string x) ∧ x.size ≤ maxLen⟩

theorem cell_lt {w : World} {b o : Nat} {v : Value} (h : w.cell? ⟨b, o, none⟩ = some v) : b < w.heap.size := World.block_lt_of_cell? w _ h
theorem cell_of_heap {w w' : World} {b o : Nat} (h : w'.heap[b]? = w.heap[b]?) : w'.cell? ⟨b, o, none⟩ = w.cell? ⟨b, o, none⟩ := World.cell?_of_block (w := w) h

theorem intE_good : IntE.Good where
  stay := fun h hs => ⟨h.1, (cell_of_heap (hs _ (cell_lt h.2.1) h.1)).trans h.2.1, h.2.2⟩
  mono := fun h hm => ⟨hm _ (cell_lt h.2.1) h.1, h.2⟩
  lies := fun h => ⟨cell_lt h.2.1, h.1⟩
theorem boolE_good : BoolE.Good where
  stay := fun h hs => ⟨h.1, (cell_of_heap (hs _ (cell_lt h.2) h.1)).trans h.2⟩
  mono := fun h hm => ⟨hm _ (cell_lt h.2) h.1, h.2⟩
  lies := fun h => ⟨cell_lt h.2, h.1⟩
theorem strE_good : StrE.Good where
  stay := fun h hs => ⟨h.1, (cell_of_heap (hs _ (cell_lt h.2.1) h.1)).trans h.2.1, h.2.2⟩
  mono := fun h hm => ⟨hm _ (cell_lt h.2.1) h.1, h.2⟩
  lies := fun h => ⟨cell_lt h.2.1, h.1⟩

/-- The most bytes that a slice is let hold: 2^47. -/
def big : Nat := 140737488355328

/-- The slice at A, of l.length elements of sz cells, holds l. -/
structure Sl {α : Type} (E : Elem α) (sz : Nat) (R : Nat → Prop) (w : World) (A : Option Addr) (l : List α) (cap : Nat) : Prop where
  le : l.length ≤ cap
  max : cap ≤ maxLen
  room : l.length * E.bytes ≤ big
  nil : A = none → cap = 0
  at_ : ∀ i (h : i < l.length), ∃ b o, A = some ⟨b, o, none⟩ ∧ E R w b (o + i * sz) l[i]

/-- A slice as an element. -/
def SlE {α : Type} (E : Elem α) (sz : Nat) : Elem (List α) := ⟨24, by decide, fun R w b o l =>
  R b ∧ ∃ A cap, w.cell? ⟨b, o, none⟩ = some (.slice A l.length cap) ∧ Sl E sz R w A l cap⟩

namespace Sl
variable {α : Type} {E : Elem α} {sz cap : Nat} {R R' S : Nat → Prop} {w w' : World} {A : Option Addr} {l : List α}
theorem stay (g : E.Good) (h : Sl E sz R w A l cap) (hs : ∀ k, k < w.heap.size → R k → w'.heap[k]? = w.heap[k]?) : Sl E sz R w' A l cap :=
  ⟨h.le, h.max, h.room, h.nil, fun i hi => let ⟨b, o, e, x⟩ := h.at_ i hi; ⟨b, o, e, g.stay x hs⟩⟩
theorem mono (g : E.Good) (h : Sl E sz R w A l cap) (hm : ∀ k, k < w.heap.size → R k → R' k) : Sl E sz R' w A l cap :=
  ⟨h.le, h.max, h.room, h.nil, fun i hi => let ⟨b, o, e, x⟩ := h.at_ i hi; ⟨b, o, e, g.mono x hm⟩⟩
theorem chg (g : E.Good) (h : Sl E sz R w A l cap) (c : Chg S w w') (hd : ∀ k, R k → ¬ S k) : Sl E sz R w' A l cap :=
  h.stay g (fun k hk hr => c.block k hk (hd k hr))
theorem no (g : E.Good) (h : Sl E sz R w A l cap) (c : Chg No w w') : Sl E sz R w' A l cap := h.chg g c (fun _ _ f => f)
theorem empty : Sl E sz R w none ([] : List α) 0 := ⟨Nat.le_refl _, Nat.zero_le _, by simp, fun _ => rfl, fun i hi => absurd hi (Nat.not_lt_zero i)⟩
theorem big (h : Sl E sz R w A l cap) : l.length ≤ big := Nat.le_trans (Nat.le_mul_of_pos_right _ E.pos) h.room
end Sl

theorem slE_good {α : Type} {E : Elem α} (g : E.Good) (sz : Nat) : (SlE E sz).Good where
  stay := fun h hs => let ⟨hr, A, cap, hc, hl⟩ := h; ⟨hr, A, cap, (cell_of_heap (hs _ (cell_lt hc) hr)).trans hc, hl.stay g hs⟩
  mono := fun h hm => let ⟨hr, A, cap, hc, hl⟩ := h; ⟨hm _ (cell_lt hc) hr, A, cap, hc, hl.mono g hm⟩
  lies := fun h => let ⟨hr, _, _, hc, _⟩ := h; ⟨cell_lt hc, hr⟩

/-- []int, [][]int, []bool. -/
abbrev Ints := Sl IntE 1
abbrev RowE : Elem (List Int) := SlE IntE 1
abbrev Rows2 := Sl RowE 1
abbrev Bools := Sl BoolE 1
theorem rowE_good : RowE.Good := slE_good intE_good 1

namespace Sl
variable {R : Nat → Prop} {w : World} {A : Option Addr} {cap : Nat}
theorem int_at {l : List Int} (h : Ints R w A l cap) (i : Nat) (hi : i < l.length) : ∃ b o, A = some ⟨b, o, none⟩ ∧ w.cell? ⟨b, o + i, none⟩ = some (.int .i64 l[i]) := by
  obtain ⟨b, o, e, x⟩ := h.at_ i hi
  exact ⟨b, o, e, by simpa using x.2.1⟩
theorem int_ok {l : List Int} (h : Ints R w A l cap) (i : Nat) (hi : i < l.length) : I64 l[i] := by
  obtain ⟨b, o, e, x⟩ := h.at_ i hi
  exact x.2.2
theorem bool_at {l : List Bool} (h : Bools R w A l cap) (i : Nat) (hi : i < l.length) : ∃ b o, A = some ⟨b, o, none⟩ ∧ w.cell? ⟨b, o + i, none⟩ = some (.bool l[i]) := by
  obtain ⟨b, o, e, x⟩ := h.at_ i hi
  exact ⟨b, o, e, by simpa using x.2⟩
theorem row_at {l : List (List Int)} (h : Rows2 R w A l cap) (i : Nat) (hi : i < l.length) :
    ∃ b o A' cap', A = some ⟨b, o, none⟩ ∧ w.cell? ⟨b, o + i, none⟩ = some (.slice A' l[i].length cap') ∧ Ints R w A' l[i] cap' := by
  obtain ⟨b, o, e, _, A', c', x⟩ := h.at_ i hi
  exact ⟨b, o, A', c', e, by simpa using x.1, x.2⟩
end Sl

/-- An error that is one of api's codes (T: the number of api.Code); 0: none. -/
def errV (T : TypeId) (c : Int) : Value := if c = 0 then .nilIface else .iface T (.int .i64 c)

end Go.Proofs.YtpmndblakmobdaaGreatDoor
/- Code -/
namespace Go.Proofs.YtpmndblakmobdaaGreatDoor
open Go Go.RowKit
section
variable {P : Program} (w : World)

theorem run_equalIn_iface_ints (d : Nat) {ti tn : TypeId} {ms : Array (String × TypeId)} {i : TypeInfo} {k : IntKind} (a b : Int)
    (hi : P.underlying ti = some (.interface ms)) (hn : P.underlying tn = some (.int k)) (hinfo : P.info? tn = some i) (hcomp : i.comparable = true) :
    (Op.equalIn (d + 2) ti (.iface tn (.int k a)) (.iface tn (.int k b))).run P w = .ok (a == b) w := by
  simp [Op.equalIn, run_underlying hi, run_underlying hn, typeInfo, hinfo, hcomp]

theorem run_eql_iface_ints {ti tn : TypeId} {ms : Array (String × TypeId)} {i : TypeInfo} {k : IntKind} (a b : Int)
    (hi : P.underlying ti = some (.interface ms)) (hn : P.underlying tn = some (.int k)) (hinfo : P.info? tn = some i) (hcomp : i.comparable = true) :
    (binOp .eql ti (.iface tn (.int k a)) (.iface tn (.int k b))).run P w = .ok (.bool (a == b)) w := by
  simp only [binOp]
  simp [Op.equal, Op.maxDepth, run_equalIn_iface_ints w 9998 a b hi hn hinfo hcomp]
theorem run_neq_iface_ints {ti tn : TypeId} {ms : Array (String × TypeId)} {i : TypeInfo} {k : IntKind} (a b : Int)
    (hi : P.underlying ti = some (.interface ms)) (hn : P.underlying tn = some (.int k)) (hinfo : P.info? tn = some i) (hcomp : i.comparable = true) :
    (binOp .neq ti (.iface tn (.int k a)) (.iface tn (.int k b))).run P w = .ok (.bool (!(a == b))) w := by
  simp only [binOp]
  simp [Op.equal, Op.maxDepth, run_equalIn_iface_ints w 9998 a b hi hn hinfo hcomp]
end

theorem errInfo : ∃ i, Tryz.prog.info? 83 = some i ∧ i.comparable = true :=
  Option.map_eq_some_iff.1 (show (Tryz.prog.info? 83).map (·.comparable) = some true by kernel_rfl)

end Go.Proofs.YtpmndblakmobdaaGreatDoor
/- Own -/
namespace Go.Proofs.YtpmndblakmobdaaGreatDoor
open Go Go.RowKit

/-- A slice type's facts. -/
structure SliceTy (P : Program) (t e : TypeId) (sz bytes : Nat) (z : Value) : Prop where
  sl : P.underlying t = some (.slice e)
  info : (P.info? e).map (fun i => (i.zero, i.size, i.bytes)) = some (some z, sz, bytes)
  zs : z.cells.size = sz
  pos : 0 < sz
  bpos : 0 < bytes

/-- The value v, a slice of n elements (of type e, sz cells each), owns the cells xs, in a block of M. -/
def Own (M : Nat → Prop) (e : TypeId) (sz : Nat) (w : World) (v : Value) (n : Nat) (xs : List Value) : Prop :=
  xs.length = n * sz ∧
  ((v = .slice none 0 0 ∧ n = 0) ∨
   ∃ g o cap cur, v = .slice (some ⟨g, o, none⟩) n cap ∧ M g ∧ w.heap[g]? = some (.cells cur e (0, 0)) ∧ n ≤ cap ∧ cap ≤ maxLen ∧ o + cap * sz ≤ cur.size ∧ ∀ j u, xs[j]? = some u → cur[o + j]? = some u)

namespace Own
variable {M M' S : Nat → Prop} {e : TypeId} {sz n : Nat} {w w' : World} {v : Value} {xs : List Value}
theorem nil (M : Nat → Prop) (e : TypeId) (sz : Nat) (w : World) : Own M e sz w (.slice none 0 0) 0 [] := ⟨by simp, .inl ⟨rfl, rfl⟩⟩
theorem len (h : Own M e sz w v n xs) : xs.length = n * sz := h.1
theorem value (h : Own M e sz w v n xs) : ∃ A cap, v = .slice A n cap ∧ n ≤ cap ∧ cap ≤ maxLen ∧ (A = none → cap = 0) := by
  rcases h.2 with ⟨rfl, rfl⟩ | ⟨g, o, cap, cur, rfl, _, _, h1, h2, _⟩
  · exact ⟨none, 0, rfl, Nat.le_refl _, Nat.zero_le _, fun _ => rfl⟩
  · exact ⟨_, cap, rfl, h1, h2, (fun h => by cases h)⟩
theorem mine (h : Own M e sz w v n xs) : ∀ k, v.ownBlock = some k → M k ∧ k < w.heap.size := by
  intro k hk
  rcases h.2 with ⟨rfl, _⟩ | ⟨g, o, cap, cur, rfl, hM, hg, _⟩
  · simp [Value.ownBlock] at hk
  · simp [Value.ownBlock] at hk
    subst hk
    exact ⟨hM, (Array.getElem?_eq_some_iff.1 hg).1⟩
theorem mono (h : Own M e sz w v n xs) (hm : ∀ k, k < w.heap.size → M k → M' k) : Own M' e sz w v n xs := by
  refine ⟨h.1, ?_⟩
  rcases h.2 with h0 | ⟨g, o, cap, cur, rfl, hM, hg, r⟩
  · exact .inl h0
  · exact .inr ⟨g, o, cap, cur, rfl, hm g ((Array.getElem?_eq_some_iff.1 hg).1) hM, hg, r⟩
theorem chg (h : Own M e sz w v n xs) (c : Chg S w w') (hd : ∀ k, v.ownBlock = some k → ¬ S k) : Own M e sz w' v n xs := by
  refine ⟨h.1, ?_⟩
  rcases h.2 with h0 | ⟨g, o, cap, cur, rfl, hM, hg, r⟩
  · exact .inl h0
  · exact .inr ⟨g, o, cap, cur, rfl, hM, c.obj hg (hd g rfl), r⟩
theorem no (h : Own M e sz w v n xs) (c : Chg No w w') : Own M e sz w' v n xs := h.chg c (fun _ _ f => f)
/-- A cell of it. -/
theorem cell (h : Own M e sz w v n xs) {j : Nat} {u : Value} (hj : xs[j]? = some u) : ∃ g o cap, v = .slice (some ⟨g, o, none⟩) n cap ∧ M g ∧ w.cell? ⟨g, o + j, none⟩ = some u := by
  rcases h.2 with ⟨rfl, rfl⟩ | ⟨g, o, cap, cur, rfl, hM, hg, _, _, _, hx⟩
  · have : xs = [] := List.eq_nil_of_length_eq_zero (by simpa using h.1)
    subst this; simp at hj
  · exact ⟨g, o, cap, rfl, hM, by simp [World.cell?, hg, hx j u hj]⟩
/-- What is owned, when the list of its elements is known, is a slice. -/
theorem sl {α : Type} {E : Elem α} {l : List α} (h : Own M e sz w v l.length xs) (hl : l.length * E.bytes ≤ big)
    (hE : ∀ g o cap, v = .slice (some ⟨g, o, none⟩) l.length cap → M g → (∀ j u, xs[j]? = some u → w.cell? ⟨g, o + j, none⟩ = some u) → ∀ i (hi : i < l.length), E M w g (o + i * sz) l[i]) :
    ∃ A cap, v = .slice A l.length cap ∧ Sl E sz M w A l cap := by
  rcases h.2 with ⟨rfl, h0⟩ | ⟨g, o, cap, cur, rfl, hM, hg, h1, h2, h3, hx⟩
  · have : l = [] := List.eq_nil_of_length_eq_zero h0
    subst this
    exact ⟨none, 0, rfl, Sl.empty⟩
  · refine ⟨_, cap, rfl, ⟨h1, h2, hl, (fun h => by cases h), fun i hi => ⟨g, o, rfl, hE g o cap rfl hM (fun j u hj => ?_) i hi⟩⟩⟩
    simp [World.cell?, hg, hx j u hj]
theorem ints {l : List Int} (h : Own M e 1 w v l.length (l.map (Value.int .i64))) (hl : l.length * 8 ≤ big) (hi : ∀ x ∈ l, I64 x) : ∃ A cap, v = .slice A l.length cap ∧ Ints M w A l cap :=
  h.sl hl (fun g o cap _ hM hc i hi' => ⟨hM, hc _ _ (by simp [hi']), hi _ (List.getElem_mem hi')⟩)
end Own

theorem addr_add (g o j : Nat) : (⟨g, o, none⟩ : Addr).add j = ⟨g, o + j, none⟩ := by unfold Addr.add; split <;> simp_all
/-- The cells of a block that is known whole. -/
theorem news_of {w : World} {B : Nat} {cs : List Value} {t : TypeId} {fr : Nat × Nat} (hb : w.heap[B]? = some (.cells cs.toArray t fr)) : ∀ j u, cs[j]? = some u → w.cell? ((⟨B, 0, none⟩ : Addr).add j) = some u := by
  intro j u hu
  rw [addr_add]
  simp [World.cell?, hb, hu]
theorem news_alloc (w : World) (cs : List Value) (t : TypeId) : ∀ j u, cs[j]? = some u → (w.alloc (.cells cs.toArray t)).cell? ((⟨w.heap.size, 0, none⟩ : Addr).add j) = some u := news_of (heap_alloc_new w _)

section
variable {P : Program}
theorem run_append_Own {t e : TypeId} {sz bytes : Nat} {z : Value} (T : SliceTy P t e sz bytes z) (ty : TypeId) {M : Nat → Prop} {w : World} (hM : ∀ k, w.heap.size ≤ k → M k)
    {v : Value} {n : Nat} {xs : List Value} (hown : Own M e sz w v n xs)
    {a : Addr} {m c : Nat} {news : List Value} (hl : news.length = m * sz) (hnews : ∀ j u, news[j]? = some u → w.cell? (a.add j) = some u) (h1 : ∀ u ∈ news, u.oneCell' = true)
    (hbytes : (n + m) * bytes ≤ 140737488355328) :
    ∃ v' w', (Builtin.append_ #[t, t] ty #[v, .slice (some a) m c]).run P w = .ok v' w' ∧ Own M e sz w' v' (n + m) (xs ++ news) ∧ Chg (fun k => v.ownBlock = some k) w w' ∧ (v'.ownBlock = v.ownBlock ∨ v'.ownBlock = some w.heap.size) := by
  obtain ⟨i, hi, hz, hsz, hby⟩ := info_parts T.info
  have hzs := T.zs
  have hpos := T.pos
  subst hsz hby
  have h63 : n + m ≤ 140737488355328 := Nat.le_trans (Nat.le_mul_of_pos_right _ T.bpos) hbytes
  have hlen : (xs ++ news).length = (n + m) * i.size := by rw [List.length_append, hown.1, hl, Nat.add_mul]
  have grown : ∀ (old : Nat), old < n + m →
      Own M e i.size (w.drew.alloc (.cells (xs.toArray ++ news.toArray ++ Builtin.zeroCells z.cells (grownCap w (n + m) old e - (n + m))) e)) (.slice (some ⟨w.heap.size, 0, none⟩) (n + m) (grownCap w (n + m) old e)) (n + m) (xs ++ news) ∧
      Chg (fun k => v.ownBlock = some k) w (w.drew.alloc (.cells (xs.toArray ++ news.toArray ++ Builtin.zeroCells z.cells (grownCap w (n + m) old e - (n + m))) e)) := by
    intro old ho
    have hge := grownCap_ge w (n + m) old e
    have hcm : grownCap w (n + m) old e ≤ maxLen := grownCap_le_maxLen w (n + m) old e (by simp only [maxLen]; omega)
    refine ⟨⟨hlen, .inr ⟨w.heap.size, 0, _, _, rfl, hM _ (Nat.le_refl _), heap_alloc_new w.drew _, hge, hcm, ?_, ?_⟩⟩, ((Chg.refl _ _).drew).alloc _⟩
    · simp only [Array.size_append, List.size_toArray, size_zeroCells, hzs, hown.1, hl, ← Nat.add_mul]
      rw [Nat.zero_add]
      apply Nat.le_of_eq
      congr 1
      omega
    · intro j u hj
      have hj' : j < (xs ++ news).length := (List.getElem?_eq_some_iff.1 hj).1
      rw [Nat.zero_add, Array.getElem?_append_left (by simpa using hj')]
      simpa using hj
  rcases hown.2 with ⟨rfl, rfl⟩ | ⟨g, o, cap, cur, rfl, hbg, hg, hnc, hcm, hcs, htake⟩
  · have hx : xs = [] := List.eq_nil_of_length_eq_zero (by simpa using hown.1)
    subst hx
    by_cases hm : m = 0
    · subst hm
      have hn : news = [] := List.eq_nil_of_length_eq_zero (by simpa using hl)
      subst hn
      refine ⟨.slice none 0 0, w, ?_, Own.nil M e i.size w, Chg.refl _ _, .inl rfl⟩
      simp [Builtin.append_, run_underlying T.sl, sizeOf, typeInfo, hi, Builtin.lenOf, Builtin.firstCells, loadCells, loadCellsFrom]
    · have hr := run_append_nil (P := P) w t ty e i z T.sl hi hz a m c news hl hnews (by omega) (by omega) (by have hb := hbytes; simp only [Nat.zero_add] at hb; omega)
      have hgr := grown 0 (by omega)
      simp only [Nat.zero_add, List.nil_append, Array.empty_append] at hgr ⊢
      exact ⟨_, _, hr, hgr.1, hgr.2, .inr rfl⟩
  · have hcell : ∀ j u, xs[j]? = some u → w.cell? ((⟨g, o, none⟩ : Addr).add j) = some u := by
      intro j u hj
      have hadd : (⟨g, o, none⟩ : Addr).add j = ⟨g, o + j, none⟩ := by unfold Addr.add; split <;> simp_all
      rw [hadd]
      simp [World.cell?, hg, htake j u hj]
    by_cases hroom : n + m ≤ cap
    · have hfit : o + n * i.size + news.length ≤ cur.size := by
        have := Nat.mul_le_mul_right i.size hroom
        rw [Nat.add_mul] at this
        omega
      have hst := run_storeCells_at P g (o + n * i.size) e news 0 cur w hg (by simpa using hfit) h1
      simp only [Nat.add_zero] at hst
      have hf := run_firstCells_some (P := P) w i.size m a m c news hl hnews
      have hadd : (⟨g, o, none⟩ : Addr).add (n * i.size) = ⟨g, o + n * i.size, none⟩ := by unfold Addr.add; split <;> simp_all
      refine ⟨.slice (some ⟨g, o, none⟩) (n + m) cap, w.setRow g (cur.toList.take (o + n * i.size) ++ news ++ cur.toList.drop (o + n * i.size + news.length)).toArray, ?_, ⟨hlen, .inr ⟨g, o, cap, _, rfl, hbg, setRow_heap w g cur _ e _ hg, hroom, hcm, ?_, ?_⟩⟩, ?_, .inl rfl⟩
      · simp [Builtin.append_, run_underlying T.sl, sizeOf, typeInfo, hi, Builtin.lenOf, hroom, hf, hadd, hst]
      · simp only [List.size_toArray, List.length_append, List.length_take, List.length_drop, Array.length_toList]
        omega
      · intro j u hj
        have hj' : j < (xs ++ news).length := (List.getElem?_eq_some_iff.1 hj).1
        have htl : (cur.toList.take (o + n * i.size)).length = o + n * i.size := by simp; omega
        rw [List.getElem?_toArray, List.append_assoc]
        rcases Nat.lt_or_ge j (n * i.size) with hlt | hge
        · rw [List.getElem?_append_left (by omega), List.getElem?_take, if_pos (by omega)]
          rw [List.getElem?_append_left (by rw [hown.1]; exact hlt)] at hj
          simpa using htake j u hj
        · rw [List.getElem?_append_right (by omega), htl]
          rw [List.getElem?_append_right (by rw [hown.1]; exact hge), hown.1] at hj
          rw [show o + j - (o + n * i.size) = j - n * i.size by omega]
          have hjn : j - n * i.size < news.length := (List.getElem?_eq_some_iff.1 hj).1
          rw [List.getElem?_append_left hjn]
          exact hj
      · exact ⟨rfl, rfl, rfl, by simp, fun k _ hk => setRow_other w g k _ (fun e => hk (by simp [Value.ownBlock, e]))⟩
    · have hr := run_append_grow (P := P) w t ty e i z T.sl hi hz ⟨g, o, none⟩ n cap xs hown.1 hcell a m c news hl hnews (by omega) (by omega) (growslice_fits (by omega) hbytes)
      have hgr := grown cap (by omega)
      exact ⟨_, _, hr, hgr.1, hgr.2, .inr rfl⟩

theorem wp_append_Own {t e : TypeId} {sz bytes : Nat} {z : Value} (T : SliceTy P t e sz bytes z) {o : Oper} {act : Act} {K : Act → World → Prop} {Q : Exit → Act → World → Prop} (s x : Operand)
    (ho : o.op = .call { callee := .builtin .append, args := #[s, x], argTypes := #[t, t] })
    {M : Nat → Prop} {w : World} (hM : ∀ k, w.heap.size ≤ k → M k)
    {v : Value} {n : Nat} {xs : List Value} (hown : Own M e sz w v n xs) (hs : act.eval s = v)
    {a : Addr} {m c : Nat} {news : List Value} (hx : act.eval x = .slice (some a) m c) (hl : news.length = m * sz) (hnews : ∀ j u, news[j]? = some u → w.cell? (a.add j) = some u) (h1 : ∀ u ∈ news, u.oneCell' = true)
    (hbytes : (n + m) * bytes ≤ 140737488355328)
    (h : ∀ A cap w', Own M e sz w' (.slice A (n + m) cap) (n + m) (xs ++ news) → Chg (fun k => v.ownBlock = some k) w w' → ((Value.slice A (n + m) cap).ownBlock = v.ownBlock ∨ (Value.slice A (n + m) cap).ownBlock = some w.heap.size) → K (act.put o.dst (.slice A (n + m) cap)) w') : o.wp P act w K Q := by
  obtain ⟨v', w', hr, h2, h3, h4⟩ := run_append_Own T o.type (c := c) hM hown hl hnews h1 hbytes
  unfold Oper.wp execOp
  simp only [ho, resolve, invoke, builtin, Sem.run_bind, Sem.run_pure, Result.andThen_ok, List.map_toArray, List.map_cons, List.map_nil, hs, hx, hr]
  obtain ⟨A, cap, rfl, _⟩ := h2.value
  exact h A cap w' h2 h3 h4

theorem wpList_append_Own {t e : TypeId} {sz bytes : Nat} {z : Value} (T : SliceTy P t e sz bytes z) {ops : Array Oper} {rest : List Oper} {o : Oper} {act : Act} {Q : Exit → Act → World → Prop} (hgd : o.guard = none) (s x : Operand)
    (ho : o.op = .call { callee := .builtin .append, args := #[s, x], argTypes := #[t, t] })
    {M : Nat → Prop} {w : World} (hM : ∀ k, w.heap.size ≤ k → M k)
    {v : Value} {n : Nat} {xs : List Value} (hown : Own M e sz w v n xs) (hs : act.eval s = v)
    {a : Addr} {m c : Nat} {news : List Value} (hx : act.eval x = .slice (some a) m c) (hl : news.length = m * sz) (hnews : ∀ j u, news[j]? = some u → w.cell? (a.add j) = some u) (h1 : ∀ u ∈ news, u.oneCell' = true)
    (hbytes : (n + m) * bytes ≤ 140737488355328)
    (h : ∀ A cap w', Own M e sz w' (.slice A (n + m) cap) (n + m) (xs ++ news) → Chg (fun k => v.ownBlock = some k) w w' → ((Value.slice A (n + m) cap).ownBlock = v.ownBlock ∨ (Value.slice A (n + m) cap).ownBlock = some w.heap.size) → wpList P ops Q rest (act.put o.dst (.slice A (n + m) cap)) w') : wpList P ops Q (o :: rest) act w :=
  wpList_plain hgd fun _ hK => wp_append_Own T s x ho hM hown hs hx hl hnews h1 hbytes fun A cap w' h2 h3 h4 => hK _ _ (h A cap w' h2 h3 h4)

/-- The same at a step of a region that draws its order. -/
theorem step_append_Own {t e : TypeId} {sz bytes : Nat} {z : Value} (T : SliceTy P t e sz bytes z) {ops : Array Oper} {o : Oper} {act : Act} {K : Act → World → Prop} {Q : Exit → Act → World → Prop} {F : Prop} (hgd : o.guard = none) (s x : Operand)
    (ho : o.op = .call { callee := .builtin .append, args := #[s, x], argTypes := #[t, t] })
    {M : Nat → Prop} {w : World} (hM : ∀ k, w.heap.size ≤ k → M k)
    {v : Value} {n : Nat} {xs : List Value} (hown : Own M e sz w v n xs) (hs : act.eval s = v)
    {a : Addr} {m c : Nat} {news : List Value} (hx : act.eval x = .slice (some a) m c) (hl : news.length = m * sz) (hnews : ∀ j u, news[j]? = some u → w.cell? (a.add j) = some u) (h1 : ∀ u ∈ news, u.oneCell' = true)
    (hbytes : (n + m) * bytes ≤ 140737488355328)
    (h : ∀ A cap w', Own M e sz w' (.slice A (n + m) cap) (n + m) (xs ++ news) → Chg (fun k => v.ownBlock = some k) w w' → ((Value.slice A (n + m) cap).ownBlock = v.ownBlock ∨ (Value.slice A (n + m) cap).ownBlock = some w.heap.size) → K (act.put o.dst (.slice A (n + m) cap)) w') :
    if Region.wanted o (yielded ops act.tmps) = true then Oper.wp P o act w K Q else F := by
  have hw : Region.wanted o (yielded ops act.tmps) = true := by simp [Region.wanted, hgd]
  rw [if_pos hw]
  exact wp_append_Own T s x ho hM hown hs hx hl hnews h1 hbytes h

/-- make([]T, n) of elements of one cell. -/
theorem wpList_make1 {t e : TypeId} {bytes : Nat} {z : Value} (T : SliceTy P t e 1 bytes z) (hz1 : z.cells = #[z]) {ops : Array Oper} {rest : List Oper} {o : Oper} {act : Act} {Q : Exit → Act → World → Prop} (hgd : o.guard = none) (l c : Operand)
    (ho : o.op = .makeSlice t l c) {w : World} (n : Nat) (hl : act.eval l = .int .i64 (n : Int)) (hc : act.eval c = .int .i64 (n : Int)) (hbytes : n * bytes ≤ 140737488355328)
    (h : ∀ w', w'.heap[w.heap.size]? = some (.cells (List.replicate n z).toArray e (0, 0)) → Chg No w w' → w'.heap.size = w.heap.size + 1 → wpList P ops Q rest (act.put o.dst (.slice (some ⟨w.heap.size, 0, none⟩) n n)) w') : wpList P ops Q (o :: rest) act w := by
  refine wpList_plain hgd fun K hK => ?_
  obtain ⟨i, hi, hz, hsz, hby⟩ := info_parts T.info
  have hn : n ≤ 140737488355328 := Nat.le_trans (Nat.le_mul_of_pos_right _ T.bpos) hbytes
  have hb : (i.bytes : Int) * (n : Int) ≤ 281474976710656 := by
    rw [hby, ← Int.natCast_mul, Nat.mul_comm]; omega
  have hrun := run_make (P := P) w t e i z T.sl hi hz .i64 .i64 (n : Int) (n : Int) (by omega) (by omega) hb (by omega)
  have hcells : madeCells z.cells ((n : Int).toNat * i.size) = (List.replicate n z).toArray := by
    rw [hz1, hsz, Int.toNat_natCast, Nat.mul_one]
    apply Array.ext
    · simp [madeCells]
    · intro j h1 h2
      simp [madeCells, Nat.mod_one]
  rw [hcells] at hrun
  simp only [Int.toNat_natCast] at hrun
  unfold Oper.wp
  simp only [execOp, ho, hl, hc, Sem.run_bind, Sem.run_pure, hrun, Result.andThen_ok]
  exact hK _ _ (h _ (heap_alloc_new w _) ((Chg.refl _ _).alloc _) (by simp))
end

theorem at_new {w : World} {o : Obj} {k : Nat} (h : k = w.heap.size) : (w.alloc o).heap[k]? = some o := by subst h; exact heap_alloc_new w o
theorem at_old {w : World} {o x : Obj} {k : Nat} (h : w.heap[k]? = some x) : (w.alloc o).heap[k]? = some x := by
  rw [Below.heap_alloc _ _ _ (Array.getElem?_eq_some_iff.1 h).1]; exact h

/-- A block that is known whole holds ints. -/
theorem ints_of_block {R : Nat → Prop} {w : World} {b : Nat} {l : List Int} {e : TypeId} {fr : Nat × Nat} (h : w.heap[b]? = some (.cells (l.map (Value.int .i64)).toArray e fr)) (hR : R b) (hl : l.length * 8 ≤ big) (hi : ∀ x ∈ l, I64 x) :
    Ints R w (some ⟨b, 0, none⟩) l l.length :=
  ⟨Nat.le_refl _, by unfold big at hl; unfold maxLen; omega, hl, (fun h => by cases h), fun i hi' => ⟨b, 0, rfl, hR, by simp [World.cell?, h, hi'], hi _ (List.getElem_mem hi')⟩⟩
theorem bools_of_block {R : Nat → Prop} {w : World} {b : Nat} {l : List Bool} {e : TypeId} {fr : Nat × Nat} (h : w.heap[b]? = some (.cells (l.map Value.bool).toArray e fr)) (hR : R b) (hl : l.length ≤ big) :
    Bools R w (some ⟨b, 0, none⟩) l l.length :=
  ⟨Nat.le_refl _, Nat.le_trans hl (by unfold big maxLen; omega), by simpa [BoolE] using hl, (fun h => by cases h), fun i hi' => ⟨b, 0, rfl, hR, by simp [World.cell?, h, hi']⟩⟩
/-- A block of slices. -/
theorem rows_of_block {R : Nat → Prop} {w : World} {b : Nat} {V : List Value} {l : List (List Int)} {e : TypeId} {fr : Nat × Nat} (h : w.heap[b]? = some (.cells V.toArray e fr)) (hR : R b) (hl : l.length * 24 ≤ big) (hlen : V.length = l.length)
    (hV : ∀ i (h : i < l.length) (h' : i < V.length), ∃ A cap, V[i] = .slice A l[i].length cap ∧ Ints R w A l[i] cap) : Rows2 R w (some ⟨b, 0, none⟩) l l.length := by
  refine ⟨Nat.le_refl _, by unfold big at hl; unfold maxLen; omega, hl, (fun h => by cases h), fun i hi => ⟨b, 0, rfl, hR, ?_⟩⟩
  obtain ⟨A, cap, hv, hs⟩ := hV i hi (by omega)
  exact ⟨A, cap, by rw [← hv]; simp [World.cell?, h, show i < V.length by omega], hs⟩

end Go.Proofs.YtpmndblakmobdaaGreatDoor
/- OwnRows -/
namespace Go.Proofs.YtpmndblakmobdaaGreatDoor
open Go Go.RowKit

/-- The slice v, whose elements are slices of ints, holds ll; all of it lies in blocks from B on; e: the number of the type of a row. -/
def OwnRows (e : TypeId) (B : Nat) (w : World) (v : Value) (ll : List (List Int)) (V : List Value) : Prop :=
  Own (fun k => B ≤ k) e 1 w v ll.length V ∧ V.length = ll.length ∧ ∀ i (h : i < ll.length) (h' : i < V.length), ∃ A cap, V[i] = .slice A ll[i].length cap ∧ Ints (fun k => B ≤ k ∧ v.ownBlock ≠ some k) w A ll[i] cap

theorem OwnRows.nil (e : TypeId) (B : Nat) (w : World) : OwnRows e B w (.slice none 0 0) [] [] := ⟨Own.nil _ _ _ _, rfl, fun i h => absurd h (Nat.not_lt_zero i)⟩
theorem OwnRows.own {e : TypeId} {B : Nat} {w : World} {v : Value} {ll : List (List Int)} {V : List Value} (h : OwnRows e B w v ll V) : Own (fun k => B ≤ k) e 1 w v ll.length V := h.1
theorem OwnRows.no {e : TypeId} {B : Nat} {w w' : World} {v : Value} {ll : List (List Int)} {V : List Value} (h : OwnRows e B w v ll V) (c : Chg No w w') : OwnRows e B w' v ll V :=
  ⟨h.1.no c, h.2.1, fun i hi hi' => let ⟨A, cap, hv, hs⟩ := h.2.2 i hi hi'; ⟨A, cap, hv, hs.no intE_good c⟩⟩

theorem OwnRows.push' {e : TypeId} {B : Nat} {W w1 : World} {v v' : Value} {ll : List (List Int)} {V : List Value} (h : OwnRows e B W v ll V) {A : Option Addr} {r : List Int} {cap : Nat} (hr : Ints (fun k => B ≤ k ∧ v.ownBlock ≠ some k) W A r cap)
    (ho : Own (fun k => B ≤ k) e 1 w1 v' (ll.length + 1) (V ++ [.slice A r.length cap])) (hc : Chg (fun k => v.ownBlock = some k) W w1) (hb : v'.ownBlock = v.ownBlock ∨ ∀ k, v'.ownBlock = some k → W.heap.size ≤ k) :
    OwnRows e B w1 v' (ll ++ [r]) (V ++ [.slice A r.length cap]) := by
  obtain ⟨hown, hlen, hrows⟩ := h
  have keep : ∀ {A : Option Addr} {r : List Int} {cap : Nat}, Ints (fun k => B ≤ k ∧ v.ownBlock ≠ some k) W A r cap → Ints (fun k => B ≤ k ∧ v'.ownBlock ≠ some k) w1 A r cap := by
    intro A r cap hs
    have h1 := (hs.mono intE_good (R' := fun k => (B ≤ k ∧ v.ownBlock ≠ some k) ∧ v'.ownBlock ≠ some k) (fun k hk hR => ⟨hR, by
      rcases hb with hb | hb
      · rw [hb]; exact hR.2
      · intro e; have := hb k e; omega⟩))
    have h2 := h1.chg intE_good hc (fun k hk hs => hk.1.2 hs)
    exact h2.mono intE_good (fun k _ hk => ⟨hk.1.1, hk.2⟩)
  refine ⟨by simpa using ho, by simp [hlen], fun i hi hi' => ?_⟩
  by_cases hlt : i < ll.length
  · obtain ⟨A', cap', hv, hs⟩ := hrows i hlt (by omega)
    refine ⟨A', cap', ?_, ?_⟩
    · rw [List.getElem_append_left (by omega), List.getElem_append_left hlt]; exact hv
    · rw [List.getElem_append_left hlt]; exact keep hs
  · have : i = ll.length := by simp at hi; omega
    subst this
    refine ⟨A, cap, ?_, ?_⟩
    · rw [List.getElem_append_right (by omega), List.getElem_append_right (by omega)]
      simp [hlen]
    · rw [List.getElem_append_right (by omega)]
      simpa using keep hr

theorem OwnRows.push {e : TypeId} {B : Nat} {W w1 : World} {v v' : Value} {ll : List (List Int)} {V : List Value} (h : OwnRows e B W v ll V) {A : Option Addr} {r : List Int} {cap : Nat} (hr : Ints (fun k => B ≤ k ∧ v.ownBlock ≠ some k) W A r cap)
    (ho : Own (fun k => B ≤ k) e 1 w1 v' (ll.length + 1) (V ++ [.slice A r.length cap])) (hc : Chg (fun k => v.ownBlock = some k) W w1) (hb : v'.ownBlock = v.ownBlock ∨ v'.ownBlock = some W.heap.size) :
    OwnRows e B w1 v' (ll ++ [r]) (V ++ [.slice A r.length cap]) :=
  h.push' hr ho hc (hb.imp id (fun hb k hk => by rw [hb] at hk; injection hk with hk; omega))

theorem OwnRows.rows {e : TypeId} {B : Nat} {w : World} {v : Value} {ll : List (List Int)} {V : List Value} (h : OwnRows e B w v ll V) (hl : ll.length * 24 ≤ big) : ∃ A cap, v = .slice A ll.length cap ∧ Rows2 (fun k => B ≤ k) w A ll cap := by
  obtain ⟨hown, hlen, hrows⟩ := h
  refine hown.sl (E := RowE) hl (fun g o cap hv hM hc i hi => ?_)
  obtain ⟨A, c, hvi, hs⟩ := hrows i hi (by omega)
  refine ⟨hM, A, c, ?_, hs.mono intE_good (fun k _ hk => hk.1)⟩
  rw [← hvi]
  simpa using hc i V[i] (by rw [List.getElem?_eq_getElem (by omega)])
/-- The slice v, of ints, owns the list l. -/
def OInts (e : TypeId) (M : Nat → Prop) (w : World) (v : Value) (l : List Int) : Prop := Own M e 1 w v l.length (l.map (Value.int .i64)) ∧ ∀ x ∈ l, I64 x
theorem OInts.nil (e : TypeId) (M : Nat → Prop) (w : World) : OInts e M w (.slice none 0 0) [] := ⟨Own.nil _ _ _ _, by simp⟩
theorem OInts.no {e : TypeId} {M : Nat → Prop} {w w' : World} {v : Value} {l : List Int} (h : OInts e M w v l) (c : Chg No w w') : OInts e M w' v l := ⟨h.1.no c, h.2⟩
theorem OInts.mine {e : TypeId} {M : Nat → Prop} {w : World} {v : Value} {l : List Int} (h : OInts e M w v l) : ∀ k, v.ownBlock = some k → M k ∧ k < w.heap.size := h.1.mine
theorem OInts.ints {e : TypeId} {M : Nat → Prop} {w : World} {v : Value} {l : List Int} (h : OInts e M w v l) (hl : l.length * 8 ≤ big) : ∃ A cap, v = .slice A l.length cap ∧ Ints M w A l cap := h.1.ints hl h.2

theorem OInts.ints_of {e : TypeId} {M : Nat → Prop} {w : World} {A : Option Addr} {n cap : Nat} {l : List Int} (h : OInts e M w (.slice A n cap) l) (hl : l.length * 8 ≤ big) : Ints M w A l cap := by
  obtain ⟨A', c', e1, h1⟩ := h.ints hl
  injection e1 with e1 e2 e3
  subst e1; subst e3
  exact h1

section
variable {P : Program} {t e : TypeId} {bytes : Nat} {z : Value} {ops : Array Oper} {rest : List Oper} {o : Oper} {act : Act} {Q : Exit → Act → World → Prop}
/-- append(s, x), where the one element has just been laid. -/
theorem wpList_push1 (T : SliceTy P t e 1 bytes z) (hgd : o.guard = none) (s xo : Operand)
    (ho : o.op = .call { callee := .builtin .append, args := #[s, xo], argTypes := #[t, t] })
    {M : Nat → Prop} {w : World} (hM : ∀ k, w.heap.size ≤ k → M k) {v : Value} {n : Nat} {xs : List Value} (hown : Own M e 1 w v n xs) (hs : act.eval s = v)
    {x : Value} {e' : TypeId} (hx : act.eval xo = .slice (some ⟨w.heap.size, 0, none⟩) 1 1) (h1 : x.oneCell' = true) (hbytes : (n + 1) * bytes ≤ 140737488355328)
    (h : ∀ A cap w', Own M e 1 w' (.slice A (n + 1) cap) (n + 1) (xs ++ [x]) → Chg (fun k => v.ownBlock = some k) w w' → ((Value.slice A (n + 1) cap).ownBlock = v.ownBlock ∨ (Value.slice A (n + 1) cap).ownBlock = some (w.heap.size + 1)) → wpList P ops Q rest (act.put o.dst (.slice A (n + 1) cap)) w') :
    wpList P ops Q (o :: rest) act (w.alloc (.cells #[x] e')) := by
  have hc : Chg No w (w.alloc (.cells #[x] e')) := (Chg.refl _ _).alloc _
  refine wpList_append_Own T hgd s xo ho (fun k hk => hM k (Nat.le_trans hc.size hk)) (hown.no hc) hs hx (news := [x]) (by simp) (news_alloc w [x] e') (by simpa using h1) hbytes (fun A cap w' g1 g2 g3 => h A cap w' g1 ?_ ?_)
  · exact hc.no.trans g2 (fun k hk _ => hk)
  · simpa using g3

theorem wpList_push_int (T : SliceTy P t e 1 8 z) (hgd : o.guard = none) (s xo : Operand)
    (ho : o.op = .call { callee := .builtin .append, args := #[s, xo], argTypes := #[t, t] })
    {M : Nat → Prop} {w : World} (hM : ∀ k, w.heap.size ≤ k → M k) {v : Value} {l : List Int} (hown : OInts e M w v l) (hs : act.eval s = v)
    {x : Int} {e' : TypeId} (hx : act.eval xo = .slice (some ⟨w.heap.size, 0, none⟩) 1 1) (hok : I64 x) (hbytes : (l.length + 1) * 8 ≤ 140737488355328)
    (h : ∀ A cap w', OInts e M w' (.slice A (l.length + 1) cap) (l ++ [x]) → Chg (fun k => v.ownBlock = some k) w w' → wpList P ops Q rest (act.put o.dst (.slice A (l.length + 1) cap)) w') :
    wpList P ops Q (o :: rest) act (w.alloc (.cells #[.int .i64 x] e')) :=
  wpList_push1 T hgd s xo ho hM hown.1 hs hx rfl hbytes (fun A cap w' g1 g2 _ => h A cap w' ⟨by simpa using g1, fun y hy => by
    rcases List.mem_append.1 hy with hy | hy
    · exact hown.2 y hy
    · simp at hy; subst hy; exact hok⟩ g2)

/-- append(s, row). -/
theorem wpList_push_row (T : SliceTy P t e 1 24 z) (hgd : o.guard = none) (s xo : Operand)
    (ho : o.op = .call { callee := .builtin .append, args := #[s, xo], argTypes := #[t, t] })
    {B : Nat} {w : World} (hM : B ≤ w.heap.size) {v : Value} {ll : List (List Int)} {V : List Value} (hown : OwnRows e B w v ll V) (hs : act.eval s = v)
    {A : Option Addr} {r : List Int} {rn rc : Nat} {e' : TypeId} (hrn : rn = r.length) (hr : Ints (fun k => B ≤ k ∧ v.ownBlock ≠ some k) w A r rc) (hx : act.eval xo = .slice (some ⟨w.heap.size, 0, none⟩) 1 1) (hbytes : (ll.length + 1) * 24 ≤ 140737488355328)
    (h : ∀ A' cap w', OwnRows e B w' (.slice A' (ll.length + 1) cap) (ll ++ [r]) (V ++ [.slice A rn rc]) → Chg (fun k => v.ownBlock = some k) w w' → wpList P ops Q rest (act.put o.dst (.slice A' (ll.length + 1) cap)) w') :
    wpList P ops Q (o :: rest) act (w.alloc (.cells #[.slice A rn rc] e')) := by
  subst hrn
  have hc : Chg No w (w.alloc (.cells #[.slice A r.length rc] e')) := (Chg.refl _ _).alloc _
  refine wpList_push1 T hgd s xo ho (fun k hk => Nat.le_trans hM hk) hown.own hs hx rfl hbytes (fun A' cap w' g1 g2 g3 => h A' cap w' ?_ g2)
  have hg : Chg (fun k => v.ownBlock = some k) (w.alloc (.cells #[.slice A r.length rc] e')) w' ∨ True := .inr trivial
  refine OwnRows.push' hown hr g1 g2 ?_
  rcases g3 with g3 | g3
  · exact .inl g3
  · exact .inr (fun k hk => by rw [g3] at hk; injection hk with hk; omega)
end
section
variable {P : Program} {t e : TypeId} {bytes : Nat} {z : Value} {ops : Array Oper} {rest : List Oper} {o : Oper} {act : Act} {Q : Exit → Act → World → Prop}
theorem run_append_Own_none {t e : TypeId} {sz bytes : Nat} {z : Value} (T : SliceTy P t e sz bytes z) (ty : TypeId) {M : Nat → Prop} {w : World} {v : Value} {n : Nat} {xs : List Value} (hown : Own M e sz w v n xs) (c : Nat) :
    (Builtin.append_ #[t, t] ty #[v, .slice none 0 c]).run P w = .ok v w := by
  obtain ⟨i, hi, hz, hsz, hby⟩ := info_parts T.info
  rcases hown.2 with ⟨rfl, rfl⟩ | ⟨g, o, cap, cur, rfl, hbg, hg, hnc, hcm, hcs, htake⟩
  · simp [Builtin.append_, run_underlying T.sl, sizeOf, typeInfo, hi, Builtin.lenOf, Builtin.firstCells]
  · simp [Builtin.append_, run_underlying T.sl, sizeOf, typeInfo, hi, Builtin.lenOf, Builtin.firstCells, hnc, storeCells]
/-- append([]T{}, src...): a copy. -/
theorem wpList_copy_ints (T : SliceTy P t e 1 8 z) (hgd : o.guard = none) (s xo : Operand)
    (ho : o.op = .call { callee := .builtin .append, args := #[s, xo], argTypes := #[t, t] })
    {w : World} (hs : act.eval s = .slice (some ⟨w.heap.size, 0, none⟩) 0 0) {R : Nat → Prop} {A : Option Addr} {r : List Int} {rn cap : Nat} (hrn : rn = r.length) (hr : Ints R w A r cap) (hx : act.eval xo = .slice A rn cap)
    (h : ∀ A' cap' w', Ints (fun k => w.heap.size ≤ k) w' A' r cap' → Chg No w w' → wpList P ops Q rest (act.put o.dst (.slice A' rn cap')) w') :
    wpList P ops Q (o :: rest) act (w.alloc (.cells #[] e)) := by
  subst hrn
  have hc : Chg No w (w.alloc (.cells #[] e)) := (Chg.refl _ _).alloc _
  have hown : Own (fun k => w.heap.size ≤ k) e 1 (w.alloc (.cells #[] e)) (.slice (some ⟨w.heap.size, 0, none⟩) 0 0) 0 [] :=
    ⟨by simp, .inr ⟨w.heap.size, 0, 0, #[], rfl, Nat.le_refl _, at_new rfl, Nat.le_refl _, Nat.zero_le _, by simp, by simp⟩⟩
  have hI : ∀ x ∈ r, I64 x := fun x hx => by
    obtain ⟨i, hi, rfl⟩ := List.getElem_of_mem hx
    exact hr.int_ok i hi
  have hr2 := hr.no intE_good hc
  have hroom := hr.room
  unfold big at hroom
  simp only [IntE] at hroom
  cases A with
  | none =>
    have h0 : r = [] := List.eq_nil_of_length_eq_zero (by have := hr.le; have := hr.nil rfl; omega)
    subst h0
    refine wpList_plain hgd fun _ hK => ?_
    have hrun := run_append_Own_none (P := P) T o.type hown cap
    unfold Oper.wp execOp
    simp only [ho, resolve, invoke, builtin, Sem.run_bind, Sem.run_pure, Result.andThen_ok, List.map_toArray, List.map_cons, List.map_nil, hs, hx, List.length_nil, hrun]
    exact hK _ _ (h (some ⟨w.heap.size, 0, none⟩) 0 _ (OInts.ints_of (l := []) ⟨hown, by simp⟩ (by simp)) hc)
  | some a =>
    refine wpList_append_Own T hgd s xo ho (fun k hk => Nat.le_trans hc.size hk) hown hs (a := a) (m := r.length) (c := cap) (news := r.map (Value.int .i64)) hx (by simp) (fun j u hj => ?_) (by simp [Value.oneCell']) (by omega) (fun A cap w' g1 g2 _ => ?_)
    · simp only [List.getElem?_map, Option.map_eq_some_iff] at hj
      obtain ⟨y, hj, rfl⟩ := hj
      obtain ⟨hlt, rfl⟩ := List.getElem?_eq_some_iff.1 hj
      obtain ⟨b, o, e1, e2⟩ := hr2.int_at j hlt
      injection e1 with e1
      rw [e1, addr_add]
      exact e2
    · simp only [Nat.zero_add, List.nil_append] at g1 ⊢
      exact h A cap w' (OInts.ints_of ⟨g1, hI⟩ hr.room) (hc.trans g2 (fun k hk hlt => by simp [Value.ownBlock] at hk; omega))
end
end Go.Proofs.YtpmndblakmobdaaGreatDoor
/- Find -/
namespace Go.Proofs.YtpmndblakmobdaaGreatDoor
open Go Go.RowKit

theorem ret_bool {a b : Bool} (h : a = b) : Ending.returned (.bool a) = .returned (.bool b) := by rw [h]
theorem ret_int {a b : Int} (h : a = b) : Ending.returned (.int .i64 a) = .returned (.int .i64 b) := by rw [h]
def findI {α : Type} (p : α → Bool) (l : List α) : Int := match l.findIdx? p with | some i => (i : Int) | none => -1

theorem findI_hit {α : Type} {p : α → Bool} {l : List α} {k : Nat} (hk : k < l.length) (hp : p l[k] = true) (hall : ∀ j (h : j < l.length), j < k → p l[j] = false) : findI p l = k := by
  have : l.findIdx? p = some k := by
    rw [List.findIdx?_eq_some_iff_getElem]
    exact ⟨hk, hp, fun j hj => by simp [hall j (by omega) hj]⟩
  simp [findI, this]
theorem findI_miss {α : Type} {p : α → Bool} {l : List α} (hall : ∀ j (h : j < l.length), p l[j] = false) : findI p l = -1 := by
  have : l.findIdx? p = none := by
    rw [List.findIdx?_eq_none_iff]
    intro x hx
    obtain ⟨i, hi, rfl⟩ := List.mem_iff_getElem.1 hx
    exact hall i hi
  simp [findI, this]
theorem findI_ge {α : Type} (p : α → Bool) (l : List α) : decide (0 ≤ findI p l) = l.any p := by
  unfold findI
  cases h : l.findIdx? p with
  | none =>
    rw [List.findIdx?_eq_none_iff] at h
    have : l.any p = false := by simpa using h
    simp [this]
  | some k =>
    rw [List.findIdx?_eq_some_iff_getElem] at h
    obtain ⟨hk, hp, _⟩ := h
    have : l.any p = true := List.any_eq_true.2 ⟨l[k], List.getElem_mem hk, hp⟩
    simp [this]

/-- A function of the program that is entered when it is called. -/
def Entered (fv : FuncId) : Prop := ∀ args w, Sem.run Tryz.prog (callFunc fv args) w = .ok (.enter fv args) w

theorem errV_zero (T : TypeId) : errV T 0 = .nilIface := by simp [errV]
theorem errV_of (T : TypeId) {c : Int} (h : c ≠ 0) : errV T c = .iface T (.int .i64 c) := by simp [errV, h]
end Go.Proofs.YtpmndblakmobdaaGreatDoor
/- Open -/
namespace Go.Proofs.YtpmndblakmobdaaGreatDoor
open Go Go.RowKit

section
variable {H : Type} {enc : TypeId × Value → H} {P : Program}

/-- The region of all memory that is there. -/
def Old (W : World) : Nat → Prop := fun k => k < W.heap.size

/-- What can be read as a datum of the type e, and weighs no more than may be, is an E in memory. -/
structure OpensE {α : Type} (enc : TypeId × Value → H) (P : Program) (e : TypeId) (sz : Nat) (E : Elem α) : Prop where
  cells : P.cellsOf e = sz
  bytes : P.bytesOf e = E.bytes
  open_ : ∀ (W : World) (fuel b o : Nat) cs y, W.cells? 0 ⟨b, o, none⟩ sz = some cs → DataW.trod enc P W 0 (fun _ => true) true fuel e cs = some y → (∀ n ∈ y.1.weights P e, n ≤ reachBytes) → ∃ x, E (Old W) W b o x

theorem wf_i64 {n : Int} (h : (Lit.int .i64 n).wf = true) : I64 n := by
  simp only [Lit.wf, IntKind.min, IntKind.max, IntKind.signed, IntKind.bits, Bool.and_eq_true, decide_eq_true_eq, if_true] at h
  unfold I64
  omega

theorem cells_one {W : World} {b o : Nat} {cs : List Value} (h : W.cells? 0 ⟨b, o, none⟩ 1 = some cs) : ∃ v, cs = [v] ∧ W.cell? ⟨b, o, none⟩ = some v := by
  obtain ⟨_, hl, hc⟩ := World.cells?_some h
  match cs, hl with
  | [v], _ => exact ⟨v, rfl, by simpa [Addr.add] using hc 0 (by omega)⟩

theorem opensE_int {e : TypeId} (ht : P.underlying e = some (.int .i64)) (hc : P.cellsOf e = 1) (hb : P.bytesOf e = 8) : OpensE enc P e 1 IntE where
  cells := hc
  bytes := hb
  open_ := fun W fuel b o cs y hcs hy _ => by
    obtain ⟨v, rfl, hv⟩ := cells_one hcs
    obtain ⟨n, hn, _, hw⟩ := DataW.trod_int ht hy
    simp at hn
    subst hn
    exact ⟨n, cell_lt hv, hv, wf_i64 hw⟩
theorem opensE_bool {e : TypeId} (ht : P.underlying e = some .bool) (hc : P.cellsOf e = 1) (hb : P.bytesOf e = 1) : OpensE enc P e 1 BoolE where
  cells := hc
  bytes := hb
  open_ := fun W fuel b o cs y hcs hy _ => by
    obtain ⟨v, rfl, hv⟩ := cells_one hcs
    obtain ⟨n, hn, _⟩ := DataW.trod_bool ht hy
    simp at hn
    subst hn
    exact ⟨n, cell_lt hv, hv⟩
theorem opensE_string {e : TypeId} (ht : P.underlying e = some .string) (hc : P.cellsOf e = 1) (hb : P.bytesOf e = 16) : OpensE enc P e 1 StrE where
  cells := hc
  bytes := hb
  open_ := fun W fuel b o cs y hcs hy _ => by
    obtain ⟨v, rfl, hv⟩ := cells_one hcs
    obtain ⟨n, hn, _, hw⟩ := DataW.trod_string ht hy
    simp at hn
    subst hn
    exact ⟨n, cell_lt hv, hv, hw⟩

theorem weightsAll_mem {e : TypeId} : ∀ {ds : List (DataW H)} {d : DataW H}, d ∈ ds → ∀ n ∈ d.weights P e, n ∈ DataW.weightsAll P e ds
  | d0 :: ds, d, hd, n, hn => by
    simp only [DataW.weightsAll, List.mem_append]
    rcases List.mem_cons.1 hd with rfl | hd
    · exact .inl hn
    · exact .inr (weightsAll_mem hd n hn)

theorem cells_spot {W : World} {a : Addr} {n : Nat} {cs : List Value} (h : W.cells? 0 a n = some cs) (hn : 0 < n) : a.spot = none := by
  obtain ⟨_, hl, hc⟩ := World.cells?_some h
  have h0 := hc 0 hn
  rw [List.getElem?_eq_getElem (by omega)] at h0
  have := World.cell?_spot h0
  simpa [Addr.add] using this

theorem open_sl {α : Type} {t e : TypeId} {sz : Nat} {E : Elem α} (ht : P.underlying t = some (.slice e)) (hsz : 0 < sz) (hE : OpensE enc P e sz E)
    {W : World} {fuel : Nat} {cs : List Value} {y : DataW H × List MemPlace} (hy : DataW.trod enc P W 0 (fun _ => true) true fuel t cs = some y) (hw : ∀ n ∈ y.1.weights P t, n ≤ reachBytes) :
    ∃ A l cap, cs = [.slice A l.length cap] ∧ Sl E sz (Old W) W A l cap := by
  rcases Go.Deep.open_slice ht hy with ⟨rfl, _⟩ | ⟨a, len, cap, m, k, D, Pl, rfl, _, hl, hm, hmm, rfl, hx⟩
  · exact ⟨none, [], 0, rfl, Sl.empty⟩
  simp only [if_true] at hmm
  subst hmm
  have hsum : (len + (m - len)) * P.bytesOf e ≤ reachBytes := by
    have := hw ((len + (m - len)) * P.bytesOf e) (by simp [DataW.weights, ht])
    exact this
  have hlb : len * E.bytes ≤ big := by
    rw [← hE.bytes]
    have h2 : len * P.bytesOf e ≤ (len + (m - len)) * P.bytesOf e := Nat.mul_le_mul_right _ (by omega)
    have h3 := reachBytes_lt
    unfold big
    omega
  have each : ∀ i, i < len → ∃ x : α, ∃ b o, a = ⟨b, o, none⟩ ∧ E (Old W) W b (o + i * sz) x := by
    intro i hi
    obtain ⟨cs', h1, h2⟩ := hx i (by omega)
    rw [hE.cells] at h1
    have hsp := cells_spot h1 hsz
    obtain ⟨b, o, s⟩ := a
    have hs : s = none := by
      by_cases hz : i * sz = 0
      · simpa [Addr.add, hz] using hsp
      · obtain ⟨cs0, g1, _⟩ := hx 0 (by omega)
        rw [hE.cells] at g1
        have := cells_spot g1 hsz
        simpa [Addr.add] using this
    subst hs
    rw [show (⟨b, o, none⟩ : Addr).add (i * sz) = ⟨b, o + i * sz, none⟩ by unfold Addr.add; split <;> simp_all] at h1
    obtain ⟨x, hx'⟩ := hE.open_ W k b (o + i * sz) cs' (D i, Pl i) h1 h2 (fun n hn => hw n (by
      simp only [DataW.weights, ht, List.mem_cons, List.mem_append]
      exact .inr (.inl (weightsAll_mem (d := D i) (List.mem_map.2 ⟨i, List.mem_range.2 hi, rfl⟩) n hn))))
    exact ⟨x, b, o, rfl, hx'⟩
  by_cases h0 : len = 0
  · subst h0
    exact ⟨some a, [], m, rfl, ⟨hl, hm, by simp, (fun h => by cases h), fun i hi => absurd hi (Nat.not_lt_zero i)⟩⟩
  · obtain ⟨x0, _⟩ := each 0 (by omega)
    haveI : Inhabited α := ⟨x0⟩
    obtain ⟨f, hf⟩ := Go.Deep.choose_lt each
    have hlen : ((List.range len).map f).length = len := by simp
    refine ⟨some a, (List.range len).map f, m, by rw [hlen], ⟨by rw [hlen]; exact hl, hm, by rw [hlen]; exact hlb, (fun h => by cases h), fun i hi => ?_⟩⟩
    rw [hlen] at hi
    obtain ⟨b, o, rfl, hE'⟩ := hf i hi
    exact ⟨b, o, rfl, by simpa using hE'⟩

theorem opensE_sl {α : Type} {t e : TypeId} {sz : Nat} {E : Elem α} (ht : P.underlying t = some (.slice e)) (hsz : 0 < sz) (hct : P.cellsOf t = 1) (hb : P.bytesOf t = 24) (hE : OpensE enc P e sz E) : OpensE enc P t 1 (SlE E sz) where
  cells := hct
  bytes := hb
  open_ := fun W fuel b o cs y hcs hy hw => by
    obtain ⟨v, rfl, hv⟩ := cells_one hcs
    obtain ⟨A, l, cap, hc, hs⟩ := open_sl ht hsz hE hy hw
    simp at hc
    subst hc
    exact ⟨l, cell_lt hv, A, cap, hv, hs⟩
end
end Go.Proofs.YtpmndblakmobdaaGreatDoor
/- OpenS -/
namespace Go.Proofs.YtpmndblakmobdaaGreatDoor
open Go Go.RowKit Go.WideShapes

/-- What some cells hold, said of a datum, in a region. -/
structure ElV (α : Type) where
  sz : Nat
  pos : 0 < sz
  bytes : Nat
  bpos : 0 < bytes
  at_ : (Nat → Prop) → World → List Value → α → Prop
instance {α : Type} : CoeFun (ElV α) (fun _ => (Nat → Prop) → World → List Value → α → Prop) := ⟨ElV.at_⟩
structure ElV.Good {α : Type} (V : ElV α) : Prop where
  len : ∀ {R w cs x}, V R w cs x → cs.length = V.sz
  stay : ∀ {R w w' cs x}, V R w cs x → (∀ k, k < w.heap.size → R k → w'.heap[k]? = w.heap[k]?) → V R w' cs x
  mono : ∀ {R R' : Nat → Prop} {w cs x}, V R w cs x → (∀ k, k < w.heap.size → R k → R' k) → V R' w cs x
theorem ElV.Good.chg {α : Type} {V : ElV α} (g : V.Good) {R S : Nat → Prop} {w w' : World} {cs : List Value} {x : α} (h : V R w cs x) (c : Chg S w w') (hd : ∀ k, R k → ¬ S k) : V R w' cs x :=
  g.stay h (fun k hk hr => c.block k hk (hd k hr))
theorem ElV.Good.no {α : Type} {V : ElV α} (g : V.Good) {R : Nat → Prop} {w w' : World} {cs : List Value} {x : α} (h : V R w cs x) (c : Chg No w w') : V R w' cs x := g.chg h c (fun _ _ f => f)

/-- Such a thing in memory. -/
def ElV.mem {α : Type} (V : ElV α) : Elem α := ⟨V.bytes, V.bpos, fun R w b o x => R b ∧ ∃ cs, cs.length = V.sz ∧ (∀ j u, cs[j]? = some u → w.cell? ⟨b, o + j, none⟩ = some u) ∧ V R w cs x⟩
theorem ElV.Good.mem {α : Type} {V : ElV α} (g : V.Good) : V.mem.Good where
  stay := fun ⟨hR, cs, hl, hc, hv⟩ hs => ⟨hR, cs, hl, fun j u hj => by
    have h := hc j u hj
    exact (cell_of_heap (hs _ (cell_lt h) hR)).trans h, g.stay hv hs⟩
  mono := fun ⟨hR, cs, hl, hc, hv⟩ hm => by
    have h0 : ∃ u, cs[0]? = some u := ⟨cs[0]'(by rw [hl]; exact V.pos), List.getElem?_eq_getElem _⟩
    obtain ⟨u, hu⟩ := h0
    exact ⟨hm _ (cell_lt (hc 0 u hu)) hR, cs, hl, hc, g.mono hv hm⟩
  lies := fun ⟨hR, cs, hl, hc, hv⟩ => by
    have h0 : ∃ u, cs[0]? = some u := ⟨cs[0]'(by rw [hl]; exact V.pos), List.getElem?_eq_getElem _⟩
    obtain ⟨u, hu⟩ := h0
    exact ⟨cell_lt (hc 0 u hu), hR⟩

def intV : ElV Int := ⟨1, by decide, 8, by decide, fun _ _ cs x => cs = [.int .i64 x] ∧ I64 x⟩
def boolV : ElV Bool := ⟨1, by decide, 1, by decide, fun _ _ cs x => cs = [.bool x]⟩
def strV : ElV ByteArray := ⟨1, by decide, 16, by decide, fun _ _ cs x => cs = [.string x] ∧ x.size ≤ maxLen⟩
def slV {α : Type} (E : Elem α) (sz : Nat) : ElV (List α) := ⟨1, by decide, 24, by decide, fun R w cs l => ∃ A cap, cs = [.slice A l.length cap] ∧ Sl E sz R w A l cap⟩
/-- Two behind each other. -/
def pairV {α β : Type} (V : ElV α) (U : ElV β) (bytes : Nat) (hb : 0 < bytes) : ElV (α × β) := ⟨V.sz + U.sz, Nat.add_pos_left V.pos _, bytes, hb, fun R w cs x => ∃ c1 c2, cs = c1 ++ c2 ∧ c1.length = V.sz ∧ V R w c1 x.1 ∧ U R w c2 x.2⟩
theorem intV_good : intV.Good where
  len := fun h => by obtain ⟨rfl, _⟩ := h; rfl
  stay := fun h _ => h
  mono := fun h _ => h
theorem boolV_good : boolV.Good where
  len := fun h => by cases h; rfl
  stay := fun h _ => h
  mono := fun h _ => h
theorem strV_good : strV.Good where
  len := fun h => by obtain ⟨rfl, _⟩ := h; rfl
  stay := fun h _ => h
  mono := fun h _ => h
theorem slV_good {α : Type} {E : Elem α} (g : E.Good) (sz : Nat) : (slV E sz).Good where
  len := fun h => by obtain ⟨_, _, rfl, _⟩ := h; rfl
  stay := fun ⟨A, cap, e, h⟩ hs => ⟨A, cap, e, h.stay g hs⟩
  mono := fun ⟨A, cap, e, h⟩ hm => ⟨A, cap, e, h.mono g hm⟩
theorem pairV_good {α β : Type} {V : ElV α} {U : ElV β} (g : V.Good) (g' : U.Good) (bytes : Nat) (hb : 0 < bytes) : (pairV V U bytes hb).Good where
  len := fun h => by
    obtain ⟨c1, c2, rfl, _, h1, h2⟩ := h
    rw [List.length_append, g.len h1, g'.len h2]; rfl
  stay := fun ⟨c1, c2, e, hl, h1, h2⟩ hs => ⟨c1, c2, e, hl, g.stay h1 hs, g'.stay h2 hs⟩
  mono := fun ⟨c1, c2, e, hl, h1, h2⟩ hm => ⟨c1, c2, e, hl, g.mono h1 hm, g'.mono h2 hm⟩

section
variable {H : Type} {enc : TypeId × Value → H} {P : Program}

/-- What can be read as a datum of the type e, with so much fuel, and weighs no more than may be, is a V. -/
structure OpensV {α : Type} (enc : TypeId × Value → H) (P : Program) (e : TypeId) (V : ElV α) : Prop where
  cells : P.cellsOf e = V.sz
  bytes : P.bytesOf e = V.bytes
  open_ : ∀ (W : World) (fuel : Nat) cs y, cs.length = V.sz → DataW.trod enc P W 0 (fun _ => true) true fuel e cs = some y → (∀ n ∈ y.1.weights P e, n ≤ reachBytes) → ∃ x, V (Old W) W cs x

theorem one_of {cs : List Value} (h : cs.length = 1) : ∃ v, cs = [v] := by
  match cs, h with
  | [v], _ => exact ⟨v, rfl⟩

theorem opensV_int {e : TypeId} (ht : P.underlying e = some (.int .i64)) (hc : P.cellsOf e = 1) (hb : P.bytesOf e = 8) : OpensV enc P e intV where
  cells := hc
  bytes := hb
  open_ := fun W fuel cs y hl hy _ => by
    obtain ⟨v, rfl⟩ := one_of hl
    obtain ⟨n, hn, _, hw⟩ := DataW.trod_int ht hy
    exact ⟨n, hn, wf_i64 hw⟩
theorem opensV_bool {e : TypeId} (ht : P.underlying e = some .bool) (hc : P.cellsOf e = 1) (hb : P.bytesOf e = 1) : OpensV enc P e boolV where
  cells := hc
  bytes := hb
  open_ := fun W fuel cs y hl hy _ => by
    obtain ⟨v, rfl⟩ := one_of hl
    obtain ⟨n, hn, _⟩ := DataW.trod_bool ht hy
    exact ⟨n, hn⟩
theorem opensV_string {e : TypeId} (ht : P.underlying e = some .string) (hc : P.cellsOf e = 1) (hb : P.bytesOf e = 16) : OpensV enc P e strV where
  cells := hc
  bytes := hb
  open_ := fun W fuel cs y hl hy _ => by
    obtain ⟨v, rfl⟩ := one_of hl
    obtain ⟨n, hn, _, hw⟩ := DataW.trod_string ht hy
    exact ⟨n, hn, hw⟩
theorem opensV_sl {α : Type} {t e : TypeId} {sz : Nat} {E : Elem α} (ht : P.underlying t = some (.slice e)) (hsz : 0 < sz) (hct : P.cellsOf t = 1) (hb : P.bytesOf t = 24) (hE : OpensE enc P e sz E) : OpensV enc P t (slV E sz) where
  cells := hct
  bytes := hb
  open_ := fun W fuel cs y hl hy hw => by
    obtain ⟨A, l, cap, hc, hs⟩ := open_sl ht hsz hE hy hw
    exact ⟨l, A, cap, hc, hs⟩

/-- Such a thing in memory. -/
theorem opensE_of {α : Type} {e : TypeId} {V : ElV α} (h : OpensV enc P e V) : OpensE enc P e V.sz V.mem where
  cells := h.cells
  bytes := h.bytes
  open_ := fun W fuel b o cs y hcs hy hw => by
    obtain ⟨_, hl, hc⟩ := World.cells?_some hcs
    obtain ⟨x, hx⟩ := h.open_ W fuel cs y hl hy hw
    have hat : ∀ j u, cs[j]? = some u → W.cell? ⟨b, o + j, none⟩ = some u := fun j u hj => by
      have hlt : j < V.sz := by rw [← hl]; exact (List.getElem?_eq_some_iff.1 hj).1
      have h1 := hc j hlt
      rw [hj] at h1
      rw [← h1, show (⟨b, o, none⟩ : Addr).add j = ⟨b, o + j, none⟩ by unfold Addr.add; split <;> simp_all]
    have h0 : ∃ u, cs[0]? = some u := ⟨cs[0]'(by rw [hl]; exact V.pos), List.getElem?_eq_getElem _⟩
    obtain ⟨u, hu⟩ := h0
    exact ⟨x, cell_lt (hat 0 u hu), cs, hl, hat, hx⟩

theorem weightsEach_cons {t : TypeId} {ts : List TypeId} {d : DataW H} {ds : List (DataW H)} : DataW.weightsEach P (t :: ts) (d :: ds) = d.weights P t ++ DataW.weightsEach P ts ds := rfl

/-- A struct of two fields. -/
theorem opensV_struct2 {α β : Type} {t : TypeId} {f0 f1 : Field} {V : ElV α} {U : ElV β} {bytes : Nat} (hbp : 0 < bytes) (ht : P.underlying t = some (.struct #[f0, f1])) (o0 : f0.offset = 0) (o1 : f1.offset = V.sz)
    (hc : P.cellsOf t = V.sz + U.sz) (hb : P.bytesOf t = bytes) (h0 : OpensV enc P f0.type V) (h1 : OpensV enc P f1.type U) : OpensV enc P t (pairV V U bytes hbp) where
  cells := hc
  bytes := hb
  open_ := fun W fuel cs y hl hy hw => by
    obtain ⟨xs, n, hn, rfl, hl', hxl, hf⟩ := DataW.trod_struct ht hy
    obtain ⟨y0, y1, rfl⟩ : ∃ y0 y1, xs = [y0, y1] := by
      match xs, hxl with
      | [y0, y1], _ => exact ⟨y0, y1, rfl⟩
    have g0 := hf 0 f0 rfl
    have g1 := hf 1 f1 rfl
    rw [o0, h0.cells, List.drop_zero] at g0
    rw [o1, h1.cells] at g1
    simp only [List.getElem?_cons_zero, List.getElem?_cons_succ] at g0 g1
    have hl2 : cs.length = V.sz + U.sz := hl
    obtain ⟨x0, hx0⟩ := h0.open_ W n _ y0 (by simp; omega) g0 (fun m hm => hw m (by simp only [DataW.weights, ht, List.map_cons, List.map_nil, weightsEach_cons, List.mem_append]; exact .inl hm))
    obtain ⟨x1, hx1⟩ := h1.open_ W n _ y1 (by simp; omega) g1 (fun m hm => hw m (by simp only [DataW.weights, ht, List.map_cons, List.map_nil, weightsEach_cons, List.mem_append]; exact .inr (.inl hm)))
    refine ⟨(x0, x1), cs.take V.sz, (cs.drop V.sz).take U.sz, ?_, by simp; omega, hx0, hx1⟩
    rw [List.take_of_length_le (l := cs.drop V.sz) (by simp; omega), List.take_append_drop]
/-- A struct of three fields. -/
theorem opensV_struct3 {α β γ : Type} {t : TypeId} {f0 f1 f2 : Field} {V : ElV α} {U : ElV β} {T : ElV γ} {bytes ib : Nat} (hib : 0 < ib) (hbp : 0 < bytes) (ht : P.underlying t = some (.struct #[f0, f1, f2])) (o0 : f0.offset = 0) (o1 : f1.offset = V.sz) (o2 : f2.offset = V.sz + U.sz)
    (hc : P.cellsOf t = V.sz + (U.sz + T.sz)) (hb : P.bytesOf t = bytes) (h0 : OpensV enc P f0.type V) (h1 : OpensV enc P f1.type U) (h2 : OpensV enc P f2.type T) : OpensV enc P t (pairV V (pairV U T ib hib) bytes hbp) where
  cells := hc
  bytes := hb
  open_ := fun W fuel cs y hl hy hw => by
    obtain ⟨xs, n, hn, rfl, hl', hxl, hf⟩ := DataW.trod_struct ht hy
    obtain ⟨y0, y1, y2, rfl⟩ : ∃ y0 y1 y2, xs = [y0, y1, y2] := by
      match xs, hxl with
      | [y0, y1, y2], _ => exact ⟨y0, y1, y2, rfl⟩
    have g0 := hf 0 f0 rfl
    have g1 := hf 1 f1 rfl
    have g2 := hf 2 f2 rfl
    rw [o0, h0.cells, List.drop_zero] at g0
    rw [o1, h1.cells] at g1
    rw [o2, h2.cells] at g2
    simp only [List.getElem?_cons_zero, List.getElem?_cons_succ] at g0 g1 g2
    have hl2 : cs.length = V.sz + (U.sz + T.sz) := hl
    obtain ⟨x0, hx0⟩ := h0.open_ W n _ y0 (by simp; omega) g0 (fun m hm => hw m (by simp only [DataW.weights, ht, List.map_cons, List.map_nil, weightsEach_cons, List.mem_append]; exact .inl hm))
    obtain ⟨x1, hx1⟩ := h1.open_ W n _ y1 (by simp; omega) g1 (fun m hm => hw m (by simp only [DataW.weights, ht, List.map_cons, List.map_nil, weightsEach_cons, List.mem_append]; exact .inr (.inl hm)))
    obtain ⟨x2, hx2⟩ := h2.open_ W n _ y2 (by simp; omega) g2 (fun m hm => hw m (by simp only [DataW.weights, ht, List.map_cons, List.map_nil, weightsEach_cons, List.mem_append]; exact .inr (.inr (.inl hm))))
    refine ⟨(x0, x1, x2), cs.take V.sz, cs.drop V.sz, by rw [List.take_append_drop], by simp; omega, hx0, (cs.drop V.sz).take U.sz, (cs.drop (V.sz + U.sz)).take T.sz, ?_, by simp; omega, hx1, hx2⟩
    rw [List.take_of_length_le (l := cs.drop (V.sz + U.sz)) (by simp; omega), ← List.drop_drop, List.take_append_drop]

/-- An argument that is a struct. -/
theorem arg_struct {α : Type} {W : World} {t : TypeId} {fs : Array Field} {V : ElV α} {v : Value} {d : DataW H} {p : List MemPlace} {r : Reach} {base : Nat} (hs : P.underlying t = some (.struct fs)) (hO : OpensV enc P t V)
    (hv : Value.okWide P W r base t v) (h : DataW.Trod enc P W 0 (fun _ => true) true t v d p) (hw : ∀ n ∈ d.weights P t, n ≤ reachBytes) : ∃ cs x, v = .agg cs.toArray ∧ cs.length = V.sz ∧ V (Old W) W cs x := by
  obtain ⟨cs, rfl, hsz⟩ := okWide_struct hs hv
  obtain ⟨fuel, hf⟩ := h
  have hl : cs.toList.length = V.sz := by rw [Array.length_toList, hsz, hO.cells]
  obtain ⟨x, hx⟩ := hO.open_ W fuel cs.toList (d, p) hl hf hw
  exact ⟨cs.toList, x, by simp, hl, hx⟩
end
end Go.Proofs.YtpmndblakmobdaaGreatDoor
/- Later -/
namespace Go.Proofs.YtpmndblakmobdaaGreatDoor
open Go Go.RowKit

/-- w with blocks laid behind it, and draws made. -/
def later (w : World) (d : Nat) (os : Array Obj) : World := { w with heap := w.heap ++ os, drawn := d }
structure Lat where
  d : Nat
  os : Array Obj

instance : Inhabited Lat := ⟨⟨0, #[]⟩⟩

theorem chg_later (w : World) (d : Nat) (os : Array Obj) : Chg No w (later w d os) :=
  ⟨rfl, rfl, rfl, by simp [later], fun k hk _ => by simp [later, Array.getElem?_append, hk]⟩
theorem later_of_chg {w w' : World} (h : Chg No w w') : ∃ p : Lat, w' = later w p.d p.os := by
  have hh : w'.heap = w.heap ++ w'.heap.extract w.heap.size w'.heap.size := by
    apply Array.ext
    · simp; have := h.size; omega
    · intro i h1 h2
      by_cases hi : i < w.heap.size
      · have := h.block i hi id
        rw [Array.getElem?_eq_getElem h1, Array.getElem?_eq_getElem hi] at this
        injection this with this
        rw [Array.getElem_append_left hi, this]
      · rw [Array.getElem_append_right (by omega), Array.getElem_extract]
        congr 1; omega
  refine ⟨⟨w'.drawn, w'.heap.extract w.heap.size w'.heap.size⟩, ?_⟩
  have e : w' = { w with heap := w'.heap, drawn := w'.drawn } := by
    obtain ⟨h1, h2, h3, _, _⟩ := h
    cases w'
    simp only at h1 h2 h3
    subst h1; subst h2; subst h3
    rfl
  unfold later
  rw [← hh]
  exact e
theorem later_trans {w w' : World} {d : Nat} {os : Array Obj} (h : Chg No (later w d os) w') : ∃ p : Lat, w' = later w p.d p.os := later_of_chg ((chg_later w d os).thenNo h)

theorem wp_region_later {P : Program} {id : Nat} {Q : Exit → Act → World → Prop} {a : Act} {w : World} {l : List Oper} (hm : P.follows .mixedOrders = true) (hB : Region.lexB .any l.toArray = true)
    (h : wpQuiet P l.toArray (fun w' => ∃ p : Lat, w' = later w p.d p.os) (fun a' => ∀ w', (∃ p : Lat, w' = later w p.d p.os) → Q .normal a' w') l a) : (Code.region id l.toArray true).wp P Q a w :=
  wp_region_quiet (C := fun w' => ∃ p : Lat, w' = later w p.d p.os) hm hB ⟨⟨w.drawn + 1, #[]⟩, by unfold later; rw [Array.append_empty]⟩ (by simpa using h)

theorem Calls.later_of {P : Program} {f : FuncId} {args : Array Value} {w : World} {d : Nat} {os : Array Obj} {v : Value}
    (h : Calls P f args (later w d os) fun e w' => e = .returned v ∧ Chg No (later w d os) w') : Calls P f args (later w d os) fun e w'' => e = .returned v ∧ ∃ p : Lat, w'' = later w p.d p.os :=
  h.mono fun _ _ ⟨he, hc⟩ => ⟨he, later_trans hc⟩
theorem Calls.later_same {P : Program} {f : FuncId} {args : Array Value} {w : World} {d : Nat} {os : Array Obj} {v : Value}
    (h : Calls P f args (later w d os) fun e w' => e = .returned v ∧ later w d os = w') : Calls P f args (later w d os) fun e w'' => e = .returned v ∧ ∃ p : Lat, w'' = later w p.d p.os :=
  h.mono fun _ _ ⟨he, hc⟩ => ⟨he, ⟨d, os⟩, hc.symm⟩
theorem cell_later {w : World} {b o : Nat} {v : Value} (h : w.cell? ⟨b, o, none⟩ = some v) (d : Nat) (os : Array Obj) : (later w d os).cell? ⟨b, o, none⟩ = some v := (chg_later w d os).cell h id
end Go.Proofs.YtpmndblakmobdaaGreatDoor
/- OwnL -/
namespace Go.Proofs.YtpmndblakmobdaaGreatDoor
open Go Go.RowKit

theorem flatten_length {β : Type} {k : Nat} : ∀ {C : List (List β)}, (∀ c ∈ C, c.length = k) → C.flatten.length = C.length * k
  | [], _ => by simp
  | c :: C, h => by
    rw [List.flatten_cons, List.length_append, h c List.mem_cons_self, flatten_length (fun x hx => h x (List.mem_cons_of_mem _ hx)), List.length_cons, Nat.add_mul, Nat.one_mul]
    omega
theorem flatten_get {β : Type} {k : Nat} : ∀ {C : List (List β)}, (∀ c ∈ C, c.length = k) → ∀ (i : Nat) (hi : i < C.length) (j : Nat), j < k → C.flatten[i * k + j]? = C[i][j]?
  | [], _, i, hi, _, _ => absurd hi (Nat.not_lt_zero i)
  | c :: C, h, 0, _, j, hj => by
    rw [List.flatten_cons, Nat.zero_mul, Nat.zero_add, List.getElem?_append_left (by rw [h c List.mem_cons_self]; exact hj)]
    rfl
  | c :: C, h, i + 1, hi, j, hj => by
    have hc := h c List.mem_cons_self
    rw [List.flatten_cons, List.getElem?_append_right (by rw [hc, Nat.add_mul, Nat.one_mul]; omega), hc, show (i + 1) * k + j - k = i * k + j by rw [Nat.add_mul, Nat.one_mul]; omega]
    exact flatten_get (fun x hx => h x (List.mem_cons_of_mem _ hx)) i (by simpa using hi) j hj

/-- The slice value v owns the list l, in a block of M; what its elements lead to lies in R, in other blocks. -/
def OwnL {α : Type} (V : ElV α) (e : TypeId) (M R : Nat → Prop) (w : World) (v : Value) (l : List α) : Prop :=
  ∃ C : List (List Value), Own M e V.sz w v l.length C.flatten ∧ C.length = l.length ∧ ∀ i (h : i < l.length) (h' : i < C.length), V (fun k => R k ∧ v.ownBlock ≠ some k) w C[i] l[i]

namespace OwnL
variable {α : Type} {V : ElV α} {e : TypeId} {M M' R R' S : Nat → Prop} {w w' : World} {v : Value} {l : List α}
theorem nil (V : ElV α) (e : TypeId) (M R : Nat → Prop) (w : World) : OwnL V e M R w (.slice none 0 0) [] := ⟨[], Own.nil _ _ _ _, rfl, fun i h => absurd h (Nat.not_lt_zero i)⟩
theorem value (h : OwnL V e M R w v l) : ∃ A cap, v = .slice A l.length cap ∧ l.length ≤ cap ∧ cap ≤ maxLen ∧ (A = none → cap = 0) := by
  obtain ⟨C, ho, _⟩ := h
  exact ho.value
theorem mine (h : OwnL V e M R w v l) : ∀ k, v.ownBlock = some k → M k ∧ k < w.heap.size := by
  obtain ⟨C, ho, _⟩ := h
  exact ho.mine
theorem chg (g : V.Good) (h : OwnL V e M R w v l) (c : Chg S w w') (hd : ∀ k, v.ownBlock = some k → ¬ S k) (hR : ∀ k, R k → v.ownBlock ≠ some k → ¬ S k) : OwnL V e M R w' v l := by
  obtain ⟨C, ho, hl, hv⟩ := h
  exact ⟨C, ho.chg c hd, hl, fun i h1 h2 => g.chg (hv i h1 h2) c (fun k hk => hR k hk.1 hk.2)⟩
theorem no (g : V.Good) (h : OwnL V e M R w v l) (c : Chg No w w') : OwnL V e M R w' v l := h.chg g c (fun _ _ f => f) (fun _ _ _ f => f)
theorem mono (g : V.Good) (h : OwnL V e M R w v l) (hm : ∀ k, k < w.heap.size → M k → M' k) (hr : ∀ k, k < w.heap.size → R k → R' k) : OwnL V e M' R' w v l := by
  obtain ⟨C, ho, hl, hv⟩ := h
  exact ⟨C, ho.mono hm, hl, fun i h1 h2 => g.mono (hv i h1 h2) (fun k hk h => ⟨hr k hk h.1, h.2⟩)⟩
/-- It is a slice. -/
theorem sl (g : V.Good) (h : OwnL V e M R w v l) (hb : l.length * V.bytes ≤ big) : ∃ A cap, v = .slice A l.length cap ∧ Sl V.mem V.sz (fun k => M k ∨ R k) w A l cap := by
  obtain ⟨C, ho, hl, hv⟩ := h
  have hlen : ∀ c ∈ C, c.length = V.sz := fun c hc => by
    obtain ⟨i, hi, rfl⟩ := List.getElem_of_mem hc
    exact g.len (hv i (by omega) hi)
  obtain ⟨A, cap, hv1, hs⟩ := (ho.mono (M' := fun k => M k ∨ R k) (fun k _ h => .inl h)).sl (E := V.mem) (l := l) hb (fun gb o cap _ hM hc i hi => by
    refine ⟨hM, C[i]'(by omega), hlen _ (List.getElem_mem _), fun j u hj => ?_, g.mono (hv i hi (by omega)) (fun k _ hk => .inr hk.1)⟩
    have hjl : j < V.sz := by rw [← hlen _ (List.getElem_mem (show i < C.length by omega))]; exact (List.getElem?_eq_some_iff.1 hj).1
    have := hc (i * V.sz + j) u (by rw [flatten_get hlen i (by omega) j hjl]; exact hj)
    rw [← Nat.add_assoc] at this
    exact this)
  exact ⟨A, cap, hv1, hs⟩
theorem sl_of (g : V.Good) {A : Option Addr} {n cap : Nat} (h : OwnL V e M R w (.slice A n cap) l) (hb : l.length * V.bytes ≤ big) : n = l.length ∧ Sl V.mem V.sz (fun k => M k ∨ R k) w A l cap := by
  obtain ⟨A', c', e1, h1⟩ := h.sl g hb
  injection e1 with e1 e2 e3
  subst e1; subst e2; subst e3
  exact ⟨rfl, h1⟩
/-- A cell of an element. -/
theorem at_ (g : V.Good) (h : OwnL V e M R w v l) (i : Nat) (hi : i < l.length) : ∃ b o cap cs, v = .slice (some ⟨b, o, none⟩) l.length cap ∧ M b ∧ cs.length = V.sz ∧ V (fun k => R k ∧ v.ownBlock ≠ some k) w cs l[i] ∧ ∀ j u, cs[j]? = some u → w.cell? ⟨b, o + i * V.sz + j, none⟩ = some u := by
  obtain ⟨C, ho, hl, hv⟩ := h
  have hlen : ∀ c ∈ C, c.length = V.sz := fun c hc => by
    obtain ⟨i, hi, rfl⟩ := List.getElem_of_mem hc
    exact g.len (hv i (by omega) hi)
  have hiC : i < C.length := by omega
  have h0 : ∃ u, C[i][0]? = some u := ⟨C[i][0]'(by rw [hlen _ (List.getElem_mem hiC)]; exact V.pos), List.getElem?_eq_getElem _⟩
  obtain ⟨u0, hu0⟩ := h0
  obtain ⟨b, o, cap, hv1, hM, _⟩ := ho.cell (j := i * V.sz + 0) (u := u0) (by rw [flatten_get hlen i hiC 0 V.pos]; exact hu0)
  refine ⟨b, o, cap, C[i], hv1, hM, hlen _ (List.getElem_mem hiC), hv i hi hiC, fun j u hj => ?_⟩
  have hjl : j < V.sz := by rw [← hlen _ (List.getElem_mem hiC)]; exact (List.getElem?_eq_some_iff.1 hj).1
  obtain ⟨b', o', cap', hv2, _, hc⟩ := ho.cell (j := i * V.sz + j) (u := u) (by rw [flatten_get hlen i hiC j hjl]; exact hj)
  rw [hv1] at hv2
  injection hv2 with e1 _ _
  injection e1 with e1
  injection e1 with e1 e2
  subst e1; subst e2
  rw [← Nat.add_assoc] at hc
  exact hc
end OwnL

theorem OwnL.push {α : Type} {V : ElV α} (g : V.Good) {e : TypeId} {M R : Nat → Prop} {W w1 : World} {v v' : Value} {l : List α} {x : α} {cs : List Value} {C : List (List Value)}
    (hl : C.length = l.length) (hv : ∀ i (h : i < l.length) (h' : i < C.length), V (fun k => R k ∧ v.ownBlock ≠ some k) W C[i] l[i]) (hx : V (fun k => R k ∧ v.ownBlock ≠ some k) W cs x)
    (ho : Own M e V.sz w1 v' (l.length + 1) (C.flatten ++ cs)) (hc : Chg (fun k => v.ownBlock = some k) W w1) (hb : v'.ownBlock = v.ownBlock ∨ ∀ k, v'.ownBlock = some k → W.heap.size ≤ k) : OwnL V e M R w1 v' (l ++ [x]) := by
  have keep : ∀ {cs : List Value} {x : α}, V (fun k => R k ∧ v.ownBlock ≠ some k) W cs x → V (fun k => R k ∧ v'.ownBlock ≠ some k) w1 cs x := by
    intro cs x hs
    have h1 := g.mono hs (R' := fun k => (R k ∧ v.ownBlock ≠ some k) ∧ v'.ownBlock ≠ some k) (fun k hk hR => ⟨hR, by
      rcases hb with hb | hb
      · rw [hb]; exact hR.2
      · intro e; have := hb k e; omega⟩)
    have h2 := g.chg h1 hc (fun k hk hs => hk.1.2 hs)
    exact g.mono h2 (fun k _ hk => ⟨hk.1.1, hk.2⟩)
  refine ⟨C ++ [cs], by simpa using ho, by simp [hl], fun i hi hi' => ?_⟩
  by_cases hlt : i < l.length
  · rw [List.getElem_append_left (by omega), List.getElem_append_left hlt]; exact keep (hv i hlt (by omega))
  · have : i = l.length := by simp at hi; omega
    subst this
    rw [List.getElem_append_right (by omega), List.getElem_append_right (by omega)]
    simpa [hl] using keep hx

section
variable {P : Program} {α : Type} {V : ElV α} {t e : TypeId} {z : Value} {ops : Array Oper} {rest : List Oper} {o : Oper} {act : Act} {Q : Exit → Act → World → Prop} {K : Act → World → Prop} {F : Prop}
/-- What append(s, x) leaves, where the one element has just been laid. -/
theorem pushL_post (g : V.Good) {M R : Nat → Prop} {w : World} {v : Value} {l : List α} (hown : OwnL V e M R w v l) {x : α} {cs : List Value} (hx : V (fun k => R k ∧ v.ownBlock ≠ some k) w cs x)
    {w1 : World} {Kp : Option Addr → Nat → World → Prop}
    (h : ∀ A cap w', OwnL V e M R w' (.slice A (l.length + 1) cap) (l ++ [x]) → Chg (fun k => v.ownBlock = some k) w w' → Kp A cap w') (hw1 : Chg No w w1) :
    ∃ C : List (List Value), Own M e V.sz w1 v l.length C.flatten ∧ ∀ A cap w', Own M e V.sz w' (.slice A (l.length + 1) cap) (l.length + 1) (C.flatten ++ cs) → Chg (fun k => v.ownBlock = some k) w1 w' →
      ((Value.slice A (l.length + 1) cap).ownBlock = v.ownBlock ∨ (Value.slice A (l.length + 1) cap).ownBlock = some w1.heap.size) → Kp A cap w' := by
  obtain ⟨C, ho, hl, hv⟩ := hown
  refine ⟨C, ho.no hw1, fun A cap w' g1 g2 g3 => ?_⟩
  have hc : Chg (fun k => v.ownBlock = some k) w w' := hw1.no.trans g2 (fun k hk _ => hk)
  refine h A cap w' (OwnL.push g hl hv hx g1 hc ?_) hc
  rcases g3 with g3 | g3
  · exact .inl g3
  · exact .inr (fun k hk => by rw [g3] at hk; injection hk with hk; have := hw1.size; omega)

theorem wpList_pushL (g : V.Good) (T : SliceTy P t e V.sz V.bytes z) (hgd : o.guard = none) (s xo : Operand)
    (ho : o.op = .call { callee := .builtin .append, args := #[s, xo], argTypes := #[t, t] })
    {M R : Nat → Prop} {w : World} (hM : ∀ k, w.heap.size ≤ k → M k) {v : Value} {l : List α} (hown : OwnL V e M R w v l) (hs : act.eval s = v)
    {x : α} {cs : List Value} (hx : V (fun k => R k ∧ v.ownBlock ≠ some k) w cs x) (h1 : ∀ u ∈ cs, u.oneCell' = true) {e' : TypeId} (hxo : act.eval xo = .slice (some ⟨w.heap.size, 0, none⟩) 1 1) (hbytes : (l.length + 1) * V.bytes ≤ 140737488355328)
    (h : ∀ A cap w', OwnL V e M R w' (.slice A (l.length + 1) cap) (l ++ [x]) → Chg (fun k => v.ownBlock = some k) w w' → wpList P ops Q rest (act.put o.dst (.slice A (l.length + 1) cap)) w') :
    wpList P ops Q (o :: rest) act (w.alloc (.cells cs.toArray e')) := by
  have hc : Chg No w (w.alloc (.cells cs.toArray e')) := (Chg.refl _ _).alloc _
  obtain ⟨C, h2, h3⟩ := pushL_post g hown hx (Kp := fun A cap w' => wpList P ops Q rest (act.put o.dst (.slice A (l.length + 1) cap)) w') h hc
  exact wpList_append_Own T hgd s xo ho (fun k hk => hM k (Nat.le_trans hc.size hk)) h2 hs hxo (news := cs) (by rw [g.len hx]; omega) (news_alloc w cs e') h1 hbytes h3

/-- The same at a step of a region that draws its order. -/
theorem step_pushL (g : V.Good) (T : SliceTy P t e V.sz V.bytes z) (hgd : o.guard = none) (s xo : Operand)
    (ho : o.op = .call { callee := .builtin .append, args := #[s, xo], argTypes := #[t, t] })
    {M R : Nat → Prop} {w : World} (hM : ∀ k, w.heap.size ≤ k → M k) {v : Value} {l : List α} (hown : OwnL V e M R w v l) (hs : act.eval s = v)
    {x : α} {cs : List Value} (hx : V (fun k => R k ∧ v.ownBlock ≠ some k) w cs x) (h1 : ∀ u ∈ cs, u.oneCell' = true) {a : Addr} {w1 : World} (hw1 : Chg No w w1) (hnews : ∀ j u, cs[j]? = some u → w1.cell? (a.add j) = some u) (hxo : act.eval xo = .slice (some a) 1 1) (hbytes : (l.length + 1) * V.bytes ≤ 140737488355328)
    (h : ∀ A cap w', OwnL V e M R w' (.slice A (l.length + 1) cap) (l ++ [x]) → Chg (fun k => v.ownBlock = some k) w w' → K (act.put o.dst (.slice A (l.length + 1) cap)) w') :
    if Region.wanted o (yielded ops act.tmps) = true then Oper.wp P o act w1 K Q else F := by
  obtain ⟨C, h2, h3⟩ := pushL_post g hown hx (Kp := fun A cap w' => K (act.put o.dst (.slice A (l.length + 1) cap)) w') h hw1
  exact step_append_Own T hgd s xo ho (fun k hk => hM k (Nat.le_trans hw1.size hk)) h2 hs hxo (news := cs) (by rw [g.len hx]; omega) hnews h1 hbytes h3
end

section
variable {P : Program} {t e : TypeId} {sz bytes : Nat} {z : Value} {ops : Array Oper} {rest : List Oper} {o : Oper} {act : Act} {Q : Exit → Act → World → Prop}
theorem run_append_none {t e : TypeId} {sz bytes : Nat} {z : Value} (T : SliceTy P t e sz bytes z) (ty : TypeId) {M : Nat → Prop} {w : World} {v : Value} {n : Nat} {xs : List Value} (hown : Own M e sz w v n xs) (c : Nat) :
    (Builtin.append_ #[t, t] ty #[v, .slice none 0 c]).run P w = .ok v w := by
  obtain ⟨i, hi, hz, hsz, hby⟩ := info_parts T.info
  rcases hown.2 with ⟨rfl, rfl⟩ | ⟨g, o, cap, cur, rfl, hbg, hg, hnc, hcm, hcs, htake⟩
  · simp [Builtin.append_, run_underlying T.sl, sizeOf, typeInfo, hi, Builtin.lenOf, Builtin.firstCells]
  · simp [Builtin.append_, run_underlying T.sl, sizeOf, typeInfo, hi, Builtin.lenOf, Builtin.firstCells, hnc, storeCells]

/-- The cells of a slice. -/
theorem Sl.cellsOf {α : Type} {V : ElV α} {R : Nat → Prop} {w : World} {A : Option Addr} {l : List α} {cap : Nat} (h : Sl V.mem V.sz R w A l cap) :
    ∃ C : List (List Value), C.length = l.length ∧ (∀ c ∈ C, c.length = V.sz) ∧ (∀ i (h1 : i < l.length) (h2 : i < C.length), V R w C[i] l[i]) ∧ (l = [] ∨ ∃ b o, A = some ⟨b, o, none⟩ ∧ ∀ j u, C.flatten[j]? = some u → w.cell? ⟨b, o + j, none⟩ = some u) := by
  by_cases h0 : l = []
  · subst h0
    exact ⟨[], rfl, (fun c hc => by cases hc), fun i h1 => absurd h1 (Nat.not_lt_zero i), .inl rfl⟩
  have hpos : 0 < l.length := List.length_pos_iff.2 h0
  obtain ⟨b, o, hA, _⟩ := h.at_ 0 hpos
  have hex : ∀ i, i < l.length → ∃ cs : List Value, cs.length = V.sz ∧ (∀ j u, cs[j]? = some u → w.cell? ⟨b, o + i * V.sz + j, none⟩ = some u) ∧ ∀ h1 : i < l.length, V R w cs l[i] := fun i hi => by
    obtain ⟨b', o', hA', _, cs, h1, h2, h3⟩ := h.at_ i hi
    rw [hA] at hA'
    injection hA' with hA'
    injection hA' with e1 e2
    subst e1; subst e2
    exact ⟨cs, h1, h2, fun _ => h3⟩
  obtain ⟨f, hf⟩ := Go.Deep.choose_lt hex
  have hlen : ∀ c ∈ (List.range l.length).map f, c.length = V.sz := fun c hc => by
    obtain ⟨i, hi, rfl⟩ := List.mem_map.1 hc
    exact (hf i (List.mem_range.1 hi)).1
  refine ⟨(List.range l.length).map f, by simp, hlen, fun i h1 h2 => by simpa using (hf i h1).2.2 h1, .inr ⟨b, o, hA, fun j u hj => ?_⟩⟩
  have hjl := (List.getElem?_eq_some_iff.1 hj).1
  rw [flatten_length hlen] at hjl
  simp only [List.length_map, List.length_range] at hjl
  have hp := V.pos
  have hq : j / V.sz < l.length := Nat.div_lt_of_lt_mul (by rw [Nat.mul_comm]; exact hjl)
  have hdm : j / V.sz * V.sz + j % V.sz = j := by rw [Nat.mul_comm]; exact Nat.div_add_mod j V.sz
  have hlt := Nat.mod_lt j hp
  rw [← hdm, flatten_get hlen (j / V.sz) (by simpa using hq) (j % V.sz) hlt] at hj
  have := (hf _ hq).2.1 (j % V.sz) u (by simpa using hj)
  rw [Nat.add_assoc, hdm] at this
  exact this

/-- append([]T{}, src...): a copy, whose elements lead to what those of src lead to. -/
theorem wpList_copyL {α : Type} {V : ElV α} (g : V.Good) (h1 : ∀ {R w cs x}, V R w cs x → ∀ u ∈ cs, u.oneCell' = true) (T : SliceTy P t e V.sz V.bytes z) (hgd : o.guard = none) (s xo : Operand)
    (ho : o.op = .call { callee := .builtin .append, args := #[s, xo], argTypes := #[t, t] })
    {w : World} (hs : act.eval s = .slice (some ⟨w.heap.size, 0, none⟩) 0 0) {R : Nat → Prop} {A : Option Addr} {l : List α} {n cap : Nat} (hn : n = l.length) (hl : Sl V.mem V.sz R w A l cap) (hx : act.eval xo = .slice A n cap)
    (h : ∀ A' cap' w', OwnL V e (fun k => w.heap.size ≤ k) R w' (.slice A' l.length cap') l → Chg No w w' → A' ≠ none → wpList P ops Q rest (act.put o.dst (.slice A' n cap')) w') :
    wpList P ops Q (o :: rest) act (w.alloc (.cells #[] e)) := by
  subst hn
  have hc : Chg No w (w.alloc (.cells #[] e)) := (Chg.refl _ _).alloc _
  have hown : Own (fun k => w.heap.size ≤ k) e V.sz (w.alloc (.cells #[] e)) (.slice (some ⟨w.heap.size, 0, none⟩) 0 0) 0 [] :=
    ⟨by simp, .inr ⟨w.heap.size, 0, 0, #[], rfl, Nat.le_refl _, at_new rfl, Nat.le_refl _, Nat.zero_le _, by simp, by simp⟩⟩
  obtain ⟨C, hC1, hC2, hC3, hC4⟩ := hl.cellsOf
  have hroom : l.length * V.bytes ≤ 140737488355328 := hl.room
  have keep : ∀ {w' : World} {A' : Option Addr} {n' cap' : Nat}, Chg No w w' → (∀ k, (Value.slice A' n' cap').ownBlock = some k → w.heap.size ≤ k) → ∀ i (h1 : i < l.length) (h2 : i < C.length), V (fun k => R k ∧ (Value.slice A' n' cap').ownBlock ≠ some k) w' C[i] l[i] := fun hcw hfar i h1 h2 => by
    have e1 := g.mono (hC3 i h1 h2) (R' := fun k => R k ∧ k < w.heap.size) (fun k hk hR => ⟨hR, hk⟩)
    exact g.mono (g.no e1 hcw) (fun k _ hk => ⟨hk.1, fun e => by have := hfar k e; omega⟩)
  cases A with
  | none =>
    have h0 : l = [] := List.eq_nil_of_length_eq_zero (by have := hl.le; have := hl.nil rfl; omega)
    subst h0
    refine wpList_plain hgd fun _ hK => ?_
    have hrun := run_append_none (P := P) T o.type hown cap
    unfold Oper.wp execOp
    simp only [ho, resolve, invoke, builtin, Sem.run_bind, Sem.run_pure, Result.andThen_ok, List.map_toArray, List.map_cons, List.map_nil, hs, hx, List.length_nil, hrun]
    exact hK _ _ (h (some ⟨w.heap.size, 0, none⟩) 0 _ ⟨[], hown, rfl, fun i h => absurd h (Nat.not_lt_zero i)⟩ hc (by simp))
  | some a =>
    refine wpList_append_Own T hgd s xo ho (fun k hk => Nat.le_trans hc.size hk) hown hs (a := a) (m := l.length) (c := cap) (news := C.flatten) hx (by rw [flatten_length hC2, hC1]) (fun j u hj => ?_) (fun u hu => ?_) (by rw [Nat.zero_add]; exact hroom) (fun A cap' w' g1 g2 g3 => ?_)
    · rcases hC4 with h0 | ⟨b, o, hA, hcell⟩
      · subst h0
        have : C = [] := List.eq_nil_of_length_eq_zero (by simpa using hC1)
        subst this; simp at hj
      · injection hA with hA
        rw [hA, addr_add]
        exact hc.cell (hcell j u hj) id
    · obtain ⟨c, hcC, huc⟩ := List.mem_flatten.1 hu
      obtain ⟨i, hi, rfl⟩ := List.getElem_of_mem hcC
      exact h1 (hC3 i (by omega) hi) u huc
    · simp only [Nat.zero_add, List.nil_append] at g1 g3 ⊢
      have hcw : Chg No w w' := hc.trans g2 (fun k hk hlt => by simp [Value.ownBlock] at hk; omega)
      refine h A cap' w' ⟨C, g1, hC1, keep hcw (fun k hk => ?_)⟩ hcw ?_
      · exact (g1.mine k hk).1
      · intro hA
        subst hA
        rcases g3 with g3 | g3 <;> simp [Value.ownBlock] at g3
end
end Go.Proofs.YtpmndblakmobdaaGreatDoor
