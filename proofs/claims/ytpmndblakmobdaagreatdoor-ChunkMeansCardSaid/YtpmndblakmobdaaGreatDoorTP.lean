/-
  HpP, HpA, HpB, HpC, HpD, StsM1, StsM2, StsM3, StsM4, StsM5, HpE, HpF, HpG, HpH, HpI, HpJ, HpK, HpL, HpM, HpN, HpO, HpQ, HpR, in one file.
-/
import Derived.Test.YtpmndblakmobdaaGreatDoorMA
import Derived.Sort.Walk0
import Derived.Test.YtpmndblakmobdaaGreatDoorRows
import Derived.Deep.DeepCutAuto
import Derived.Deep.CutBlock
import Derived.Deep.RegionHeldLaw
import Derived.Deep.RegionWith
import Derived.Laws.Cover1
import Derived.StillTailTactics
import Derived.Deep.LoopGhost
import Derived.Lib.AppendZeros
import Derived.Lib.SliceRun
import Derived.Test.YtpmndblakmobdaaGreatDoorProg
import Derived.Test.YtpmndblakmobdaaGreatDoorTS
import Derived.Shelf.SlSortCmp.KitK
import Derived.WalkKit
import Derived.Lib.Hide
import Derived.WalkSpells
import Derived.WalkLawsBesides
import Derived.Laws.EntriesVeiled
import Derived.Laws.StructEq
import Derived.Lib.AppendZerosOnto
import Derived.Lib.Overlaps
import Derived.Deep.AppendSrc
import Derived.Deep.RegionLaw
/- HpP -/
namespace Go.Proofs.YtpmndblakmobdaaGreatDoor
open Go Go.RowKit

/-- A cell, a share: address, field, number. -/
abbrev Tri := Int × ByteArray × Int

theorem bl_irrefl : ∀ x : List UInt8, Op.bytesLess x x = false
  | [] => rfl
  | a :: x => by
    unfold Op.bytesLess
    rw [bl_irrefl x]
    simp
theorem bl_trans : ∀ x y z : List UInt8, Op.bytesLess x y = true → Op.bytesLess y z = true → Op.bytesLess x z = true
  | _, [], _, h, _ => by simp [Op.bytesLess] at h
  | _, _ :: _, [], _, h => by simp [Op.bytesLess] at h
  | [], _ :: _, _ :: _, _, _ => by simp [Op.bytesLess]
  | a :: x, b :: y, c :: z, h1, h2 => by
    unfold Op.bytesLess at *
    simp only [Bool.or_eq_true, decide_eq_true_eq, Bool.and_eq_true, beq_iff_eq] at *
    rcases h1 with h1 | ⟨rfl, h1⟩
    · rcases h2 with h2 | ⟨rfl, h2⟩
      · exact .inl (UInt8.lt_trans h1 h2)
      · exact .inl h1
    · rcases h2 with h2 | ⟨rfl, h2⟩
      · exact .inl h2
      · exact .inr ⟨rfl, bl_trans x y z h1 h2⟩
theorem bl_tri : ∀ x y : List UInt8, Op.bytesLess x y = false → Op.bytesLess y x = false → x = y
  | [], [], _, _ => rfl
  | [], _ :: _, h, _ => by simp [Op.bytesLess] at h
  | _ :: _, [], _, h => by simp [Op.bytesLess] at h
  | a :: x, b :: y, h1, h2 => by
    unfold Op.bytesLess at *
    simp only [Bool.or_eq_false_iff, decide_eq_false_iff_not, Bool.and_eq_false_iff, beq_eq_false_iff_ne] at *
    have hab : a = b := by
      have e1 := h1.1
      have e2 := h2.1
      rw [UInt8.lt_iff_toNat_lt] at e1 e2
      exact UInt8.toNat_inj.1 (by omega)
    subst hab
    have e1 := h1.2
    have e2 := h2.2
    simp at e1 e2
    rw [bl_tri x y e1 e2]
/-- How keys stand. -/
def ltK (a : Int) (f : ByteArray) (b : Int) (g : ByteArray) : Bool := decide (a < b) || (decide (a = b) && Op.bytesLess f.toList g.toList)
def eqK (a : Int) (f : ByteArray) (b : Int) (g : ByteArray) : Bool := decide (a = b) && (f.toList == g.toList)
/-- What order tells. -/
def cmpS (f g : ByteArray) : Int := if Op.bytesLess f.toList g.toList = true then -1 else if (f.toList == g.toList) = true then 0 else 1
def cmpZ (a b : Int) : Int := if a < b then -1 else if a = b then 0 else 1
def ordK (a : Int) (f : ByteArray) (b : Int) (g : ByteArray) : Int := if cmpZ a b ≠ 0 then cmpZ a b else cmpS f g
theorem ltK_irrefl (a : Int) (f : ByteArray) : ltK a f a f = false := by unfold ltK; rw [bl_irrefl]; simp
theorem ltK_trans {a b c : Int} {f g h : ByteArray} (h1 : ltK a f b g = true) (h2 : ltK b g c h = true) : ltK a f c h = true := by
  unfold ltK at *
  simp only [Bool.or_eq_true, decide_eq_true_eq, Bool.and_eq_true] at *
  rcases h1 with h1 | ⟨rfl, h1⟩
  · rcases h2 with h2 | ⟨rfl, h2⟩
    · exact .inl (by omega)
    · exact .inl h1
  · rcases h2 with h2 | ⟨rfl, h2⟩
    · exact .inl h2
    · exact .inr ⟨rfl, bl_trans _ _ _ h1 h2⟩
theorem ltK_tri {a b : Int} {f g : ByteArray} (h1 : ltK a f b g = false) (h2 : ltK b g a f = false) : eqK a f b g = true := by
  unfold ltK eqK at *
  simp only [Bool.or_eq_false_iff, decide_eq_false_iff_not, Bool.and_eq_false_iff, Bool.and_eq_true, decide_eq_true_eq, beq_iff_eq] at *
  have hab : a = b := by omega
  subst hab
  exact ⟨rfl, bl_tri _ _ (by have := h1.2; simpa using this) (by have := h2.2; simpa using this)⟩
theorem eqK_iff {a b : Int} {f g : ByteArray} : eqK a f b g = true ↔ a = b ∧ f.toList = g.toList := by
  unfold eqK; simp
theorem eqK_lt {a b c : Int} {f g h : ByteArray} (e : eqK a f b g = true) : ltK a f c h = ltK b g c h := by
  obtain ⟨rfl, e2⟩ := eqK_iff.1 e
  unfold ltK; rw [e2]
theorem eqK_lt' {a b c : Int} {f g h : ByteArray} (e : eqK a f b g = true) : ltK c h a f = ltK c h b g := by
  obtain ⟨rfl, e2⟩ := eqK_iff.1 e
  unfold ltK; rw [e2]
theorem eqK_symm {a b : Int} {f g : ByteArray} : eqK a f b g = eqK b g a f := by
  rw [Bool.eq_iff_iff, eqK_iff, eqK_iff]
  exact ⟨fun h => ⟨h.1.symm, h.2.symm⟩, fun h => ⟨h.1.symm, h.2.symm⟩⟩
theorem ltK_ne {a b : Int} {f g : ByteArray} (h : ltK a f b g = true) : eqK a f b g = false := by
  cases e : eqK a f b g
  · rfl
  · rw [eqK_lt e, ltK_irrefl] at h; cases h
theorem ltK_asymm {a b : Int} {f g : ByteArray} (h : ltK a f b g = true) : ltK b g a f = false := by
  cases e : ltK b g a f
  · rfl
  · have := ltK_trans h e; rw [ltK_irrefl] at this; cases this
theorem ordK_neg {a b : Int} {f g : ByteArray} : ordK a f b g < 0 ↔ ltK a f b g = true := by
  unfold ordK cmpZ cmpS ltK
  by_cases h1 : a < b
  · simp [h1]
  · by_cases h2 : a = b
    · subst h2
      cases hb : Op.bytesLess f.toList g.toList
      · simp
        split <;> omega
      · simp
    · have : ¬ b = a := fun h => h2 h.symm
      simp [h1, h2]
theorem ordK_zero {a b : Int} {f g : ByteArray} : ordK a f b g = 0 ↔ eqK a f b g = true := by
  unfold ordK cmpZ cmpS eqK
  by_cases h1 : a < b
  · simp [h1]; omega
  · by_cases h2 : a = b
    · subst h2
      cases hb : Op.bytesLess f.toList g.toList
      · simp
      · simp
        intro e
        rw [e, bl_irrefl] at hb; cases hb
    · simp [h1, h2]
end Go.Proofs.YtpmndblakmobdaaGreatDoor
/- HpA -/
namespace Go.Proofs.YtpmndblakmobdaaGreatDoor
open Go Go.RowKit

def triV : ElV Tri := pairV intV (pairV strV intV 24 (by decide)) 32 (by decide)
theorem triV_good : triV.Good := pairV_good intV_good (pairV_good strV_good intV_good _ _) _ _
abbrev TriE : Elem Tri := triV.mem
theorem triE_good : TriE.Good := triV_good.mem
abbrev Tris := Sl TriE 3
theorem tri_cells {R : Nat → Prop} {w : World} {cs : List Value} {m : Tri} (h : triV R w cs m) : cs = [.int .i64 m.1, .string m.2.1, .int .i64 m.2.2] ∧ I64 m.1 ∧ m.2.1.size ≤ maxLen ∧ I64 m.2.2 := by
  obtain ⟨c1, c2, rfl, _, ⟨rfl, h1⟩, c3, c4, rfl, _, ⟨rfl, h2⟩, rfl, h3⟩ := h
  exact ⟨rfl, h1, h2, h3⟩
theorem tri_of {R : Nat → Prop} {w : World} {m : Tri} (h1 : I64 m.1) (h2 : m.2.1.size ≤ maxLen) (h3 : I64 m.2.2) : triV R w [.int .i64 m.1, .string m.2.1, .int .i64 m.2.2] m :=
  ⟨[.int .i64 m.1], [.string m.2.1, .int .i64 m.2.2], rfl, rfl, ⟨rfl, h1⟩, [.string m.2.1], [.int .i64 m.2.2], rfl, rfl, ⟨rfl, h2⟩, rfl, h3⟩
theorem tri_any {R R' : Nat → Prop} {w w' : World} {cs : List Value} {m : Tri} (h : triV R w cs m) : triV R' w' cs m := by
  obtain ⟨rfl, h1, h2, h3⟩ := tri_cells h
  exact tri_of h1 h2 h3
theorem tri_one {R : Nat → Prop} {w : World} {cs : List Value} {x : Tri} (h : triV R w cs x) : ∀ u ∈ cs, u.oneCell' = true := by
  obtain ⟨rfl, _⟩ := tri_cells h
  simp [Value.oneCell']
def TriOk (m : Tri) : Prop := I64 m.1 ∧ m.2.1.size ≤ maxLen ∧ I64 m.2.2
theorem triE_cells {R : Nat → Prop} {w : World} {b o : Nat} {m : Tri} (h : TriE R w b o m) : w.cell? ⟨b, o, none⟩ = some (.int .i64 m.1) ∧ w.cell? ⟨b, o + 1, none⟩ = some (.string m.2.1) ∧ w.cell? ⟨b, o + 2, none⟩ = some (.int .i64 m.2.2) ∧ TriOk m := by
  obtain ⟨_, cs, _, hc, hv⟩ := h
  obtain ⟨rfl, h1⟩ := tri_cells hv
  exact ⟨hc 0 _ rfl, hc 1 _ rfl, hc 2 _ rfl, h1⟩
theorem Sl.tri_at {R : Nat → Prop} {w : World} {A : Option Addr} {l : List Tri} {cap : Nat} (h : Tris R w A l cap) (i : Nat) (hi : i < l.length) :
    ∃ b o, A = some ⟨b, o, none⟩ ∧ w.cell? ⟨b, o + i * 3, none⟩ = some (.int .i64 l[i].1) ∧ w.cell? ⟨b, o + i * 3 + 1, none⟩ = some (.string l[i].2.1) ∧ w.cell? ⟨b, o + i * 3 + 2, none⟩ = some (.int .i64 l[i].2.2) := by
  obtain ⟨b, o, e, x⟩ := h.at_ i hi
  obtain ⟨h0, h1, h2, _⟩ := triE_cells x
  exact ⟨b, o, e, h0, h1, h2⟩
theorem Sl.tri_ok {R : Nat → Prop} {w : World} {A : Option Addr} {l : List Tri} {cap : Nat} (h : Tris R w A l cap) (i : Nat) (hi : i < l.length) : TriOk l[i] := by
  obtain ⟨b, o, e, x⟩ := h.at_ i hi
  exact (triE_cells x).2.2.2

section
variable {H : Type} {enc : TypeId × Value → H}
theorem opensV_cell : OpensV enc Tryz.prog 77 triV :=
  opensV_struct3 (by decide) (by decide) Tryz.underlying77 rfl rfl rfl (by kernel_rfl) (by kernel_rfl) (opensV_int Tryz.underlying3 (by kernel_rfl) (by kernel_rfl)) (opensV_string Tryz.underlying9 (by kernel_rfl) (by kernel_rfl)) (opensV_int Tryz.underlying3 (by kernel_rfl) (by kernel_rfl))
theorem opensE_cell : OpensE enc Tryz.prog 77 3 TriE := opensE_of opensV_cell
theorem opensV_share : OpensV enc Tryz.prog 40 triV :=
  opensV_struct3 (by decide) (by decide) Tryz.underlying40 rfl rfl rfl (by kernel_rfl) (by kernel_rfl) (opensV_int Tryz.underlying3 (by kernel_rfl) (by kernel_rfl)) (opensV_string Tryz.underlying9 (by kernel_rfl) (by kernel_rfl)) (opensV_int Tryz.underlying3 (by kernel_rfl) (by kernel_rfl))
theorem opensE_share : OpensE enc Tryz.prog 40 3 TriE := opensE_of opensV_share
end

theorem below_any (a : Int) (f : ByteArray) (b : Int) (g : ByteArray) (w : World) : Calls Tryz.prog 22 #[.int .i64 a, .string f, .int .i64 b, .string g] w fun e w' => e = .returned (.bool (ltK a f b g)) ∧ w = w' := by
  by_cases h : a < b
  · rw [show ltK a f b g = true by unfold ltK; simp [h]]
    go_enter Tryz.func22, Tryz.ntmps22
    go_wp2
    go_ret
    exact ⟨rfl, rfl⟩
  by_cases h2 : a = b
  · subst h2
    rw [show ltK a f a g = Op.bytesLess f.toList g.toList by unfold ltK; simp]
    go_enter Tryz.func22, Tryz.ntmps22
    go_wp2
    go_ret
    exact ⟨rfl, rfl⟩
  · rw [show ltK a f b g = false by unfold ltK; simp [h, h2]]
    have hd : (a == b) = false := by simpa using h2
    go_enter Tryz.func22, Tryz.ntmps22
    go_wp2
    go_ret
    exact ⟨rfl, rfl⟩
end Go.Proofs.YtpmndblakmobdaaGreatDoor
/- HpB -/
namespace Go.Proofs.YtpmndblakmobdaaGreatDoor
open Go Go.RowKit

end Go.Proofs.YtpmndblakmobdaaGreatDoor
/- HpC -/
namespace Go.Proofs.YtpmndblakmobdaaGreatDoor
open Go Go.RowKit

def tZ : Tri := (0, ByteArray.empty, 0)
def ltT (x y : Tri) : Bool := ltK x.1 x.2.1 y.1 y.2.1
def okT (m : Tri) : Bool := decide (1 ≤ m.1) && decide (m.1 ≤ 4294967296) && decide (-4294967296 ≤ m.2.2) && decide (m.2.2 ≤ 4294967296)
def fineT (l : List Tri) (i : Nat) : Bool := okT (l.getD i tZ) && (decide (i = 0) || ltT (l.getD (i - 1) tZ) (l.getD i tZ))
/-- Are cells a sound heap? -/
def heapB (l : List Tri) : Bool := (List.range l.length).all (fineT l)
theorem heapB_no {l : List Tri} {i : Nat} (hi : i < l.length) (h : fineT l i = false) : heapB l = false := by
  unfold heapB
  rw [List.all_eq_false]
  exact ⟨i, List.mem_range.2 hi, by rw [h]; simp⟩
theorem heapB_yes {l : List Tri} (h : ∀ i, i < l.length → fineT l i = true) : heapB l = true := by
  unfold heapB
  rw [List.all_eq_true]
  exact fun i hi => h i (List.mem_range.1 hi)
theorem getD_at {l : List Tri} {i : Nat} (hi : i < l.length) : l.getD i tZ = l[i] := by rw [List.getD_eq_getElem?_getD, List.getElem?_eq_getElem hi]; rfl
def heapV (b : Bool) : Value := if b = true then .nilIface else .iface 83 (.int .i64 5)
theorem okT_no {m : Tri} (h : m.1 < 1 ∨ 4294967296 < m.1 ∨ m.2.2 < -4294967296 ∨ 4294967296 < m.2.2) : okT m = false := by
  unfold okT
  rcases h with h | h | h | h
  · rw [decide_eq_false (show ¬ 1 ≤ m.1 by omega)]; simp
  · rw [decide_eq_false (show ¬ m.1 ≤ 4294967296 by omega)]; simp
  · rw [decide_eq_false (show ¬ -4294967296 ≤ m.2.2 by omega)]; simp
  · rw [decide_eq_false (show ¬ m.2.2 ≤ 4294967296 by omega)]; simp
theorem okT_yes {m : Tri} (h1 : ¬ m.1 < 1) (h2 : ¬ 4294967296 < m.1) (h3 : ¬ m.2.2 < -4294967296) (h4 : ¬ 4294967296 < m.2.2) : okT m = true := by
  unfold okT
  simp only [Bool.and_eq_true, decide_eq_true_eq]
  omega

end Go.Proofs.YtpmndblakmobdaaGreatDoor
/- HpD -/
namespace Go.Proofs.YtpmndblakmobdaaGreatDoor
open Go Go.RowKit

abbrev zT : Value := .agg #[.int .i64 0, .string ByteArray.empty, .int .i64 0]
theorem sharesTy : SliceTy Tryz.prog 27 40 3 32 zT := ⟨Tryz.underlying27, by kernel_rfl, rfl, by decide, by decide⟩
theorem cellsTy : SliceTy Tryz.prog 26 77 3 32 zT := ⟨Tryz.underlying26, by kernel_rfl, rfl, by decide, by decide⟩
section
variable {P : Program} {α : Type} {V : ElV α} {t e : TypeId} {z : Value} {ops : Array Oper} {rest : List Oper} {o : Oper} {act : Act} {Q : Exit → Act → World → Prop}
/-- append(s, x), the block of the one element by its number. -/
theorem wpList_pushL' (g : V.Good) (T : SliceTy P t e V.sz V.bytes z) (hgd : o.guard = none) (s xo : Operand)
    (ho : o.op = .call { callee := .builtin .append, args := #[s, xo], argTypes := #[t, t] })
    {M R : Nat → Prop} {w : World} (hM : ∀ k, w.heap.size ≤ k → M k) {v : Value} {l : List α} (hown : OwnL V e M R w v l) (hs : act.eval s = v)
    {x : α} {cs : List Value} (hx : V (fun k => R k ∧ v.ownBlock ≠ some k) w cs x) (h1 : ∀ u ∈ cs, u.oneCell' = true) {e' : TypeId} {p : Nat} (hp : w.heap.size = p) (hxo : act.eval xo = .slice (some ⟨p, 0, none⟩) 1 1) (hbytes : (l.length + 1) * V.bytes ≤ 140737488355328)
    (h : ∀ A cap w', OwnL V e M R w' (.slice A (l.length + 1) cap) (l ++ [x]) → Chg (fun k => v.ownBlock = some k) w w' → wpList P ops Q rest (act.put o.dst (.slice A (l.length + 1) cap)) w') :
    wpList P ops Q (o :: rest) act (w.alloc (.cells cs.toArray e')) := by
  subst hp
  exact wpList_pushL g T hgd s xo ho hM hown hs hx h1 hxo hbytes h
/-- append(s, src...): s is the call's own. -/
theorem wpList_extendL (g : V.Good) (h1 : ∀ {R w cs x}, V R w cs x → ∀ u ∈ cs, u.oneCell' = true) (T : SliceTy P t e V.sz V.bytes z) (hgd : o.guard = none) (s xo : Operand)
    (ho : o.op = .call { callee := .builtin .append, args := #[s, xo], argTypes := #[t, t] })
    {M R : Nat → Prop} {w : World} (hM : ∀ k, w.heap.size ≤ k → M k) {v : Value} {l : List α} (hown : OwnL V e M R w v l) (hs : act.eval s = v)
    {Rs : Nat → Prop} {A : Option Addr} {l' : List α} {n cap : Nat} (hn : n = l'.length) (hl : Sl V.mem V.sz Rs w A l' cap) (hx : act.eval xo = .slice A n cap) (hsub : ∀ k, k < w.heap.size → Rs k → R k ∧ v.ownBlock ≠ some k)
    (hbytes : (l.length + l'.length) * V.bytes ≤ 140737488355328)
    (h : ∀ A cap w', OwnL V e M R w' (.slice A (l.length + l'.length) cap) (l ++ l') → Chg (fun k => v.ownBlock = some k) w w' → wpList P ops Q rest (act.put o.dst (.slice A (l.length + l'.length) cap)) w') :
    wpList P ops Q (o :: rest) act w := by
  subst hn
  obtain ⟨C, ho1, hlC, hv⟩ := hown
  obtain ⟨C', hC1, hC2, hC3, hC4⟩ := hl.cellsOf
  have post : ∀ A2 cap2 w', Own M e V.sz w' (.slice A2 (l.length + l'.length) cap2) (l.length + l'.length) (C.flatten ++ C'.flatten) → Chg (fun k => v.ownBlock = some k) w w' →
      ((Value.slice A2 (l.length + l'.length) cap2).ownBlock = v.ownBlock ∨ ∀ k, (Value.slice A2 (l.length + l'.length) cap2).ownBlock = some k → w.heap.size ≤ k) → OwnL V e M R w' (.slice A2 (l.length + l'.length) cap2) (l ++ l') := fun A2 cap2 w' g1 g2 g3 => by
    have keep : ∀ {cs : List Value} {x : α}, V (fun k => R k ∧ v.ownBlock ≠ some k) w cs x → V (fun k => R k ∧ (Value.slice A2 (l.length + l'.length) cap2).ownBlock ≠ some k) w' cs x := by
      intro cs x hs
      have h1 := g.mono hs (R' := fun k => (R k ∧ v.ownBlock ≠ some k) ∧ (Value.slice A2 (l.length + l'.length) cap2).ownBlock ≠ some k) (fun k hk hR => ⟨hR, by
        rcases g3 with g3 | g3
        · rw [g3]; exact hR.2
        · intro e; have := g3 k e; omega⟩)
      have h2 := g.chg h1 g2 (fun k hk hs => hk.1.2 hs)
      exact g.mono h2 (fun k _ hk => ⟨hk.1.1, hk.2⟩)
    refine ⟨C ++ C', by rw [List.flatten_append, List.length_append]; exact g1, by simp [hlC, hC1], fun i hi hi' => ?_⟩
    by_cases hlt : i < l.length
    · rw [List.getElem_append_left (by omega), List.getElem_append_left hlt]; exact keep (hv i hlt (by omega))
    · have hi2 : i - l.length < l'.length := by simp at hi; omega
      rw [List.getElem_append_right (by omega), List.getElem_append_right (by omega)]
      have e : i - C.length = i - l.length := by omega
      simp only [e]
      exact keep (g.mono (hC3 _ hi2 (by omega)) (fun k hk hR => hsub k hk hR))
  cases A with
  | none =>
    have h0 : l' = [] := List.eq_nil_of_length_eq_zero (by have := hl.le; have := hl.nil rfl; omega)
    subst h0
    have hC0 : C' = [] := List.eq_nil_of_length_eq_zero (by simpa using hC1)
    subst hC0
    obtain ⟨A2, cap2, rfl, _⟩ := ho1.value
    refine wpList_plain hgd fun _ hK => ?_
    have hrun := run_append_none (P := P) T o.type ho1 cap
    unfold Oper.wp execOp
    simp only [ho, resolve, invoke, builtin, Sem.run_bind, Sem.run_pure, Result.andThen_ok, List.map_toArray, List.map_cons, List.map_nil, hs, hx, List.length_nil, hrun]
    exact hK _ _ (h A2 cap2 w (post A2 cap2 w (by simpa using ho1) (Chg.refl _ _) (.inl rfl)) (Chg.refl _ _))
  | some a =>
    refine wpList_append_Own T hgd s xo ho hM ho1 hs (a := a) (m := l'.length) (c := cap) (news := C'.flatten) hx (by rw [flatten_length hC2, hC1]) (fun j u hj => ?_) (fun u hu => ?_) hbytes (fun A2 cap2 w' g1 g2 g3 => ?_)
    · rcases hC4 with h0 | ⟨b, o, hA, hcell⟩
      · subst h0
        have : C' = [] := List.eq_nil_of_length_eq_zero (by simpa using hC1)
        subst this; simp at hj
      · injection hA with hA
        rw [hA, addr_add]
        exact hcell j u hj
    · obtain ⟨c, hcC, huc⟩ := List.mem_flatten.1 hu
      obtain ⟨i, hi, rfl⟩ := List.getElem_of_mem hcC
      exact h1 (hC3 i (by omega) hi) u huc
    · refine h A2 cap2 w' (post A2 cap2 w' g1 g2 ?_) g2
      rcases g3 with g3 | g3
      · exact .inl g3
      · exact .inr (fun k hk => by rw [g3] at hk; injection hk with hk; omega)
end

end Go.Proofs.YtpmndblakmobdaaGreatDoor
/- StsM1 -/
namespace Go.Proofs.YtpmndblakmobdaaGreatDoor
open Go Go.RowKit Go.Lib Go.Sort Go.Proofs

variable {P : Program} {k : Nat} {α : Type} [Inhabited α]

end Go.Proofs.YtpmndblakmobdaaGreatDoor
/- StsM2 -/
namespace Go.Proofs.YtpmndblakmobdaaGreatDoor
open Go Go.RowKit Go.Lib Go.Sort Go.Proofs
variable {P : Program} {k : Nat} {α : Type} [Inhabited α]

/-- What is asked of the comparison: in whatever world it hands back one plain function's number; it may draw, it may lay blocks. -/
def CmpAnyS (P : Program) (g : Nat) (cb : Array Value) (enc : α → List Value) (cf : α → α → Int) : Prop :=
  ∀ (x y : α) (W : World), Calls P g (#[.agg (enc x).toArray, .agg (enc y).toArray] ++ cb) W fun e w' => e = .returned (.int .i64 (cf x y)) ∧ ∃ q os', w' = grow (W.drewN q) os'

omit [Inhabited α] in
theorem CmpAnyS.grown {g : Nat} {cb : Array Value} {enc : α → List Value} {cf : α → α → Int} (h : CmpAnyS P g cb enc cf) (x y : α) (W : World) (n : Nat) (os : Array Obj) :
    Calls P g (#[.agg (enc x).toArray, .agg (enc y).toArray] ++ cb) (grow (W.drewN n) os) fun e w' => e = .returned (.int .i64 (cf x y)) ∧ ∃ q os', w' = grow ((grow (W.drewN n) os).drewN q) os' := h x y _

end Go.Proofs.YtpmndblakmobdaaGreatDoor
/- StsM3 -/
namespace Go.Proofs.YtpmndblakmobdaaGreatDoor
open Go Go.RowKit Go.Lib Go.Sort Go.Proofs
variable {P : Program} {k : Nat} {α : Type} [Inhabited α]

end Go.Proofs.YtpmndblakmobdaaGreatDoor
/- StsM4 -/
namespace Go.Proofs.YtpmndblakmobdaaGreatDoor
open Go Go.RowKit Go.Lib Go.Sort Go.Proofs
variable {P : Program} {k : Nat} {α : Type} [Inhabited α]

/-- A test 'x < y && u < v' has been made. -/
def TestLtS (x y u v : Nat) (s : Value) : Prop := ∃ t : Bool, s = .bool t ∧ (t = true → x < y ∧ u < v) ∧ (t = false → ¬ x < y ∨ ¬ u < v)
theorem TestLtS.yes {x y u v : Nat} (h1 : x < y) (h2 : u < v) : TestLtS x y u v (.bool true) := ⟨true, rfl, fun _ => ⟨h1, h2⟩, (fun h => by cases h)⟩
theorem TestLtS.no {x y u v : Nat} (h : ¬ x < y ∨ ¬ u < v) : TestLtS x y u v (.bool false) := ⟨false, rfl, (fun h => by cases h), fun _ => h⟩

end Go.Proofs.YtpmndblakmobdaaGreatDoor
/- StsM5 -/
namespace Go.Proofs.YtpmndblakmobdaaGreatDoor
open Go Go.RowKit Go.Lib Go.Sort Go.Proofs
variable {P : Program} {k : Nat} {α : Type} [Inhabited α]

end Go.Proofs.YtpmndblakmobdaaGreatDoor
/- HpE -/
namespace Go.Proofs.YtpmndblakmobdaaGreatDoor
open Go Go.RowKit Go.Sort Go.Lib Go.Proofs

theorem ltT_irrefl (x : Tri) : ltT x x = false := ltK_irrefl _ _
theorem ltT_trans {x y z : Tri} (h1 : ltT x y = true) (h2 : ltT y z = true) : ltT x z = true := ltK_trans h1 h2
def eqT (x y : Tri) : Bool := eqK x.1 x.2.1 y.1 y.2.1
theorem ltT_tri {x y : Tri} (h1 : ltT x y = false) (h2 : ltT y x = false) : eqT x y = true := ltK_tri h1 h2
theorem ltT_ntrans {x y z : Tri} (h1 : ltT x y = false) (h2 : ltT y z = false) : ltT x z = false := by
  cases h3 : ltT x z
  · rfl
  · cases h4 : ltT y x
    · have e := ltT_tri h1 h4
      have : ltT x z = ltT y z := eqK_lt e
      rw [this, h2] at h3; cases h3
    · have := ltT_trans h4 h3
      rw [h2] at this; cases this

structure VTri where
  val : Tri
  ok : TriOk val
instance : Inhabited VTri := ⟨⟨(0, ByteArray.empty, 0), by unfold I64; decide, by decide, by unfold I64; decide⟩⟩
def encT (m : VTri) : List Value := [.int .i64 m.1.1, .string m.1.2.1, .int .i64 m.1.2.2]
def cmpT (x y : VTri) : Int := ordK x.1.1 x.1.2.1 y.1.1 y.1.2.1
theorem cmpT_lt (x y : VTri) : ltOf cmpT x y = ltT x.1 y.1 := by
  unfold ltOf
  rw [Bool.eq_iff_iff, decide_eq_true_eq]
  exact ordK_neg
theorem cmpT_swo : SWO (ltOf cmpT) where
  irrefl x := by rw [cmpT_lt]; exact ltT_irrefl _
  trans x y z h1 h2 := by rw [cmpT_lt] at *; exact ltT_trans h1 h2
  ntrans x y z h1 h2 := by rw [cmpT_lt] at *; exact ltT_ntrans h1 h2

theorem chg_of_SWKS {α : Type} [Inhabited α] {enc : α → List Value} {k : Nat} {w W : World} {blk off : Nat} {d : Array α} (h : SWK enc k w blk off d W) : Chg (fun j => j = blk) w W := by
  obtain ⟨n, os, rfl⟩ := h
  refine ⟨rfl, rfl, rfl, ?_, fun j hj hne => ?_⟩
  · unfold sortWorldK
    rw [size_grow]
    unfold putRowK putRow mapBlock
    simp
  · unfold sortWorldK
    rw [heap_grow_old _ _ (by unfold putRowK putRow mapBlock; simpa [ahead] using hj)]
    unfold putRowK putRow mapBlock
    simp [Array.getElem?_modify, Ne.symm hne]

abbrev OTris (e : TypeId) (M : Nat → Prop) (w : World) (v : Value) (l : List Tri) : Prop := OwnL triV e M No w v l
theorem OTris.tris {e : TypeId} {M : Nat → Prop} {w : World} {A : Option Addr} {n cap : Nat} {l : List Tri} (h : OTris e M w (.slice A n cap) l) (hb : l.length * 32 ≤ big) : Tris M w A l cap :=
  (OwnL.sl_of triV_good h hb).2.mono triE_good (fun _ _ hk => hk.elim id (fun f => f.elim))
theorem OTris.of {e : TypeId} {M R : Nat → Prop} {w : World} {v : Value} {l : List Tri} (h : OwnL triV e M R w v l) : OTris e M w v l := by
  obtain ⟨C, h1, h2, h3⟩ := h
  exact ⟨C, h1, h2, fun i hi hi' => tri_any (h3 i hi hi')⟩
theorem OTris.ok {e : TypeId} {M : Nat → Prop} {w : World} {v : Value} {l : List Tri} (h : OTris e M w v l) : ∀ m ∈ l, TriOk m := fun m hm => by
  obtain ⟨i, hi, rfl⟩ := List.getElem_of_mem hm
  obtain ⟨C, _, h2, h3⟩ := h
  exact (tri_cells (h3 i hi (by omega))).2

/-- The row of terms. -/
theorem tris_of_holds {M : Nat → Prop} {W : World} {blk off cap : Nat} {d : Array VTri} (h : HoldsK encT 3 W blk off d) (hM : M blk) (hcap : d.size ≤ cap) (hmax : cap ≤ maxLen) (hroom : d.size * 32 ≤ big) :
    Tris M W (some ⟨blk, off, none⟩) (d.toList.map (·.1)) cap := by
  refine ⟨by simpa using hcap, hmax, by rw [List.length_map, Array.length_toList]; exact hroom, (fun h => by cases h), fun i hi => ⟨blk, off, rfl, ?_⟩⟩
  have hi' : i < d.size := by simpa using hi
  have h0 := (HoldsK.cell h hi' (show 0 < 3 by decide)).1
  have h1 := (HoldsK.cell h hi' (show 1 < 3 by decide)).1
  have h2 := (HoldsK.cell h hi' (show 2 < 3 by decide)).1
  have e : d[i]! = d[i] := getElem!_pos d i hi'
  rw [e] at h0 h1 h2
  rw [List.getElem_map, Array.getElem_toList]
  refine ⟨hM, encT d[i], rfl, fun j u hj => ?_, ?_⟩
  · match j with
    | 0 => simp [encT] at hj; subst hj; simpa [encT] using h0
    | 1 => simp [encT] at hj; subst hj; simpa [encT] using h1
    | 2 => simp [encT] at hj; subst hj; simpa [encT] using h2
    | j + 3 => simp [encT] at hj
  · exact tri_of d[i].2.1 d[i].2.2.1 d[i].2.2.2

theorem holds_of_ownS {M : Nat → Prop} {w : World} {blk off cap : Nat} {l : List Tri} (h : OTris 40 M w (.slice (some ⟨blk, off, none⟩) l.length cap) l) (hv : ∀ m ∈ l, TriOk m) :
    ∃ d : Array VTri, d.size = l.length ∧ d.toList.map (·.1) = l ∧ HoldsK encT 3 w blk off d ∧ blk < w.heap.size ∧ M blk ∧ l.length ≤ cap ∧ cap ≤ maxLen := by
  obtain ⟨C, ⟨hlen, ho⟩, hl, hC⟩ := h
  rcases ho with ⟨e, _⟩ | ⟨g, o, cap', cur, e, hM, hg, h1, h2, h3, h4⟩
  · cases e
  injection e with e1 e2 e3
  injection e1 with e1
  injection e1 with e1 e4
  subst e1; subst e4; subst e3
  refine ⟨(l.pmap VTri.mk hv).toArray, by simp, by rw [List.map_pmap]; simp, fun t ht => ?_, (Array.getElem?_eq_some_iff.1 hg).1, hM, h1, h2⟩
  simp only [size_flatK, List.size_toArray, List.length_pmap] at ht
  rw [get_flatK _ _ _ _ (by simpa using ht)]
  have hi : t / 3 < l.length := by omega
  have hCl : ∀ c ∈ C, c.length = 3 := fun c hc => by
    obtain ⟨i, hi, rfl⟩ := List.getElem_of_mem hc
    exact triV_good.len (hC i (by omega) hi)
  have hcc := (tri_cells (hC (t / 3) hi (by omega))).1
  have ed : (l.pmap VTri.mk hv).toArray[t / 3]! = ⟨l[t / 3], hv _ (List.getElem_mem hi)⟩ := by
    rw [getElem!_pos _ _ (by simpa using hi)]
    simp
  rw [ed]
  have hget : C.flatten[t]? = some (encT ⟨l[t / 3], hv _ (List.getElem_mem hi)⟩)[t % 3]! := by
    have h5 := flatten_get hCl (t / 3) (by omega) (t % 3) (Nat.mod_lt _ (by decide))
    rw [show t / 3 * 3 + t % 3 = t by omega, hcc] at h5
    rw [h5]
    unfold encT
    have h6 : t % 3 = 0 ∨ t % 3 = 1 ∨ t % 3 = 2 := by omega
    rcases h6 with h6 | h6 | h6 <;> rw [h6] <;> rfl
  refine ⟨?_, by simp [World.frozen?, hg]⟩
  simp only [World.cell?, hg]
  simpa using h4 t _ hget

theorem sorted_pairsS {d : Array VTri} (h : SortedIn (ltOf cmpT) 0 d.size d) : (d.toList.map (·.1)).Pairwise fun a b => ltT b a = false := by
  rw [List.pairwise_iff_getElem]
  intro i j hi hj hij
  have hi' : i < d.size := by simpa using hi
  have hj' : j < d.size := by simpa using hj
  have := h i j (Nat.zero_le _) hij hj'
  rw [getElem!_pos d i hi', getElem!_pos d j hj', cmpT_lt] at this
  simp only [List.getElem_map, Array.getElem_toList]
  exact this

end Go.Proofs.YtpmndblakmobdaaGreatDoor
/- HpF -/
namespace Go.Proofs.YtpmndblakmobdaaGreatDoor
open Go Go.RowKit

def enc3 (m : Tri) : List Value := [.int .i64 m.1, .string m.2.1, .int .i64 m.2.2]
def encL (l : List Tri) : List Value := (l.map enc3).flatten
theorem encL_len3 (l : List Tri) : ∀ c ∈ l.map enc3, c.length = 3 := fun c hc => by
  obtain ⟨m, _, rfl⟩ := List.mem_map.1 hc
  rfl
theorem encL_length (l : List Tri) : (encL l).length = l.length * 3 := by
  unfold encL
  rw [flatten_length (encL_len3 l), List.length_map]
theorem encL_get {l : List Tri} {i j : Nat} (hi : i < l.length) (hj : j < 3) : (encL l)[i * 3 + j]? = (enc3 l[i])[j]? := by
  unfold encL
  rw [flatten_get (encL_len3 l) i (by simpa using hi) j hj]
  simp
theorem encL_set {l : List Tri} {i : Nat} (m : Tri) (t : Nat) (ht : t < l.length * 3) : (encL (l.set i m))[t]? = if t / 3 = i then (enc3 m)[t % 3]? else (encL l)[t]? := by
  have hi : t / 3 < l.length := by omega
  have e : t / 3 * 3 + t % 3 = t := by omega
  have h1 := encL_get (l := l.set i m) (i := t / 3) (j := t % 3) (by simpa using hi) (by omega)
  have h2 := encL_get (l := l) (i := t / 3) (j := t % 3) hi (by omega)
  rw [e] at h1 h2
  rw [h1, h2, List.getElem_set]
  by_cases h : i = t / 3
  · rw [if_pos h, if_pos h.symm]
  · rw [if_neg h, if_neg (fun h' => h h'.symm)]
theorem OTris.iff {e : TypeId} {M : Nat → Prop} {w : World} {v : Value} {l : List Tri} : OTris e M w v l ↔ Own M e 3 w v l.length (encL l) ∧ ∀ m ∈ l, TriOk m := by
  constructor
  · intro h
    refine ⟨?_, h.ok⟩
    obtain ⟨C, h1, h2, h3⟩ := h
    have : C = l.map enc3 := by
      apply List.ext_getElem (by simpa using h2)
      intro i hi hi'
      rw [List.getElem_map]
      exact (tri_cells (h3 i (by omega) hi)).1
    rw [this] at h1
    exact h1
  · rintro ⟨h1, h2⟩
    refine ⟨l.map enc3, h1, by simp, fun i hi hi' => ?_⟩
    rw [List.getElem_map]
    have := h2 _ (List.getElem_mem hi)
    exact tri_of this.1 this.2.1 this.2.2
/-- A store to an owned row. -/
theorem Own.put {M : Nat → Prop} {e : TypeId} {sz n cap g o : Nat} {w : World} {xs : List Value} (h : Own M e sz w (.slice (some ⟨g, o, none⟩) n cap) n xs) {j : Nat} (hj : j < xs.length) (u : Value) :
    w.frozen? ⟨g, o + j, none⟩ = false ∧ w.cell? ⟨g, o + j, none⟩ = some xs[j] ∧ M g ∧ Own M e sz (w.setCell ⟨g, o + j, none⟩ u) (.slice (some ⟨g, o, none⟩) n cap) n (xs.set j u) := by
  rcases h.2 with ⟨e, _⟩ | ⟨g', o', cap', cur, e, hM, hg, h1, h2, h3, h4⟩
  · cases e
  injection e with e1 e2 e3
  injection e1 with e1
  injection e1 with e1 e4
  subst e1; subst e4; subst e3
  have hlt : g < w.heap.size := (Array.getElem?_eq_some_iff.1 hg).1
  have hjo : o + j < cur.size := by
    have := h4 j _ (List.getElem?_eq_getElem hj)
    exact (Array.getElem?_eq_some_iff.1 this).1
  refine ⟨by simp [World.frozen?, hg], by simp only [World.cell?, hg]; simpa using h4 j _ (List.getElem?_eq_getElem hj), hM, by rw [List.length_set]; exact h.1, .inr ⟨g, o, cap, cur.setIfInBounds (o + j) u, rfl, hM, ?_, h1, h2, by simpa using h3, fun t x ht => ?_⟩⟩
  · simp [World.setCell, Array.getElem?_modify, hg]
  · rw [List.getElem?_set] at ht
    rw [Array.getElem?_setIfInBounds]
    by_cases hjt : j = t
    · subst hjt
      rw [if_pos rfl, if_pos hj] at ht
      rw [if_pos rfl, if_pos hjo]
      exact ht
    · rw [if_neg hjt] at ht
      rw [if_neg (by omega)]
      exact h4 t x ht
theorem OTris.setN {e : TypeId} {M : Nat → Prop} {w : World} {g o n cap : Nat} {l : List Tri} (h : OTris e M w (.slice (some ⟨g, o, none⟩) n cap) l) (hn : n = l.length) (i : Nat) (hi : i < l.length) {z : Int} (hz : I64 z) :
    w.frozen? ⟨g, o + i * 3 + 2, none⟩ = false ∧ M g ∧ OTris e M (w.setCell ⟨g, o + i * 3 + 2, none⟩ (.int .i64 z)) (.slice (some ⟨g, o, none⟩) n cap) (l.set i (l[i].1, l[i].2.1, z)) := by
  subst hn
  obtain ⟨h1, h2⟩ := OTris.iff.1 h
  obtain ⟨f, _, hM, h3⟩ := h1.put (j := i * 3 + 2) (by rw [encL_length]; omega) (.int .i64 z)
  rw [← Nat.add_assoc] at f h3
  refine ⟨f, hM, OTris.iff.2 ⟨?_, fun m hm => ?_⟩⟩
  · rw [List.length_set]
    have : (encL l).set (i * 3 + 2) (Value.int .i64 z) = encL (l.set i (l[i].1, l[i].2.1, z)) := by
      apply List.ext_getElem?
      intro t
      by_cases ht : t < l.length * 3
      · rw [encL_set _ t ht, List.getElem?_set, encL_length]
        by_cases h5 : t / 3 = i
        · rw [if_pos h5]
          subst h5
          have h6 := encL_get (l := l) (i := t / 3) (j := t % 3) hi (by omega)
          rw [show t / 3 * 3 + t % 3 = t by omega] at h6
          have h7 : t % 3 = 0 ∨ t % 3 = 1 ∨ t % 3 = 2 := by omega
          rcases h7 with h7 | h7 | h7 <;> rw [h7] at h6 ⊢
          · rw [if_neg (by omega), h6]; rfl
          · rw [if_neg (by omega), h6]; rfl
          · rw [if_pos (by omega), if_pos (by omega)]; rfl
        · rw [if_neg h5, if_neg (by omega)]
      · rw [List.getElem?_eq_none (by rw [List.length_set, encL_length]; omega), List.getElem?_eq_none (by rw [encL_length, List.length_set]; omega)]
    rw [← this]
    exact h3
  · rcases List.mem_or_eq_of_mem_set hm with hm | rfl
    · exact h2 m hm
    · exact ⟨(h2 _ (List.getElem_mem hi)).1, (h2 _ (List.getElem_mem hi)).2.1, hz⟩

/-- What stands side by side together. -/
def addN (x y : Int) : Int := wrap64 (x + y)
theorem addN_ok (x y : Int) : I64 (addN x y) := by unfold addN wrap64 I64; omega
def mrg1 (o : List Tri) (s : Tri) : List Tri := match o.getLast? with
  | some t => if eqT t s = true then o.dropLast ++ [(t.1, t.2.1, addN t.2.2 s.2.2)] else o ++ [s]
  | none => [s]
def mrg (l : List Tri) : List Tri := l.foldl mrg1 []
theorem mrg_take {s : List Tri} {k : Nat} (hk : k < s.length) {o : List Tri} (h : mrg (s.take k) = o) : mrg (s.take (k + 1)) = mrg1 o s[k] := by
  rw [List.take_succ_eq_append_getElem hk]
  unfold mrg at *
  rw [List.foldl_append, h]
  rfl
theorem mrg1_nil (s : Tri) : mrg1 [] s = [s] := rfl
theorem mrg1_ne {o : List Tri} {r : Nat} (hr : o.length = r + 1) {s t : Tri} (ht : ∀ h : r < o.length, o[r] = t) (h : eqT t s = false) : mrg1 o s = o ++ [s] := by
  have : o.getLast? = some t := by rw [List.getLast?_eq_getElem?, hr, Nat.add_sub_cancel, List.getElem?_eq_getElem (by omega), ht]
  unfold mrg1
  rw [this]
  simp [h]
theorem mrg1_eq {o : List Tri} {r : Nat} (hr : o.length = r + 1) {s t : Tri} (ht : ∀ h : r < o.length, o[r] = t) (h : eqT t s = true) : mrg1 o s = o.set r (t.1, t.2.1, addN t.2.2 s.2.2) := by
  have : o.getLast? = some t := by rw [List.getLast?_eq_getElem?, hr, Nat.add_sub_cancel, List.getElem?_eq_getElem (by omega), ht]
  unfold mrg1
  rw [this]
  simp only [h, if_true]
  apply List.ext_getElem?
  intro i
  rw [List.getElem?_set, List.getElem?_append, List.length_dropLast, hr, Nat.add_sub_cancel]
  by_cases hi : i < r
  · rw [if_pos hi, if_neg (by omega), List.getElem?_dropLast, if_pos (by omega)]
  · by_cases h2 : r = i
    · subst h2
      rw [if_neg hi, if_pos rfl, if_pos (by omega)]
      simp
    · rw [if_neg hi, if_neg h2, List.getElem?_eq_none (by simp; omega), List.getElem?_eq_none (by omega)]
theorem mrg1_len (o : List Tri) (s : Tri) : (mrg1 o s).length ≤ o.length + 1 := by
  unfold mrg1
  split
  · split
    · simp
    · simp
  · simp
theorem mrg_len (l : List Tri) : (mrg l).length ≤ l.length := by
  have h : ∀ (l o : List Tri), (l.foldl mrg1 o).length ≤ o.length + l.length := by
    intro l
    induction l with
    | nil => intro o; simp
    | cons a t ih => intro o; have := ih (mrg1 o a); have := mrg1_len o a; simp only [List.foldl_cons, List.length_cons]; omega
  have := h l []
  simpa [mrg] using this

theorem obj3 {w : World} {b : Nat} {x y z : Value} {t : TypeId} (h : w.heap[b]? = some (.cells #[x, y, z] t (0, 0))) : w.cell? ⟨b, 0, none⟩ = some x ∧ w.cell? ⟨b, 1, none⟩ = some y ∧ w.cell? ⟨b, 2, none⟩ = some z := by
  simp [World.cell?, h]

end Go.Proofs.YtpmndblakmobdaaGreatDoor
/- HpG -/
namespace Go.Proofs.YtpmndblakmobdaaGreatDoor
open Go Go.RowKit

def stepA (s : Tri) (acc : List Tri × Bool) (x : Tri) : List Tri × Bool :=
  if eqT x s = true then (acc.1 ++ [(s.1, s.2.1, addN x.2.2 s.2.2)], true)
  else if acc.2 = false ∧ ltT s x = true then (acc.1 ++ [s] ++ [x], true)
  else (acc.1 ++ [x], acc.2)
def foldA (s : Tri) (l : List Tri) : List Tri × Bool := l.foldl (stepA s) ([], false)
def addS (l : List Tri) (s : Tri) : List Tri := if (foldA s l).2 = true then (foldA s l).1 else (foldA s l).1 ++ [s]
theorem foldA_take {s : Tri} {l : List Tri} {k : Nat} (hk : k < l.length) {r : List Tri × Bool} (h : foldA s (l.take k) = r) : foldA s (l.take (k + 1)) = stepA s r l[k] := by
  rw [List.take_succ_eq_append_getElem hk]
  unfold foldA at *
  rw [List.foldl_append, h]
  rfl
theorem stepA_len (s : Tri) (a : List Tri × Bool) (x : Tri) : (stepA s a x).1.length ≤ a.1.length + 2 := by
  unfold stepA
  split
  · simp
  · split
    · simp
    · simp
theorem foldA_len (s : Tri) : ∀ l : List Tri, (foldA s l).1.length ≤ 2 * l.length := by
  have h : ∀ (l : List Tri) (a : List Tri × Bool), (l.foldl (stepA s) a).1.length ≤ a.1.length + 2 * l.length := by
    intro l
    induction l with
    | nil => intro a; simp
    | cons x t ih => intro a; have := ih (stepA s a x); have := stepA_len s a x; simp only [List.foldl_cons, List.length_cons]; omega
  intro l
  have := h l ([], false)
  simpa [foldA] using this

set_option maxRecDepth 100000 in
set_option maxHeartbeats 8000000 in
theorem refAdd_any {R : Nat → Prop} {w : World} {A : Option Addr} {l : List Tri} {cap : Nat} (hl : Tris R w A l cap) (x : Int) (f : ByteArray) (z : Int) (hs : TriOk (x, f, z)) (hlen : l.length ≤ 100000) :
    Calls Tryz.prog 23 #[.slice A l.length cap, .agg #[.int .i64 x, .string f, .int .i64 z]] w fun e w' => ∃ A' cap', e = .returned (.slice A' (addS l (x, f, z)).length cap') ∧ OTris 40 (fun k => w.heap.size ≤ k) w' (.slice A' (addS l (x, f, z)).length cap') (addS l (x, f, z)) ∧ Chg No w w' := by
  have HL := Lib.hid (fun W (h : Chg No w W) => hl.no triE_good h)
  have HOK := Lib.hid hs
  have HB := Lib.hid below_any
  clear hl hs
  go_enter Tryz.func23, Tryz.ntmps23
  go_upto_region 4 with fail
  obtain ⟨wA, hwA⟩ : ∃ wA, wA = w.alloc (.cells #[.int .i64 x, .string f, .int .i64 z] 40) := ⟨_, rfl⟩
  obtain ⟨q, hq⟩ : ∃ q, q = w.heap.size := ⟨_, rfl⟩
  have hob : Hid (wA.heap[q]? = some (.cells #[.int .i64 x, .string f, .int .i64 z] 40 (0, 0))) := by rw [hwA, hq]; exact heap_alloc_new _ _
  have HA : Hid (Chg No w wA) := by rw [hwA]; exact (Chg.refl _ _).alloc _
  rw [← hwA, ← hq]
  clear hwA hq
  go_loopw [5, 6, 7] (fun s5 s6 s7 wr => ∃ (k n cap : Nat) (Ao : Option Addr) (o : List Tri) (d : Bool), s7 = .int .i64 k ∧ s6 = .bool d ∧ s5 = .slice Ao n cap ∧ k ≤ l.length ∧ Hid (n = o.length) ∧ Hid (Chg No wA wr) ∧ Hid (OTris 40 (fun j => wA.heap.size ≤ j) wr (.slice Ao n cap) o) ∧ Hid (foldA (x, f, z) (l.take k) = (o, d))) (fun _ _ s7 _ => l.length - (intOf s7).toNat)
  case atStart => exact ⟨0, 0, 0, none, [], false, rfl, rfl, rfl, Nat.zero_le _, rfl, Chg.refl _ _, OwnL.nil _ _ _ _ _, rfl⟩
  case round =>
    obtain ⟨k, n, cap, Ao, o, d, rfl, rfl, rfl, hks, hn, H1, H2, hI⟩ := hrel
    obtain ⟨n0, n1, n2⟩ := obj3 (H1.out.obj hob.out id)
    have HOL : Hid (o.length ≤ 200000) := by
      have h1 := foldA_len (x, f, z) (l.take k)
      rw [hI.out, List.length_take] at h1
      simp only at h1
      unfold Hid
      omega
    have HLB : Hid ((o.length + 1) * 32 ≤ 140737488355328) := by have := HOL.out; unfold Hid; omega
    have HLB2 : Hid (((o ++ [(x, f, z)]).length + 1) * 32 ≤ 140737488355328) := by have := HOL.out; unfold Hid; simp; omega
    have HMM : Hid (∀ d j, (wr.drewN d).heap.size ≤ j → wA.heap.size ≤ j) := fun d j hj => Nat.le_trans H1.out.size hj
    by_cases hlt : k < l.length
    · obtain ⟨b, off, hA, c0, c1, c2⟩ := (HL.out wr (HA.out.thenNo H1.out)).tri_at k hlt
      have HMO := Lib.hid ((HL.out wr (HA.out.thenNo H1.out)).tri_ok k hlt)
      have HNX := Lib.hid (foldA_take hlt hI.out)
      have HBL : Hid (b < wA.heap.size) := by
        obtain ⟨b', o', e, d0, _⟩ := (HL.out w (Chg.refl _ _)).tri_at k hlt
        rw [hA] at e
        simp only [Option.some.injEq, Addr.mk.injEq, and_true] at e
        have := cell_lt d0
        have := HA.out.size
        unfold Hid
        omega
      subst hA
      generalize l[k] = m at *
      obtain ⟨x', f', z'⟩ := m
      dsimp only at c0 c1 c2
      have HQ : Hid (q < wA.heap.size) := (Array.getElem?_eq_some_iff.1 hob.out).1
      by_cases heq : x' = x ∧ (f'.toList == f.toList) = true
      · obtain ⟨hx, hf⟩ := heq
        have hdx : (x' == x) = true := by simpa using hx
        have HR : Hid (foldA (x, f, z) (l.take (k + 1)) = (o ++ [(x, f, addN z' z)], true)) := HNX.out.trans (by unfold stepA; rw [if_pos (show eqT (x', f', z') (x, f, z) = true by show eqK x' f' x f = true; unfold eqK; rw [hf]; simp [hx])])
        have hw : IntKind.i64.wrap (z' + z) = addN z' z := by rw [IntKind.wrap_i64]; unfold addN wrap64; omega
        have HZ := Lib.hid (addN_ok z' z)
        generalize addN z' z = zz at *
        clear hx HNX
        have HCH : Hid (∀ d, Chg No wA (wr.drewN d)) := fun d => H1.out.drewN d
        have HOW : Hid (∀ d, OTris 40 (fun j => wA.heap.size ≤ j) (wr.drewN d) (.slice Ao n cap) o) := fun d => H2.out.no triV_good ((Chg.refl _ _).drewN d)
        have HE : Hid (∀ d, (wr.drewN d).cell? ⟨q, 0, none⟩ = some (.int .i64 x) ∧ (wr.drewN d).cell? ⟨q, 1, none⟩ = some (.string f) ∧ (wr.drewN d).cell? ⟨q, 2, none⟩ = some (.int .i64 z)) := fun d => ⟨n0, n1, n2⟩
        have HM : Hid (∀ d, (wr.drewN d).cell? ⟨b, off + k * 3, none⟩ = some (.int .i64 x') ∧ (wr.drewN d).cell? ⟨b, off + k * 3 + 1, none⟩ = some (.string f') ∧ (wr.drewN d).cell? ⟨b, off + k * 3 + 2, none⟩ = some (.int .i64 z')) := fun d => ⟨c0, c1, c2⟩
        go_upto_region 6 with fail
        go_quiet (fail)
        have H1' := Lib.hid (HCH.out nq)
        have H2' := Lib.hid (HOW.out nq)
        clear n0 n1 n2 c0 c1 c2 HCH HOW H1 H2
        have H1 := H1'
        have H2 := H2'
        clear H1' H2'
        obtain ⟨n0, n1, n2⟩ := HE.out nq
        obtain ⟨c0, c1, c2⟩ := HM.out nq
        clear HE HM
        generalize wr.drewN nq = wq at *
        have hM3 : Hid (∀ j, wq.heap.size ≤ j → wA.heap.size ≤ j) := fun j hj => Nat.le_trans H1.out.size hj
        have HK : Hid (∀ w7, Chg (fun k => (Value.slice Ao n cap).ownBlock = some k) wq w7 → w7.cell? ⟨q, 0, none⟩ = some (.int .i64 x) ∧ w7.cell? ⟨q, 1, none⟩ = some (.string f) ∧ w7.cell? ⟨q, 2, none⟩ = some (.int .i64 z) ∧ w7.cell? ⟨b, off + k * 3 + 2, none⟩ = some (.int .i64 z')) := fun w7 h => by
          have e1 : (Value.slice Ao n cap).ownBlock ≠ some q := fun e => by have := (H2.out.mine _ e).1; have := HQ.out; omega
          have e2 : (Value.slice Ao n cap).ownBlock ≠ some b := fun e => by have := (H2.out.mine _ e).1; have := HBL.out; omega
          exact ⟨h.cell n0 e1, h.cell n1 e1, h.cell n2 e1, h.cell c2 e2⟩
        go_upto_region 7 with fail
        go_region_held_law (fun W => W.cell? ⟨q, 0, none⟩ = some (.int .i64 x) ∧ W.cell? ⟨q, 1, none⟩ = some (.string f) ∧ W.cell? ⟨q, 2, none⟩ = some (.int .i64 z) ∧ W.cell? ⟨b, off + k * 3 + 2, none⟩ = some (.int .i64 z'))
          (first | (refine ⟨?_, ?_, ?_, ?_⟩ <;> with_reducible assumption) | go_keep)
          ((refine step_pushL triV_good sharesTy (by rfl) (.tmp 33) (.tmp 47) (by rfl) (M := fun q => wA.heap.size ≤ q) (R := No) (w := wq) hM3.out H2.out (by rfl) (tri_of (m := (x, f, zz)) HOK.out.1 HOK.out.2.1 HZ.out) (by simp [Value.oneCell']) (((Chg.refl No wq).alloc (.cells #[.int .i64 x, .string f, .int .i64 zz] 40)).drew) (news_of (cs := [.int .i64 x, .string f, .int .i64 zz]) (heap_alloc_new wq _)) (by rfl) HLB.out ?_; intro A2 cap2 w7 g1 g2; clear n0 n1 n2 c0 c1 c2; obtain ⟨n0, n1, n2, c2⟩ := HK.out w7 g2; have G1 := Lib.hid (OTris.of g1); have G2 := Lib.hid (H1.out.trans g2 (fun q hq hlt => by have := (H2.out.mine _ hq).1; omega)); clear g1 g2))
        go_wp2_with fail
        go_roundw
        case rel => exact ⟨k + 1, o.length + 1, cap2, A2, o ++ [(x, f, zz)], true, by go_num, rfl, rfl, hlt, by simp [Hid], G2, G1, HR⟩
        case measure => simp [intOf]; omega
      · have HR : Hid (foldA (x, f, z) (l.take (k + 1)) = if d = false ∧ ltT (x, f, z) (x', f', z') = true then (o ++ [(x, f, z)] ++ [(x', f', z')], true) else (o ++ [(x', f', z')], d)) := HNX.out.trans (by
          unfold stepA
          rw [if_neg (show ¬ eqT (x', f', z') (x, f, z) = true by
            intro h
            have h2 : eqK x' f' x f = true := h
            obtain ⟨h3, h4⟩ := eqK_iff.1 h2
            exact heq ⟨h3, by rw [h4]; simp⟩)])
        clear HNX
        have HCH : Hid (∀ d, Chg No wA (wr.drewN d)) := fun d => H1.out.drewN d
        have HOW : Hid (∀ d, OTris 40 (fun j => wA.heap.size ≤ j) (wr.drewN d) (.slice Ao n cap) o) := fun d => H2.out.no triV_good ((Chg.refl _ _).drewN d)
        have HE : Hid (∀ d, (wr.drewN d).cell? ⟨q, 0, none⟩ = some (.int .i64 x) ∧ (wr.drewN d).cell? ⟨q, 1, none⟩ = some (.string f) ∧ (wr.drewN d).cell? ⟨q, 2, none⟩ = some (.int .i64 z)) := fun d => ⟨n0, n1, n2⟩
        have HM : Hid (∀ d, (wr.drewN d).cell? ⟨b, off + k * 3, none⟩ = some (.int .i64 x') ∧ (wr.drewN d).cell? ⟨b, off + k * 3 + 1, none⟩ = some (.string f') ∧ (wr.drewN d).cell? ⟨b, off + k * 3 + 2, none⟩ = some (.int .i64 z')) := fun d => ⟨c0, c1, c2⟩
        have HBQ : Hid (∀ W, Calls Tryz.prog 22 #[.int .i64 x, .string f, .int .i64 x', .string f'] W fun e w' => e = .returned (.bool (ltT (x, f, z) (x', f', z'))) ∧ w' = W) := fun W => (HB.out x f x' f' W).mono (fun e w' h => ⟨h.1, h.2.symm⟩)
        generalize ltT (x, f, z) (x', f', z') = lt at *
        by_cases hx : x' = x
        case' pos =>
          have hdf : (f'.toList == f.toList) = false := by
            cases hf : (f'.toList == f.toList)
            · rfl
            · exact absurd ⟨hx, hf⟩ heq
          have hdx : (x' == x) = true := by simpa using hx
        case' neg =>
          have hdx : (x' == x) = false := by simpa using hx
        all_goals
          clear hx heq
          go_upto_region 6 with fail
          go_quiet (fail)
          have H1' := Lib.hid (HCH.out nq)
          have H2' := Lib.hid (HOW.out nq)
          clear n0 n1 n2 c0 c1 c2 HCH HOW H1 H2
          have H1 := H1'
          have H2 := H2'
          clear H1' H2'
          obtain ⟨n0, n1, n2⟩ := HE.out nq
          obtain ⟨c0, c1, c2⟩ := HM.out nq
          clear HE HM
          generalize wr.drewN nq = wq at *
          have HCH : Hid (∀ d, Chg No wA (wq.drewN d)) := fun d => H1.out.drewN d
          have HOW : Hid (∀ d, OTris 40 (fun j => wA.heap.size ≤ j) (wq.drewN d) (.slice Ao n cap) o) := fun d => H2.out.no triV_good ((Chg.refl _ _).drewN d)
          have HE : Hid (∀ d, (wq.drewN d).cell? ⟨q, 0, none⟩ = some (.int .i64 x) ∧ (wq.drewN d).cell? ⟨q, 1, none⟩ = some (.string f) ∧ (wq.drewN d).cell? ⟨q, 2, none⟩ = some (.int .i64 z)) := fun d => ⟨n0, n1, n2⟩
          have HM : Hid (∀ d, (wq.drewN d).cell? ⟨b, off + k * 3, none⟩ = some (.int .i64 x') ∧ (wq.drewN d).cell? ⟨b, off + k * 3 + 1, none⟩ = some (.string f') ∧ (wq.drewN d).cell? ⟨b, off + k * 3 + 2, none⟩ = some (.int .i64 z')) := fun d => ⟨c0, c1, c2⟩
          have HBX : Hid (∀ m, _) := fun m => Calls.quiet_of_same (HBQ.out (wq.drewN m))
          go_upto_region 9 with fail
          go_quiet ((go_at_call 22; exact HBX.out _))
          have H1' := Lib.hid (HCH.out nq)
          have H2' := Lib.hid (HOW.out nq)
          clear n0 n1 n2 c0 c1 c2 HCH HOW H1 H2
          have H1 := H1'
          have H2 := H2'
          clear H1' H2'
          obtain ⟨n0, n1, n2⟩ := HE.out nq
          obtain ⟨c0, c1, c2⟩ := HM.out nq
          clear HE HM
          generalize wq.drewN nq = wp at *
          have hM3 : Hid (∀ j, wp.heap.size ≤ j → wA.heap.size ≤ j) := fun j hj => Nat.le_trans H1.out.size hj
          have HK : Hid (∀ A2 n2 cap2 o2 W w7, Chg No wA W → OTris 40 (fun j => wA.heap.size ≤ j) W (.slice A2 n2 cap2) o2 → W.cell? ⟨b, off + k * 3, none⟩ = some (.int .i64 x') → W.cell? ⟨b, off + k * 3 + 1, none⟩ = some (.string f') → W.cell? ⟨b, off + k * 3 + 2, none⟩ = some (.int .i64 z') → Chg (fun k => (Value.slice A2 n2 cap2).ownBlock = some k) W w7 → w7.cell? ⟨b, off + k * 3, none⟩ = some (.int .i64 x') ∧ w7.cell? ⟨b, off + k * 3 + 1, none⟩ = some (.string f') ∧ w7.cell? ⟨b, off + k * 3 + 2, none⟩ = some (.int .i64 z') ∧ Chg No wA w7 ∧ ∀ j, w7.heap.size ≤ j → wA.heap.size ≤ j) := fun A2 n2 cap2 o2 W w7 hW ho d0 d1 d2 h => by
            have e2 : (Value.slice A2 n2 cap2).ownBlock ≠ some b := fun e => by have := (ho.mine _ e).1; have := HBL.out; omega
            have hc := hW.trans h (fun q hq hlt => by have := (ho.mine _ hq).1; omega)
            exact ⟨h.cell d0 e2, h.cell d1 e2, h.cell d2 e2, hc, fun j hj => Nat.le_trans hc.size hj⟩
          by_cases hs : d = false ∧ lt = true
          · obtain ⟨rfl, rfl⟩ := hs
            rw [if_pos ⟨rfl, rfl⟩] at HR
            go_upto_region 13 with (at_builtin; refine wpList_pushL triV_good sharesTy rfl (.tmp 69) (.tmp 71) rfl hM3.out H2.out rfl (tri_of (m := (x, f, z)) HOK.out.1 HOK.out.2.1 HOK.out.2.2) (by simp [Value.oneCell']) rfl HLB.out ?_; intro A2 cap2 w7 g1 g2; obtain ⟨c0', c1', c2', hc, hm⟩ := HK.out _ _ _ _ _ _ H1.out H2.out c0 c1 c2 g2; clear n0 n1 n2 c0 c1 c2; have G1 := Lib.hid (OTris.of g1); have G2 := Lib.hid hc; have G3 := Lib.hid hm; clear g1 g2 hc hm)
            go_wp2_with (at_builtin; refine wpList_pushL triV_good sharesTy rfl (.tmp 73) (.tmp 78) rfl G3.out G1.out rfl (tri_of (m := (x', f', z')) HMO.out.1 HMO.out.2.1 HMO.out.2.2) (by simp [Value.oneCell']) rfl HLB2.out ?_; intro A3 cap3 w8 g1 g2; obtain ⟨_, _, _, hc, _⟩ := HK.out _ _ _ _ _ _ G2.out G1.out c0' c1' c2' g2; clear c0' c1' c2'; have G4 : Hid (OTris 40 (fun j => wA.heap.size ≤ j) w8 (.slice A3 (o.length + 1 + 1) cap3) (o ++ [(x, f, z)] ++ [(x', f', z')])) := (by have h := OTris.of g1; rw [List.length_append] at h; exact h); have G5 := Lib.hid hc; clear g1 g2 hc)
            go_roundw
            case rel => exact ⟨k + 1, _, cap3, A3, o ++ [(x, f, z)] ++ [(x', f', z')], true, by go_num, rfl, rfl, hlt, by simp [Hid], G5, G4, HR⟩
            case measure => simp [intOf]; omega
          · rw [if_neg hs] at HR
            have hor : d = true ∨ (d = false ∧ lt = false) := by
              cases d
              · cases lt
                · exact .inr ⟨rfl, rfl⟩
                · exact absurd ⟨rfl, rfl⟩ hs
              · exact .inl rfl
            clear hs
            rcases hor with rfl | ⟨rfl, rfl⟩
            all_goals
              go_upto_region 13 with fail
              go_wp2_with (at_builtin; refine wpList_pushL triV_good sharesTy rfl (.tmp 73) (.tmp 78) rfl hM3.out H2.out rfl (tri_of (m := (x', f', z')) HMO.out.1 HMO.out.2.1 HMO.out.2.2) (by simp [Value.oneCell']) rfl HLB.out ?_; intro A3 cap3 w8 g1 g2; obtain ⟨_, _, _, hc, _⟩ := HK.out _ _ _ _ _ _ H1.out H2.out c0 c1 c2 g2; clear n0 n1 n2 c0 c1 c2; have G4 := Lib.hid (OTris.of g1); have G5 := Lib.hid hc; clear g1 g2 hc)
              go_roundw
              case rel => exact ⟨k + 1, _, cap3, A3, o ++ [(x', f', z')], _, by go_num, rfl, rfl, hlt, by simp [Hid], G5, G4, HR⟩
              case measure => simp [intOf]; omega
    · have hk : k = l.length := by omega
      have HI : Hid (foldA (x, f, z) l = (o, d)) := by have := hI.out; rwa [hk, List.take_length] at this
      cases hd : d
      · have HN : Hid (addS l (x, f, z) = o ++ [(x, f, z)]) := by unfold addS Hid; rw [HI.out, hd]; rfl
        subst hd
        go_wp2_with (at_builtin; refine wpList_pushL triV_good sharesTy rfl (.tmp 82) (.tmp 84) rfl (HMM.out 0) H2.out rfl (tri_of (m := (x, f, z)) HOK.out.1 HOK.out.2.1 HOK.out.2.2) (by simp [Value.oneCell']) rfl HLB.out ?_; intro A3 cap3 w8 g1 g2; have G4 := Lib.hid (OTris.of g1); have G5 := Lib.hid (H1.out.trans g2 (fun q hq hlt => by have := (H2.out.mine _ hq).1; omega)); clear g1 g2)
        go_ret
        rw [HN.out]
        exact ⟨A3, cap3, by simp, by have := G4.out.mono triV_good (M' := fun k => w.heap.size ≤ k) (R' := No) (fun q _ h => Nat.le_trans HA.out.size h) (fun _ _ f => f); simpa using this, HA.out.thenNo G5.out⟩
      · have HN : Hid (addS l (x, f, z) = o) := by unfold addS Hid; rw [HI.out, hd]; rfl
        subst hd
        go_wp2_with fail
        go_ret
        rw [HN.out]
        exact ⟨Ao, cap, congrArg (fun m => Ending.returned (.slice Ao m cap)) hn.out, by rw [← hn.out]; exact H2.out.mono triV_good (M' := fun k => w.heap.size ≤ k) (R' := No) (fun q _ h => Nat.le_trans HA.out.size h) (fun _ _ f => f), HA.out.thenNo H1.out⟩
end Go.Proofs.YtpmndblakmobdaaGreatDoor
/- HpH -/
namespace Go.Proofs.YtpmndblakmobdaaGreatDoor
open Go Go.RowKit

theorem toList_inj {f g : ByteArray} (h : f.toList = g.toList) : f = g := by
  rw [ByteArray.toList_eq, ByteArray.toList_eq] at h
  exact ByteArray.ext (Array.toList_inj.1 h)

theorem neqShare (m m' : Tri) (w : World) : (binOp .neq 40 (.agg #[.int .i64 m.1, .string m.2.1, .int .i64 m.2.2]) (.agg #[.int .i64 m'.1, .string m'.2.1, .int .i64 m'.2.2])).run Tryz.prog w = .ok (.bool (!decide (m = m'))) w := by
  have u3 := Tryz.underlying3
  have a3 := Tryz.isAgg3
  have z3 := Tryz.sizeOf3
  have u9 := Tryz.underlying9
  have a9 := Tryz.isAgg9
  have z9 := Tryz.sizeOf9
  have hS : Tryz.prog.underlying 40 = some (.struct (Tryz.prog.fieldsOf 40)) := by kernel_rfl
  have hp : Tryz.prog.stoodInHeld 40 = false := by kernel_rfl
  rw [run_neq_struct, show (10000 : Nat) = 9999 + 1 from rfl, run_equalIn_agg w 9999 40 _ _ hS hp]
  simp only [Program.fieldsOf, Tryz.underlying40]
  obtain ⟨a, f, c⟩ := m
  obtain ⟨a', f', c'⟩ := m'
  have hd : decide ((a, f, c) = (a', f', c')) = ((a == a') && (f.toList == f'.toList) && (c == c')) := by
    rw [Bool.eq_iff_iff]
    simp only [decide_eq_true_eq, Bool.and_eq_true, beq_iff_eq, Prod.mk.injEq]
    exact ⟨fun ⟨h1, h2, h3⟩ => ⟨⟨h1, by rw [h2]⟩, h3⟩, fun ⟨⟨h1, h2⟩, h3⟩ => ⟨h1, toList_inj h2, h3⟩⟩
  rw [hd]
  go_simp
  by_cases h1 : a = a' <;> by_cases h2 : f.toList = f'.toList <;> by_cases h3 : c = c' <;> simp [h1, h2, h3]

theorem neqCell (m m' : Tri) (w : World) : (binOp .neq 77 (.agg #[.int .i64 m.1, .string m.2.1, .int .i64 m.2.2]) (.agg #[.int .i64 m'.1, .string m'.2.1, .int .i64 m'.2.2])).run Tryz.prog w = .ok (.bool (!decide (m = m'))) w := by
  have u3 := Tryz.underlying3
  have a3 := Tryz.isAgg3
  have z3 := Tryz.sizeOf3
  have u9 := Tryz.underlying9
  have a9 := Tryz.isAgg9
  have z9 := Tryz.sizeOf9
  have hS : Tryz.prog.underlying 77 = some (.struct (Tryz.prog.fieldsOf 77)) := by kernel_rfl
  have hp : Tryz.prog.stoodInHeld 77 = false := by kernel_rfl
  rw [run_neq_struct, show (10000 : Nat) = 9999 + 1 from rfl, run_equalIn_agg w 9999 77 _ _ hS hp]
  simp only [Program.fieldsOf, Tryz.underlying77]
  obtain ⟨a, f, c⟩ := m
  obtain ⟨a', f', c'⟩ := m'
  have hd : decide ((a, f, c) = (a', f', c')) = ((a == a') && (f.toList == f'.toList) && (c == c')) := by
    rw [Bool.eq_iff_iff]
    simp only [decide_eq_true_eq, Bool.and_eq_true, beq_iff_eq, Prod.mk.injEq]
    exact ⟨fun ⟨h1, h2, h3⟩ => ⟨⟨h1, by rw [h2]⟩, h3⟩, fun ⟨⟨h1, h2⟩, h3⟩ => ⟨h1, toList_inj h2, h3⟩⟩
  rw [hd]
  go_simp
  by_cases h1 : a = a' <;> by_cases h2 : f.toList = f'.toList <;> by_cases h3 : c = c' <;> simp [h1, h2, h3]

def nd (a : List Tri × Bool) : Nat := if a.2 = true then 0 else 1
theorem stepA_cnt (s : Tri) (a : List Tri × Bool) (x : Tri) : (stepA s a x).1.length + nd (stepA s a x) ≤ a.1.length + nd a + 1 := by
  obtain ⟨o, d⟩ := a
  unfold stepA nd
  split
  · simp
  · split
    · rename_i h
      rw [h.1]
      simp
    · simp
      split <;> omega
theorem addS_len (l : List Tri) (s : Tri) : (addS l s).length ≤ l.length + 1 := by
  have h : ∀ (l : List Tri) (a : List Tri × Bool), (l.foldl (stepA s) a).1.length + nd (l.foldl (stepA s) a) ≤ a.1.length + nd a + l.length := by
    intro l
    induction l with
    | nil => intro a; exact Nat.le_refl _
    | cons x t ih =>
      intro a
      have h1 := ih (stepA s a x)
      have h2 := stepA_cnt s a x
      simp only [List.foldl_cons, List.length_cons]
      omega
  have := h l ([], false)
  unfold addS foldA
  simp only [List.length_nil, nd] at this
  split
  · rename_i hd
    rw [if_pos hd] at this
    simp at this
    omega
  · rename_i hd
    rw [if_neg hd] at this
    simp at this
    rw [List.length_append]
    simp
    omega
def addsS (l : List Tri) : List Tri := l.foldl addS []
theorem addsS_len (l : List Tri) : (addsS l).length ≤ l.length := by
  have h : ∀ (l o : List Tri), (l.foldl addS o).length ≤ o.length + l.length := by
    intro l
    induction l with
    | nil => intro o; simp
    | cons a t ih => intro o; have := ih (addS o a); have := addS_len o a; simp only [List.foldl_cons, List.length_cons]; omega
  have := h l []
  simpa [addsS] using this
theorem addsS_take {s : List Tri} {k : Nat} (hk : k < s.length) (p : List Tri) {o : List Tri} (h : addsS (p ++ s.take k) = o) : addsS (p ++ s.take (k + 1)) = addS o s[k] := by
  rw [List.take_succ_eq_append_getElem hk, ← List.append_assoc]
  unfold addsS at *
  rw [List.foldl_append, h]
  rfl

set_option maxRecDepth 100000 in
set_option maxHeartbeats 1000000 in
theorem refJoin_any {R : Nat → Prop} {w : World} {A B : Option Addr} {a b : List Tri} {ca cb : Nat} (ha : Tris R w A a ca) (hb : Tris R w B b cb) (hlen : a.length + b.length ≤ 100000) :
    Calls Tryz.prog 10 #[.slice A a.length ca, .slice B b.length cb] w fun e w' => ∃ A' cap', e = .returned (.slice A' (addsS (a ++ b)).length cap') ∧ OTris 40 (fun k => w.heap.size ≤ k) w' (.slice A' (addsS (a ++ b)).length cap') (addsS (a ++ b)) ∧ Chg No w w' := by
  have HA := Lib.hid (fun W (h : Chg No w W) => ha.no triE_good h)
  have HB := Lib.hid (fun W (h : Chg No w W) => hb.no triE_good h)
  clear ha hb
  have HADD : Hid (∀ (W : World) Ao n cap (o : List Tri) (m : Tri), n = o.length → o.length ≤ 100000 → TriOk m → Chg No w W → OTris 40 (fun j => w.heap.size ≤ j) W (.slice Ao n cap) o → Calls Tryz.prog 23 #[.slice Ao n cap, .agg #[.int .i64 m.1, .string m.2.1, .int .i64 m.2.2]] W fun e w' => ∃ A' n' cap', e = .returned (.slice A' n' cap') ∧ Hid (n' = (addS o m).length) ∧ OTris 40 (fun k => w.heap.size ≤ k) w' (.slice A' n' cap') (addS o m) ∧ Chg No w w') := fun W Ao n cap o m hn ho hm hc h => by
    subst hn
    refine (refAdd_any (OTris.tris h (by unfold big; omega)) m.1 m.2.1 m.2.2 hm ho).mono ?_
    rintro e w' ⟨A', cap', rfl, h1, h2⟩
    exact ⟨A', _, cap', rfl, rfl, h1.mono triV_good (fun q _ hq => Nat.le_trans hc.size hq) (fun _ _ f => f), hc.thenNo h2⟩
  go_enter Tryz.func10, Tryz.ntmps10
  go_wp2
  go_loopw [5, 6] (fun s5 s6 wr => ∃ (k n cap : Nat) (Ao : Option Addr) (o : List Tri), s6 = .int .i64 k ∧ s5 = .slice Ao n cap ∧ k ≤ a.length ∧ Hid (n = o.length) ∧ Hid (Chg No w wr) ∧ Hid (OTris 40 (fun j => w.heap.size ≤ j) wr (.slice Ao n cap) o) ∧ Hid (addsS (a.take k) = o)) (fun _ s6 _ => a.length - (intOf s6).toNat)
  case atStart => exact ⟨0, 0, 0, none, [], rfl, rfl, Nat.zero_le _, rfl, Chg.refl _ _, OwnL.nil _ _ _ _ _, rfl⟩
  case round =>
    obtain ⟨k, n, cap, Ao, o, rfl, rfl, hks, hn, hch, hown, hI⟩ := hrel
    by_cases hlt : k < a.length
    · obtain ⟨p, off, hA, c0, c1, c2⟩ := (HA.out wr hch.out).tri_at k hlt
      have HOK := Lib.hid ((HA.out wr hch.out).tri_ok k hlt)
      have HNX := Lib.hid (addsS_take hlt [] hI.out)
      have hlo : o.length ≤ 100000 := by have := addsS_len (a.take k); rw [hI.out, List.length_take] at this; omega
      have HAD := Lib.hid (HADD.out wr Ao n cap o a[k] hn.out hlo HOK.out hch.out hown.out)
      subst hA
      generalize a[k] = m at *
      obtain ⟨x, f, z⟩ := m
      dsimp only at c0 c1 c2 HAD
      clear hlo
      go_wp2_with (go_at_call 23; refine HAD.out.mono ?_; rintro e w2 ⟨A2, n2, cap2, rfl, g1, g2, g3⟩; have G2 := Lib.hid g2; have G3 := Lib.hid g3; clear g2 g3 c0 c1 c2)
      go_roundw
      case rel => exact ⟨k + 1, n2, cap2, A2, _, by go_num, rfl, hlt, g1, G3, G2, HNX⟩
      case measure => simp [intOf]; omega
    · have hk : k = a.length := by omega
      have HI : Hid (addsS (a ++ b.take 0) = o) := by have := hI.out; rw [hk, List.take_length] at this; simpa [Hid] using this
      clear hI hk
      go_wp2_with fail
      go_loopw [5, 7] (fun s5 s7 wr => ∃ (k n cap : Nat) (Ao : Option Addr) (o : List Tri), s7 = .int .i64 k ∧ s5 = .slice Ao n cap ∧ k ≤ b.length ∧ Hid (n = o.length) ∧ Hid (Chg No w wr) ∧ Hid (OTris 40 (fun j => w.heap.size ≤ j) wr (.slice Ao n cap) o) ∧ Hid (addsS (a ++ b.take k) = o)) (fun _ s7 _ => b.length - (intOf s7).toNat)
      case atStart => exact ⟨0, n, cap, Ao, o, rfl, rfl, Nat.zero_le _, hn, hch, hown, HI⟩
      case round =>
        clear hn hch hown HI hlt hks
        obtain ⟨k, n, cap, Ao, o, rfl, rfl, hks, hn, hch, hown, hI⟩ := hrel
        by_cases hlt : k < b.length
        · obtain ⟨p, off, hA, c0, c1, c2⟩ := (HB.out wr hch.out).tri_at k hlt
          have HOK := Lib.hid ((HB.out wr hch.out).tri_ok k hlt)
          have HNX := Lib.hid (addsS_take hlt a hI.out)
          have hlo : o.length ≤ 100000 := by have := addsS_len (a ++ b.take k); rw [hI.out, List.length_append, List.length_take] at this; omega
          have HAD := Lib.hid (HADD.out wr Ao n cap o b[k] hn.out hlo HOK.out hch.out hown.out)
          subst hA
          generalize b[k] = m at *
          obtain ⟨x, f, z⟩ := m
          dsimp only at c0 c1 c2 HAD
          clear hlo
          go_wp2_with (go_at_call 23; refine HAD.out.mono ?_; rintro e w2 ⟨A2, n2, cap2, rfl, g1, g2, g3⟩; have G2 := Lib.hid g2; have G3 := Lib.hid g3; clear g2 g3 c0 c1 c2)
          go_roundw
          case rel => exact ⟨k + 1, n2, cap2, A2, _, by go_num, rfl, hlt, g1, G3, G2, HNX⟩
          case measure => simp [intOf]; omega
        · have hk : k = b.length := by omega
          have HI : Hid (addsS (a ++ b) = o) := by have := hI.out; rwa [hk, List.take_length] at this
          go_wp2
          go_ret
          rw [HI.out]
          exact ⟨Ao, cap, congrArg (fun m => Ending.returned (.slice Ao m cap)) hn.out, by rw [← hn.out]; exact hown.out, hch.out⟩
end Go.Proofs.YtpmndblakmobdaaGreatDoor
/- HpI -/
namespace Go.Proofs.YtpmndblakmobdaaGreatDoor
open Go Go.RowKit

abbrev Strict (l : List Tri) : Prop := l.Pairwise fun a b => ltT a b = true
theorem eqT_iff {x y : Tri} : eqT x y = true ↔ x.1 = y.1 ∧ x.2.1 = y.2.1 := by
  unfold eqT
  rw [eqK_iff]
  exact ⟨fun h => ⟨h.1, toList_inj h.2⟩, fun h => ⟨h.1, by rw [h.2]⟩⟩
theorem eqT_symm {x y : Tri} (h : eqT x y = true) : eqT y x = true := by
  rw [eqT_iff] at *
  exact ⟨h.1.symm, h.2.symm⟩
theorem eqT_trans {x y z : Tri} (h : eqT x y = true) (g : eqT y z = true) : eqT x z = true := by
  rw [eqT_iff] at *
  exact ⟨h.1.trans g.1, h.2.trans g.2⟩
theorem eqT_lt {x y z : Tri} (h : eqT x y = true) : ltT x z = ltT y z := eqK_lt h
theorem eqT_lt' {x y z : Tri} (h : eqT x y = true) : ltT z x = ltT z y := eqK_lt' h
theorem ltT_asymm {x y : Tri} (h : ltT x y = true) : ltT y x = false := ltK_asymm h
theorem ltT_ne {x y : Tri} (h : ltT x y = true) : eqT x y = false := ltK_ne h
theorem eqT_comm (x y : Tri) : eqT x y = eqT y x := by
  rw [Bool.eq_iff_iff]
  exact ⟨eqT_symm, eqT_symm⟩

/-- One share more, in its place. -/
def addR : List Tri → Tri → List Tri
  | [], s => [s]
  | x :: t, s => if eqT x s = true then (s.1, s.2.1, addN x.2.2 s.2.2) :: t else if ltT s x = true then s :: x :: t else x :: addR t s

theorem fold_done {s : Tri} : ∀ (t acc : List Tri), (∀ x ∈ t, eqT x s = false) → t.foldl (stepA s) (acc, true) = (acc ++ t, true)
  | [], acc, _ => by simp
  | x :: t, acc, h => by
    rw [List.foldl_cons]
    have e : stepA s (acc, true) x = (acc ++ [x], true) := by unfold stepA; rw [if_neg (by rw [h x (by simp)]; simp), if_neg (by simp)]
    rw [e, fold_done t _ (fun y hy => h y (by simp [hy]))]
    simp
theorem fold_addR {s : Tri} : ∀ (o acc : List Tri), Strict o → (if (o.foldl (stepA s) (acc, false)).2 = true then (o.foldl (stepA s) (acc, false)).1 else (o.foldl (stepA s) (acc, false)).1 ++ [s]) = acc ++ addR o s
  | [], acc, _ => by simp [addR]
  | x :: t, acc, h => by
    obtain ⟨h1, h2⟩ := List.pairwise_cons.1 h
    rw [List.foldl_cons]
    unfold addR
    by_cases he : eqT x s = true
    · have e : stepA s (acc, false) x = (acc ++ [(s.1, s.2.1, addN x.2.2 s.2.2)], true) := by unfold stepA; rw [if_pos he]
      rw [e, if_pos he, fold_done t _ (fun y hy => by
        have := ltT_ne (h1 y hy)
        cases hys : eqT y s
        · rfl
        · rw [eqT_trans he (eqT_symm hys)] at this; cases this)]
      simp
    · rw [if_neg he]
      by_cases hl : ltT s x = true
      · have e : stepA s (acc, false) x = (acc ++ [s] ++ [x], true) := by unfold stepA; rw [if_neg he, if_pos ⟨rfl, hl⟩]
        rw [e, if_pos hl, fold_done t _ (fun y hy => by
          have h3 := ltT_ne (ltT_trans hl (h1 y hy))
          rwa [eqT_comm] at h3)]
        simp
      · have e : stepA s (acc, false) x = (acc ++ [x], false) := by unfold stepA; rw [if_neg he, if_neg (fun h => hl h.2)]
        rw [e, if_neg hl, fold_addR t _ h2]
        simp
theorem addS_eq {o : List Tri} (h : Strict o) (s : Tri) : addS o s = addR o s := by
  have := fold_addR (s := s) o [] h
  unfold addS foldA
  rw [this]
  simp

theorem addR_mem {s m : Tri} : ∀ {o : List Tri}, Strict o → m ∈ addR o s → (m ∈ o ∧ eqT m s = false) ∨ (∃ x ∈ o, eqT x s = true ∧ m = (s.1, s.2.1, addN x.2.2 s.2.2)) ∨ (m = s ∧ ∀ x ∈ o, eqT x s = false)
  | [], _, h => .inr (.inr ⟨by simpa [addR] using h, by simp⟩)
  | x :: t, hs, h => by
    obtain ⟨h1, h2⟩ := List.pairwise_cons.1 hs
    unfold addR at h
    by_cases he : eqT x s = true
    · rw [if_pos he] at h
      rcases List.mem_cons.1 h with h | h
      · exact .inr (.inl ⟨x, by simp, he, h⟩)
      · refine .inl ⟨by simp [h], ?_⟩
        have := ltT_ne (h1 m h)
        cases hms : eqT m s
        · rfl
        · rw [eqT_trans he (eqT_symm hms)] at this; cases this
    · rw [if_neg he] at h
      by_cases hl : ltT s x = true
      · rw [if_pos hl] at h
        have h3 : ∀ y ∈ x :: t, eqT y s = false := fun y hy => by
          rcases List.mem_cons.1 hy with rfl | hy
          · rw [eqT_comm]; exact ltT_ne hl
          · rw [eqT_comm]; exact ltT_ne (ltT_trans hl (h1 y hy))
        rcases List.mem_cons.1 h with rfl | h
        · exact .inr (.inr ⟨rfl, h3⟩)
        · exact .inl ⟨h, h3 m h⟩
      · rw [if_neg hl] at h
        rcases List.mem_cons.1 h with rfl | h
        · exact .inl ⟨by simp, by simpa using he⟩
        · rcases addR_mem h2 h with ⟨g1, g2⟩ | ⟨y, g1, g2, g3⟩ | ⟨g1, g2⟩
          · exact .inl ⟨by simp [g1], g2⟩
          · exact .inr (.inl ⟨y, by simp [g1], g2, g3⟩)
          · refine .inr (.inr ⟨g1, fun y hy => ?_⟩)
            rcases List.mem_cons.1 hy with rfl | hy
            · simpa using he
            · exact g2 y hy
theorem addR_strict {s : Tri} : ∀ {o : List Tri}, Strict o → Strict (addR o s)
  | [], _ => by simp [addR]
  | x :: t, hs => by
    obtain ⟨h1, h2⟩ := List.pairwise_cons.1 hs
    unfold addR
    by_cases he : eqT x s = true
    · rw [if_pos he]
      refine List.pairwise_cons.2 ⟨fun y hy => ?_, h2⟩
      rw [← eqT_lt (show eqT x (s.1, s.2.1, addN x.2.2 s.2.2) = true from eqT_iff.2 (eqT_iff.1 he))]
      exact h1 y hy
    · rw [if_neg he]
      by_cases hl : ltT s x = true
      · rw [if_pos hl]
        refine List.pairwise_cons.2 ⟨fun y hy => ?_, hs⟩
        rcases List.mem_cons.1 hy with rfl | hy
        · exact hl
        · exact ltT_trans hl (h1 y hy)
      · rw [if_neg hl]
        have hxs : ltT x s = true := by
          cases h : ltT x s
          · exact absurd (ltT_tri h (by simpa using hl)) he
          · rfl
        refine List.pairwise_cons.2 ⟨fun y hy => ?_, addR_strict h2⟩
        rcases addR_mem h2 hy with ⟨g1, _⟩ | ⟨z, g1, g2, rfl⟩ | ⟨rfl, _⟩
        · exact h1 y g1
        · rw [eqT_lt' (show eqT (s.1, s.2.1, addN z.2.2 s.2.2) s = true from eqT_iff.2 ⟨rfl, rfl⟩)]
          exact hxs
        · exact hxs

def hasK (l : List Tri) (k : Tri) : Prop := ∃ m ∈ l, eqT m k = true
theorem addR_has {s : Tri} : ∀ {o : List Tri}, Strict o → hasK (addR o s) s ∧ ∀ x ∈ o, hasK (addR o s) x
  | [], _ => ⟨⟨s, by simp [addR], eqT_iff.2 ⟨rfl, rfl⟩⟩, by simp⟩
  | x :: t, hs => by
    obtain ⟨h1, h2⟩ := List.pairwise_cons.1 hs
    unfold addR
    by_cases he : eqT x s = true
    · rw [if_pos he]
      refine ⟨⟨_, List.mem_cons_self, eqT_iff.2 ⟨rfl, rfl⟩⟩, fun y hy => ?_⟩
      rcases List.mem_cons.1 hy with rfl | hy
      · exact ⟨_, List.mem_cons_self, eqT_symm (eqT_iff.2 (eqT_iff.1 he))⟩
      · exact ⟨y, by simp [hy], eqT_iff.2 ⟨rfl, rfl⟩⟩
    · rw [if_neg he]
      by_cases hl : ltT s x = true
      · rw [if_pos hl]
        exact ⟨⟨_, List.mem_cons_self, eqT_iff.2 ⟨rfl, rfl⟩⟩, fun y hy => ⟨y, List.mem_cons_of_mem _ hy, eqT_iff.2 ⟨rfl, rfl⟩⟩⟩
      · rw [if_neg hl]
        obtain ⟨⟨m, g1, g2⟩, g3⟩ := addR_has (s := s) h2
        refine ⟨⟨m, List.mem_cons_of_mem _ g1, g2⟩, fun y hy => ?_⟩
        rcases List.mem_cons.1 hy with rfl | hy
        · exact ⟨_, List.mem_cons_self, eqT_iff.2 ⟨rfl, rfl⟩⟩
        · obtain ⟨m, g4, g5⟩ := g3 y hy
          exact ⟨m, List.mem_cons_of_mem _ g4, g5⟩

def sumZ (k : Tri) : List Tri → Int
  | [] => 0
  | x :: t => (if eqT x k = true then x.2.2 else 0) + sumZ k t
theorem sumZ_append (k : Tri) : ∀ (l r : List Tri), sumZ k (l ++ r) = sumZ k l + sumZ k r
  | [], r => by simp [sumZ]
  | x :: t, r => by rw [List.cons_append, sumZ, sumZ, sumZ_append k t r, Int.add_assoc]
theorem sumZ_perm (k : Tri) {l r : List Tri} (h : l.Perm r) : sumZ k l = sumZ k r := by
  induction h with
  | nil => rfl
  | cons x _ ih => simp [sumZ, ih]
  | swap x y t => simp only [sumZ]; omega
  | trans _ _ h1 h2 => exact h1.trans h2
theorem sumZ_key {k k' : Tri} (h : eqT k k' = true) : ∀ l : List Tri, sumZ k l = sumZ k' l
  | [] => rfl
  | x :: t => by
    have e : eqT x k = eqT x k' := by
      rw [Bool.eq_iff_iff]
      exact ⟨fun g => eqT_trans g h, fun g => eqT_trans g (eqT_symm h)⟩
    rw [sumZ, sumZ, sumZ_key h t, e]
theorem sumZ_none {k : Tri} : ∀ {l : List Tri}, (∀ x ∈ l, eqT x k = false) → sumZ k l = 0
  | [], _ => rfl
  | x :: t, h => by
    rw [sumZ, if_neg (by rw [h x (by simp)]; simp), sumZ_none (fun y hy => h y (by simp [hy]))]
    rfl

structure IsJoin (l r : List Tri) : Prop where
  strict : Strict r
  val : ∀ m ∈ r, hasK l m ∧ m.2.2 = wrap64 (sumZ m l)
  has : ∀ k ∈ l, hasK r k
theorem IsJoin.nil : IsJoin [] [] := ⟨List.Pairwise.nil, by simp, by simp⟩
theorem wrap64_I64 {x : Int} (h : I64 x) : wrap64 x = x := by unfold I64 at h; unfold wrap64; omega
theorem IsJoin.add {l r : List Tri} (h : IsJoin l r) {s : Tri} (hs : TriOk s) : IsJoin (l ++ [s]) (addR r s) := by
  refine ⟨addR_strict h.strict, fun m hm => ?_, fun k hk => ?_⟩
  · rcases addR_mem h.strict hm with ⟨g1, g2⟩ | ⟨x, g1, g2, rfl⟩ | ⟨rfl, g2⟩
    · obtain ⟨⟨y, hy, hy2⟩, hv⟩ := h.val m g1
      refine ⟨⟨y, by simp [hy], hy2⟩, ?_⟩
      rw [hv, sumZ_append, show sumZ m [s] = 0 by simp [sumZ, eqT_comm s m, g2]]
      simp
    · obtain ⟨_, hv⟩ := h.val x g1
      refine ⟨⟨s, by simp, eqT_iff.2 ⟨rfl, rfl⟩⟩, ?_⟩
      have e1 : eqT (s.1, s.2.1, addN x.2.2 s.2.2) s = true := eqT_iff.2 ⟨rfl, rfl⟩
      rw [sumZ_key e1, sumZ_append, ← sumZ_key g2 l, show sumZ s [s] = s.2.2 by simp [sumZ, show eqT s s = true from eqT_iff.2 ⟨rfl, rfl⟩]]
      show addN x.2.2 s.2.2 = _
      rw [hv]
      unfold addN wrap64
      omega
    · refine ⟨⟨m, by simp, eqT_iff.2 ⟨rfl, rfl⟩⟩, ?_⟩
      have e0 : sumZ m l = 0 := sumZ_none (fun x hx => by
        obtain ⟨y, hy, hy2⟩ := h.has x hx
        cases hxm : eqT x m
        · rfl
        · have := g2 y hy
          rw [eqT_trans hy2 hxm] at this; cases this)
      rw [sumZ_append, e0, show sumZ m [m] = m.2.2 by simp [sumZ, show eqT m m = true from eqT_iff.2 ⟨rfl, rfl⟩]]
      rw [Int.zero_add, wrap64_I64 hs.2.2]
  · obtain ⟨g1, g2⟩ := addR_has (s := s) h.strict
    rcases List.mem_append.1 hk with hk | hk
    · obtain ⟨m, hm, hm2⟩ := h.has k hk
      obtain ⟨m', hm', hm2'⟩ := g2 m hm
      exact ⟨m', hm', eqT_trans hm2' hm2⟩
    · rw [List.mem_singleton.1 hk]
      exact g1
theorem strict_ext : ∀ {r r' : List Tri}, Strict r → Strict r' → (∀ m, m ∈ r ↔ m ∈ r') → r = r'
  | [], [], _, _, _ => rfl
  | [], b :: t, _, _, h => by have := (h b).2 (by simp); simp at this
  | a :: t, [], _, _, h => by have := (h a).1 (by simp); simp at this
  | a :: t, b :: t', h1, h2, h => by
    obtain ⟨g1, g2⟩ := List.pairwise_cons.1 h1
    obtain ⟨k1, k2⟩ := List.pairwise_cons.1 h2
    have hab : a = b := by
      rcases List.mem_cons.1 ((h a).1 (by simp)) with e | e
      · exact e
      · rcases List.mem_cons.1 ((h b).2 (by simp)) with e' | e'
        · exact e'.symm
        · have := ltT_asymm (k1 a e)
          rw [g1 b e'] at this; cases this
    subst hab
    refine congrArg (a :: ·) (strict_ext g2 k2 (fun m => ⟨fun hm => ?_, fun hm => ?_⟩))
    · rcases List.mem_cons.1 ((h m).1 (by simp [hm])) with rfl | e
      · have := g1 m hm; rw [ltT_irrefl] at this; cases this
      · exact e
    · rcases List.mem_cons.1 ((h m).2 (by simp [hm])) with rfl | e
      · have := k1 m hm; rw [ltT_irrefl] at this; cases this
      · exact e
theorem IsJoin.sub {l r r' : List Tri} (h : IsJoin l r) (h' : IsJoin l r') {m : Tri} (hm : m ∈ r) : m ∈ r' := by
  obtain ⟨⟨x, hx, hx2⟩, hv⟩ := h.val m hm
  obtain ⟨y, hy, hy2⟩ := h'.has x hx
  obtain ⟨_, hv'⟩ := h'.val y hy
  have e := eqT_trans hy2 hx2
  have : m = y := by
    obtain ⟨e1, e2⟩ := eqT_iff.1 e
    have hc : m.2.2 = y.2.2 := by rw [hv, hv', sumZ_key e l]
    exact Prod.ext e1.symm (Prod.ext e2.symm hc)
  rw [this]
  exact hy
theorem IsJoin.unique {l r r' : List Tri} (h : IsJoin l r) (h' : IsJoin l r') : r = r' :=
  strict_ext h.strict h'.strict (fun _ => ⟨h.sub h', h'.sub h⟩)
theorem IsJoin.perm {l l' r : List Tri} (h : IsJoin l r) (p : l.Perm l') : IsJoin l' r :=
  ⟨h.strict, fun m hm => by
    obtain ⟨⟨x, hx, hx2⟩, hv⟩ := h.val m hm
    exact ⟨⟨x, p.mem_iff.1 hx, hx2⟩, by rw [hv, sumZ_perm m p]⟩, fun k hk => h.has k (p.mem_iff.2 hk)⟩

theorem addsS_join (l : List Tri) (h : ∀ m ∈ l, TriOk m) : IsJoin l (addsS l) := by
  have : ∀ (t p : List Tri), (∀ m ∈ t, TriOk m) → ∀ o, IsJoin p o → IsJoin (p ++ t) (t.foldl addS o) := by
    intro t
    induction t with
    | nil => intro p _ o ho; simpa using ho
    | cons x t ih =>
      intro p hp o ho
      rw [List.foldl_cons, addS_eq ho.strict]
      have := ih (p ++ [x]) (fun m hm => hp m (by simp [hm])) _ (ho.add (hp x (by simp)))
      simpa using this
  have := this l [] h [] IsJoin.nil
  simpa [addsS] using this
theorem mrg1_addR {s : Tri} : ∀ {o : List Tri}, Strict o → (∀ x ∈ o, ltT s x = false) → mrg1 o s = addR o s
  | [], _, _ => rfl
  | [x], _, h => by
    unfold mrg1 addR
    have hl := h x (by simp)
    simp only [List.getLast?_singleton, List.dropLast_singleton, List.nil_append]
    by_cases he : eqT x s = true
    · rw [if_pos he, if_pos he]
      obtain ⟨e1, e2⟩ := eqT_iff.1 he
      rw [e1, e2]
    · rw [if_neg he, if_neg he, if_neg (by rw [hl]; simp)]
      simp [addR]
  | x :: y :: t, hs, h => by
    obtain ⟨h1, h2⟩ := List.pairwise_cons.1 hs
    have he : ¬ eqT x s = true := fun he => by
      have := h1 y (by simp)
      rw [eqT_lt he, h y (by simp)] at this; cases this
    have ih := mrg1_addR (s := s) h2 (fun z hz => h z (by simp [hz]))
    unfold addR
    rw [if_neg he, if_neg (by rw [h x (by simp)]; simp), ← ih]
    unfold mrg1
    rw [List.getLast?_cons_cons]
    cases hgl : (y :: t).getLast? with
    | none => simp at hgl
    | some z =>
      simp only
      by_cases hz : eqT z s = true
      · rw [if_pos hz, if_pos hz]; rfl
      · rw [if_neg hz, if_neg hz]; rfl
theorem mrg_join (l : List Tri) (h : ∀ m ∈ l, TriOk m) (hs : l.Pairwise fun a b => ltT b a = false) : IsJoin l (mrg l) := by
  have : ∀ (t p : List Tri), (∀ m ∈ t, TriOk m) → (p ++ t).Pairwise (fun a b => ltT b a = false) → ∀ o, IsJoin p o → IsJoin (p ++ t) (t.foldl mrg1 o) := by
    intro t
    induction t with
    | nil => intro p _ _ o ho; simpa using ho
    | cons x t ih =>
      intro p hp hw o ho
      have hle : ∀ y ∈ o, ltT x y = false := fun y hy => by
        obtain ⟨⟨z, hz, hz2⟩, _⟩ := ho.val y hy
        rw [← eqT_lt' hz2]
        exact (List.pairwise_append.1 hw).2.2 z hz x (by simp)
      rw [List.foldl_cons, mrg1_addR ho.strict hle]
      have := ih (p ++ [x]) (fun m hm => hp m (by simp [hm])) (by simpa using hw) _ (ho.add (hp x (by simp)))
      simpa using this
  have := this l [] h (by simpa using hs) [] IsJoin.nil
  simpa [mrg] using this
theorem join_eq {s l : List Tri} (p : s.Perm l) (hs : s.Pairwise fun a b => ltT b a = false) (h : ∀ m ∈ l, TriOk m) : mrg s = addsS l :=
  ((mrg_join s (fun m hm => h m (p.mem_iff.1 hm)) hs).perm p).unique (addsS_join l h)
theorem addsS_strict (l : List Tri) (h : ∀ m ∈ l, TriOk m) : Strict (addsS l) := (addsS_join l h).strict

end Go.Proofs.YtpmndblakmobdaaGreatDoor
/- HpJ -/
namespace Go.Proofs.YtpmndblakmobdaaGreatDoor
open Go Go.RowKit

/-- Where k stands, or would stand. -/
def Bnd (l : List Tri) (k : Tri) (i : Nat) : Prop := i ≤ l.length ∧ (∀ t (h : t < l.length), t < i → ltT l[t] k = true) ∧ (∀ t (h : t < l.length), i ≤ t → ltT l[t] k = false)
def hasL (l : List Tri) (k : Tri) : Bool := l.any fun x => eqT x k
theorem Bnd.has {l : List Tri} {k : Tri} {i : Nat} (h : Bnd l k i) (hs : Strict l) : hasL l k = (if g : i < l.length then eqT l[i] k else false) := by
  rw [Bool.eq_iff_iff]
  unfold hasL
  rw [List.any_eq_true]
  constructor
  · rintro ⟨x, hx, he⟩
    obtain ⟨t, ht, rfl⟩ := List.getElem_of_mem hx
    have h1 : i ≤ t := by
      rcases Nat.lt_or_ge t i with g | g
      · have := ltT_ne (h.2.1 t ht g); rw [he] at this; cases this
      · exact g
    have h2 : t = i := by
      rcases Nat.lt_or_ge i t with g | g
      · have h3 := (List.pairwise_iff_getElem.1 hs) i t (by omega) ht g
        rw [eqT_lt' he, h.2.2 i (by omega) (Nat.le_refl _)] at h3
        cases h3
      · omega
    subst h2
    rw [dif_pos ht]
    exact he
  · intro g
    by_cases hi : i < l.length
    · rw [dif_pos hi] at g
      exact ⟨l[i], List.getElem_mem hi, g⟩
    · rw [dif_neg hi] at g; cases g

end Go.Proofs.YtpmndblakmobdaaGreatDoor
/- HpK -/
namespace Go.Proofs.YtpmndblakmobdaaGreatDoor
open Go Go.RowKit

/-- Cells of one block, some of them overwritten. -/
theorem setCells_blk {e : TypeId} (g : Nat) : ∀ (vs : List Value) (o : Nat) (w : World) (C : Array Value), w.heap[g]? = some (.cells C e (0, 0)) → o + vs.length ≤ C.size →
    ∃ C' : Array Value, (w.setCells g o vs).heap[g]? = some (.cells C' e (0, 0)) ∧ C'.size = C.size ∧ ∀ j, C'[j]? = if o ≤ j ∧ j < o + vs.length then vs[j - o]? else C[j]?
  | [], o, w, C, h, _ => ⟨C, h, rfl, fun j => by rw [if_neg (by simp only [List.length_nil]; omega)]⟩
  | v :: r, o, w, C, h, hl => by
    simp only [List.length_cons] at hl
    obtain ⟨C', h1, h2, h3⟩  := setCells_blk (e := e) g r (o + 1) (w.setCell ⟨g, o, none⟩ v) (C.setIfInBounds o v) (by simp [World.setCell, Array.getElem?_modify, h]) (by simp; omega)
    refine ⟨C', h1, by simpa using h2, fun j => ?_⟩
    rw [h3 j, Array.getElem?_setIfInBounds]
    simp only [List.length_cons]
    by_cases hj : o = j
    · subst hj
      rw [if_neg (by omega), if_pos rfl, if_pos (by omega), if_pos (by omega), Nat.sub_self]
      rfl
    · rw [if_neg hj]
      by_cases h4 : o + 1 ≤ j ∧ j < o + 1 + r.length
      · rw [if_pos h4, if_pos (by omega), show j - o = (j - (o + 1)) + 1 by omega, List.getElem?_cons_succ]
      · rw [if_neg h4, if_neg (by omega)]
theorem setCells_chg (g : Nat) : ∀ (vs : List Value) (o : Nat) (w : World), Chg (fun k => k = g) w (w.setCells g o vs)
  | [], _, _ => Chg.refl _ _
  | v :: r, o, w => ((Chg.refl (fun k => k = g) w).setCell ⟨g, o, none⟩ v (fun _ => rfl)).trans (setCells_chg g r (o + 1) (w.setCell ⟨g, o, none⟩ v)) (fun _ hk _ => hk)
theorem blk_cell {w : World} {g : Nat} {C : Array Value} {e : TypeId} (h : w.heap[g]? = some (.cells C e (0, 0))) (j : Nat) : w.cell? ⟨g, j, none⟩ = C[j]? := by simp [World.cell?, h]
theorem blk_frozen {w : World} {g : Nat} {C : Array Value} {e : TypeId} (h : w.heap[g]? = some (.cells C e (0, 0))) (j : Nat) : w.frozen? ⟨g, j, none⟩ = false := by simp [World.frozen?, h]

section
variable {P : Program}
theorem run_copy_cellsK (w : World) (dT sT ty elem : TypeId) (sz b o dLen dCap : Nat) (a : Addr) (sLen sCap n : Nat) (cs : List Value)
    (hu : P.underlying dT = some (.slice elem)) (hs : (P.info? elem).map (·.size) = some sz) (hn : Nat.min sLen dLen = n) (hl : cs.length = n * sz)
    (hsrc : ∀ j v, cs[j]? = some v → w.cell? (a.add j) = some v) (hc : ∀ j, j < cs.length → (w.cell? ⟨b, o + j, none⟩).isSome = true) (hf : ∀ j, j < cs.length → w.frozen? ⟨b, o + j, none⟩ = false) (h1 : ∀ v ∈ cs, v.oneCell' = true) :
    (Builtin.copy_ #[dT, sT] ty #[.slice (some ⟨b, o, none⟩) dLen dCap, .slice (some a) sLen sCap]).run P w = .ok (goInt n) (w.setCells b o cs) := by
  have hld := run_loadCells_list (P := P) w a cs hsrc
  have hst := run_storeCells_cells (P := P) b o cs 0 w (by simpa using hc) (by simpa using hf) h1
  cases hq : P.info? elem with
  | none => simp [hq] at hs
  | some i =>
    have hi : i.size = sz := by simpa [hq] using hs
    simp [Builtin.copy_, run_underlying hu, Builtin.lenOf, Builtin.firstCells, sizeOf, typeInfo, hq, hi, hn, ← hl, hld, hst]
theorem wp_copy_runK (w : World) {o : Oper} {a : Act} {K : Act → World → Prop} {Q : Exit → Act → World → Prop} (d s : Operand) (t t' : TypeId)
    (ho : o.op = .call { callee := .builtin .copy, args := #[d, s], argTypes := #[t, t'] }) (v u : Value) (hd : a.eval d = v) (hs : a.eval s = u) {v' : Value} {w' : World}
    (hr : (Builtin.copy_ #[t, t'] o.type #[v, u]).run P w = .ok v' w') (h : K (a.put o.dst v') w') : o.wp P a w K Q := by
  unfold Oper.wp execOp
  simp only [ho, resolve, invoke, builtin, Sem.run_bind, Sem.run_pure, Result.andThen_ok, List.map_toArray, List.map_cons, List.map_nil, hd, hs, hr]
  exact h
theorem wpList_copy_runK (w : World) {ops : Array Oper} {rest : List Oper} {o : Oper} {a : Act} {Q : Exit → Act → World → Prop} (hgd : o.guard = none) (d s : Operand) (t t' : TypeId)
    (ho : o.op = .call { callee := .builtin .copy, args := #[d, s], argTypes := #[t, t'] }) (v u : Value) (hd : a.eval d = v) (hs : a.eval s = u) {v' : Value} {w' : World}
    (hr : (Builtin.copy_ #[t, t'] o.type #[v, u]).run P w = .ok v' w') (h : wpList P ops Q rest (a.put o.dst v') w') : wpList P ops Q (o :: rest) a w :=
  wpList_plain hgd fun _ hK => wp_copy_runK w d s t t' ho v u hd hs hr (hK _ _ h)
theorem step_copy_runK {ops : Array Oper} {o : Oper} {a : Act} {w : World} {K : Act → World → Prop} {Q : Exit → Act → World → Prop} {E : Prop}
    (hg : o.guard = none) (d x : Operand) (dT sT : TypeId) (hop : o.op = Op.call { callee := Callee.builtin Builtin.copy, args := #[d, x], argTypes := #[dT, sT] })
    (v u : Value) (hd : a.eval d = v) (hx : a.eval x = u) {v' : Value} {w' : World} (hr : (Builtin.copy_ #[dT, sT] o.type #[v, u]).run P w = .ok v' w') (hK : K (a.put o.dst v') w') :
    if Region.wanted o (yielded ops a.tmps) = true then Oper.wp P o a w K Q else E := by
  have hw : Region.wanted o (yielded ops a.tmps) = true := by simp [Region.wanted, hg]
  rw [if_pos hw]
  unfold Oper.wp
  simp [execOp, hop, resolve, invoke, builtin, hd, hx, hr, Result.andThen]
  exact hK
end

/-- An owned row of cells, opened. -/
theorem OTris.blk {e : TypeId} {M : Nat → Prop} {w : World} {g o n cap : Nat} {l : List Tri} (h : OTris e M w (.slice (some ⟨g, o, none⟩) n cap) l) :
    n = l.length ∧ M g ∧ n ≤ cap ∧ cap ≤ maxLen ∧ (∀ m ∈ l, TriOk m) ∧ ∃ C : Array Value, w.heap[g]? = some (.cells C e (0, 0)) ∧ o + cap * 3 ≤ C.size ∧ ∀ j u, (encL l)[j]? = some u → C[o + j]? = some u := by
  obtain ⟨h1, h2⟩ := OTris.iff.1 h
  rcases h1.2 with ⟨e, _⟩ | ⟨g', o', cap', cur, e, hM, hg, g1, g2, g3, g4⟩
  · cases e
  injection e with e1 e2 e3
  injection e1 with e1
  injection e1 with e1 e4
  subst e1; subst e4; subst e3
  exact ⟨e2, hM, by omega, g2, h2, cur, hg, g3, g4⟩
theorem OTris.mkB {e : TypeId} {M : Nat → Prop} {w : World} {g o cap : Nat} {l : List Tri} (hM : M g) (h1 : l.length ≤ cap) (h2 : cap ≤ maxLen) (h3 : ∀ m ∈ l, TriOk m) {C : Array Value} (hg : w.heap[g]? = some (.cells C e (0, 0))) (h4 : o + cap * 3 ≤ C.size) (h5 : ∀ j u, (encL l)[j]? = some u → C[o + j]? = some u) :
    OTris e M w (.slice (some ⟨g, o, none⟩) l.length cap) l :=
  OTris.iff.2 ⟨⟨encL_length l, .inr ⟨g, o, cap, C, rfl, hM, hg, h1, h2, h4, h5⟩⟩, h3⟩
theorem encL_append (p q : List Tri) : encL (p ++ q) = encL p ++ encL q := by unfold encL; simp
theorem encL_cons (m : Tri) (q : List Tri) : encL (m :: q) = enc3 m ++ encL q := by unfold encL; simp
theorem encL_take (l : List Tri) (i : Nat) : encL (l.take i) = (encL l).take (i * 3) := by
  rcases Nat.le_total l.length i with h | h
  · rw [List.take_of_length_le h, List.take_of_length_le (by rw [encL_length]; omega)]
  · have e := encL_append (l.take i) (l.drop i)
    rw [List.take_append_drop] at e
    rw [e, List.take_left' (by rw [encL_length, List.length_take]; congr 1; omega)]
theorem encL_drop (l : List Tri) (i : Nat) : encL (l.drop i) = (encL l).drop (i * 3) := by
  rcases Nat.le_total l.length i with h | h
  · rw [List.drop_eq_nil_of_le h, List.drop_eq_nil_of_le (by rw [encL_length]; omega)]
    rfl
  · have e := encL_append (l.take i) (l.drop i)
    rw [List.take_append_drop] at e
    rw [e, List.drop_left' (by rw [encL_length, List.length_take]; congr 1; omega)]
theorem encL_one (l : List Tri) : ∀ u ∈ encL l, u.oneCell' = true := fun u hu => by
  obtain ⟨c, hc, hu⟩ := List.mem_flatten.1 hu
  obtain ⟨m, _, rfl⟩ := List.mem_map.1 hc
  simp [enc3] at hu
  rcases hu with rfl | rfl | rfl <;> rfl


/-- A share as the one element of a row of its own. -/
def OneAt (w : World) (vb : Nat) (c : Tri) : Prop := w.heap[vb]? = some (.cells #[.int .i64 c.1, .string c.2.1, .int .i64 c.2.2] 77 (0, 0))
theorem OneAt.news {w : World} {vb : Nat} {c : Tri} (h : OneAt w vb c) : ∀ j u, (enc3 c)[j]? = some u → w.cell? ((⟨vb, 0, none⟩ : Addr).add j) = some u := news_of (cs := enc3 c) h
theorem enc3_one (c : Tri) : ∀ u ∈ enc3 c, u.oneCell' = true := fun u hu => by
  simp [enc3] at hu
  rcases hu with rfl | rfl | rfl <;> rfl

end Go.Proofs.YtpmndblakmobdaaGreatDoor
/- HpL -/
namespace Go.Proofs.YtpmndblakmobdaaGreatDoor
open Go Go.RowKit

section
variable {P : Program}
theorem step_append_runK {ops : Array Oper} {o : Oper} {a : Act} {w : World} {K : Act → World → Prop} {Q : Exit → Act → World → Prop} {E : Prop}
    (hg : o.guard = none) (d x : Operand) (dT sT : TypeId) (hop : o.op = Op.call { callee := Callee.builtin Builtin.append, args := #[d, x], argTypes := #[dT, sT] })
    (v u : Value) (hd : a.eval d = v) (hx : a.eval x = u) {v' : Value} {w' : World} (hr : (Builtin.append_ #[dT, sT] o.type #[v, u]).run P w = .ok v' w') (hK : K (a.put o.dst v') w') :
    if Region.wanted o (yielded ops a.tmps) = true then Oper.wp P o a w K Q else E := by
  have hw : Region.wanted o (yielded ops a.tmps) = true := by simp [Region.wanted, hg]
  rw [if_pos hw]
  unfold Oper.wp
  simp [execOp, hop, resolve, invoke, builtin, hd, hx, hr, Result.andThen]
  exact hK
theorem wpList_clear_runK (w : World) {ops : Array Oper} {rest : List Oper} {o : Oper} {a : Act} {Q : Exit → Act → World → Prop} (hgd : o.guard = none) (d : Operand) (t : TypeId)
    (ho : o.op = .call { callee := .builtin .clear, args := #[d], argTypes := #[t] }) (v : Value) (hd : a.eval d = v) {v' : Value} {w' : World}
    (hr : (Builtin.clear_ #[t] o.type #[v]).run P w = .ok v' w') (h : wpList P ops Q rest (a.put o.dst v') w') : wpList P ops Q (o :: rest) a w :=
  wpList_plain hgd fun _ hK => by
    unfold Oper.wp execOp
    simp only [ho, resolve, invoke, builtin, Sem.run_bind, Sem.run_pure, Result.andThen_ok, List.map_toArray, List.map_cons, List.map_nil, hd, hr]
    exact hK _ _ h
end
def zero3 : List Value := [.int .i64 0, .string ByteArray.empty, .int .i64 0]
theorem clear_one (w : World) (ty : TypeId) (b o c : Nat) (hc : ∀ j, j < 3 → (w.cell? ⟨b, o + j, none⟩).isSome = true) (hf : ∀ j, j < 3 → w.frozen? ⟨b, o + j, none⟩ = false) :
    (Builtin.clear_ #[26] ty #[.slice (some ⟨b, o, none⟩) 1 c]).run Tryz.prog w = .ok (.tuple #[]) (w.setCells b o zero3) := by
  have hz : (Builtin.zeroCells zT.cells 1).toList = zero3 := by
    unfold Builtin.zeroCells
    rw [Array.toList_map, Array.toList_range]
    rfl
  have hz3 : zero3.length = 3 := rfl
  have hv := Tryz.zeroValue77
  have hst := run_storeCells_cells (P := Tryz.prog) b o zero3 0 w (by rw [hz3]; simpa using hc) (by rw [hz3]; simpa using hf) (fun v hv => by
    simp [zero3] at hv
    rcases hv with rfl | rfl | rfl <;> rfl)
  simp only [Nat.add_zero] at hst
  simp [Builtin.clear_, run_underlying Tryz.underlying26, hv]
  have hz2 : (Builtin.zeroCells (Value.agg #[Value.int .i64 0, Value.string { data := #[] }, Value.int .i64 0]).cells 1).toList = zero3 := hz
  rw [hz2, hst]
  rfl

end Go.Proofs.YtpmndblakmobdaaGreatDoor
/- HpM -/
namespace Go.Proofs.YtpmndblakmobdaaGreatDoor
open Go Go.RowKit

def getP (l : List Tri) (k : Tri) : Int := match l.find? (fun x => eqT x k) with
  | some m => m.2.2
  | none => 0
def dropP (l : List Tri) (k : Tri) : List Tri := l.filter fun x => !eqT x k
def setP : List Tri → Tri → List Tri
  | [], k => [k]
  | x :: t, k => if eqT x k = true then k :: t else if ltT k x = true then k :: x :: t else x :: setP t k
def freshP (l : List Tri) : Int := match l.getLast? with
  | some m => wrap64 (m.1 + 1)
  | none => 1
def noneV (b : Bool) : Value := if b = true then .nilIface else .iface 83 (.int .i64 15)

theorem Bnd.tail {x k : Tri} {t : List Tri} {j : Nat} (h : Bnd (x :: t) k (j + 1)) : Bnd t k j ∧ ltT x k = true := by
  obtain ⟨h1, h2, h3⟩ := h
  refine ⟨⟨by simpa using h1, fun s hs hj => h2 (s + 1) (by simpa using hs) (by omega), fun s hs hj => h3 (s + 1) (by simpa using hs) (by omega)⟩, h2 0 (by simp) (by omega)⟩
theorem setP_has {k : Tri} : ∀ {l : List Tri} {i : Nat}, Bnd l k i → (∃ h : i < l.length, eqT l[i] k = true) → setP l k = l.set i k
  | [], i, _, ⟨h, _⟩ => absurd h (Nat.not_lt_zero i)
  | x :: t, 0, _, ⟨_, h⟩ => by
    unfold setP
    rw [if_pos (show eqT x k = true from h)]
    rfl
  | x :: t, j + 1, hb, ⟨h1, h2⟩ => by
    obtain ⟨g1, g2⟩ := hb.tail
    unfold setP
    rw [if_neg (by rw [ltT_ne g2]; simp), if_neg (by rw [ltT_asymm g2]; simp), setP_has g1 ⟨by simpa using h1, h2⟩]
    rfl
theorem setP_no {k : Tri} : ∀ {l : List Tri} {i : Nat}, Bnd l k i → (∀ h : i < l.length, eqT l[i] k = false) → setP l k = l.take i ++ k :: l.drop i
  | [], i, hb, _ => by
    have : i = 0 := by have := hb.1; simpa using this
    subst this
    rfl
  | x :: t, 0, hb, h => by
    have e1 : eqT x k = false := h (by simp)
    have e2 : ltT x k = false := hb.2.2 0 (by simp) (Nat.le_refl _)
    have e3 : ltT k x = true := by
      cases g : ltT k x
      · rw [ltT_tri e2 g] at e1; cases e1
      · rfl
    unfold setP
    rw [if_neg (by rw [e1]; simp), if_pos e3]
    rfl
  | x :: t, j + 1, hb, h => by
    obtain ⟨g1, g2⟩ := hb.tail
    unfold setP
    rw [if_neg (by rw [ltT_ne g2]; simp), if_neg (by rw [ltT_asymm g2]; simp), setP_no g1 (fun hh => h (by simpa using hh))]
    rfl
theorem find_has {k : Tri} : ∀ {l : List Tri} {i : Nat}, Bnd l k i → (∃ h : i < l.length, eqT l[i] k = true) → ∃ h : i < l.length, getP l k = l[i].2.2
  | [], i, _, ⟨h, _⟩ => absurd h (Nat.not_lt_zero i)
  | x :: t, 0, _, ⟨h0, h⟩ => by
    have e : eqT x k = true := h
    exact ⟨h0, by unfold getP; rw [List.find?_cons_of_pos (p := fun x => eqT x k) e]; rfl⟩
  | x :: t, j + 1, hb, ⟨h1, h2⟩ => by
    obtain ⟨g1, g2⟩ := hb.tail
    obtain ⟨h3, h4⟩ := find_has g1 ⟨by simpa using h1, h2⟩
    refine ⟨h1, ?_⟩
    have e : getP (x :: t) k = getP t k := by unfold getP; rw [List.find?_cons_of_neg (p := fun x => eqT x k) (by rw [ltT_ne g2]; simp)]
    rw [e, h4]
    rfl
theorem getP_no {l : List Tri} {k : Tri} (h : hasL l k = false) : getP l k = 0 := by
  unfold getP
  have : l.find? (fun x => eqT x k) = none := by
    rw [List.find?_eq_none]
    intro x hx
    unfold hasL at h
    rw [List.any_eq_false] at h
    exact h x hx
  rw [this]
theorem dropP_self {l : List Tri} {k : Tri} (h : ∀ x ∈ l, eqT x k = false) : dropP l k = l := by
  unfold dropP
  rw [List.filter_eq_self]
  intro x hx
  rw [h x hx]
  rfl
theorem dropP_has {k : Tri} : ∀ {l : List Tri} {i : Nat}, Strict l → Bnd l k i → (∃ h : i < l.length, eqT l[i] k = true) → dropP l k = l.take i ++ l.drop (i + 1)
  | [], i, _, _, ⟨h, _⟩ => absurd h (Nat.not_lt_zero i)
  | x :: t, 0, hs, _, ⟨_, h⟩ => by
    have e : eqT x k = true := h
    obtain ⟨g1, _⟩ := List.pairwise_cons.1 hs
    have : dropP (x :: t) k = dropP t k := by unfold dropP; rw [List.filter_cons_of_neg (by simp [e])]
    rw [this, dropP_self (fun y hy => by
      have := ltT_ne (g1 y hy)
      cases hy2 : eqT y k
      · rfl
      · rw [eqT_trans e (eqT_symm hy2)] at this; cases this)]
    rfl
  | x :: t, j + 1, hs, hb, ⟨h1, h2⟩ => by
    obtain ⟨g1, g2⟩ := hb.tail
    have : dropP (x :: t) k = x :: dropP t k := by unfold dropP; rw [List.filter_cons_of_pos (by simp [ltT_ne g2])]
    rw [this, dropP_has (List.pairwise_cons.1 hs).2 g1 ⟨by simpa using h1, h2⟩]
    rfl
theorem Bnd.yes {l : List Tri} {k : Tri} {i : Nat} (h : Bnd l k i) (hs : Strict l) (hh : hasL l k = true) : ∃ g : i < l.length, eqT l[i] k = true := by
  rw [h.has hs] at hh
  by_cases g : i < l.length
  · rw [dif_pos g] at hh; exact ⟨g, hh⟩
  · rw [dif_neg g] at hh; cases hh
theorem Bnd.not {l : List Tri} {k : Tri} {i : Nat} (h : Bnd l k i) (hs : Strict l) (hh : hasL l k = false) : ∀ g : i < l.length, eqT l[i] k = false := fun g => by
  rw [h.has hs, dif_pos g] at hh
  exact hh

theorem bnd_ex {k : Tri} : ∀ {l : List Tri}, Strict l → ∃ i, Bnd l k i
  | [], _ => ⟨0, Nat.le_refl _, fun t h => absurd h (Nat.not_lt_zero t), fun t h => absurd h (Nat.not_lt_zero t)⟩
  | x :: t, hs => by
    obtain ⟨g1, g2⟩ := List.pairwise_cons.1 hs
    cases hx : ltT x k
    · refine ⟨0, Nat.zero_le _, fun s _ h => absurd h (Nat.not_lt_zero s), fun s hs2 _ => ?_⟩
      cases s with
      | zero => exact hx
      | succ s =>
        have hs3 : s < t.length := by simpa using hs2
        have hm : ltT x t[s] = true := g1 _ (List.getElem_mem hs3)
        show ltT t[s] k = false
        cases h2 : ltT t[s] k
        · rfl
        · rw [ltT_trans hm h2] at hx; cases hx
    · obtain ⟨i, h1, h2, h3⟩ := bnd_ex g2
      refine ⟨i + 1, by simpa using h1, fun s hs2 h => ?_, fun s hs2 h => ?_⟩
      · cases s with
        | zero => exact hx
        | succ s => exact h2 s (by simpa using hs2) (by omega)
      · cases s with
        | zero => omega
        | succ s => exact h3 s (by simpa using hs2) (by omega)
theorem Bnd.key {l : List Tri} {a : Int} {f : ByteArray} {z z' : Int} {i : Nat} (h : Bnd l (a, f, z) i) : Bnd l (a, f, z') i := h
theorem hasL_key (l : List Tri) (a : Int) (f : ByteArray) (z z' : Int) : hasL l (a, f, z) = hasL l (a, f, z') := rfl

theorem OTris.cells {e : TypeId} {M : Nat → Prop} {w : World} {v : Value} {l : List Tri} (h : OTris e M w v l) (hb : l.length * 32 ≤ big) : ∃ A cap, v = .slice A l.length cap ∧ Tris M w A l cap := by
  obtain ⟨A, cap, e, _⟩ := h.value
  subst e
  exact ⟨A, cap, rfl, h.tris hb⟩

end Go.Proofs.YtpmndblakmobdaaGreatDoor
/- HpN -/
namespace Go.Proofs.YtpmndblakmobdaaGreatDoor
open Go Go.RowKit

theorem encL_set3 (l : List Tri) (i : Nat) (c : Tri) (hi : i < l.length) : ((((encL l).set (i * 3) (.int .i64 c.1)).set (i * 3 + 1) (.string c.2.1)).set (i * 3 + 2) (.int .i64 c.2.2)) = encL (l.set i c) := by
  apply List.ext_getElem?
  intro t
  by_cases ht : t < l.length * 3
  · rw [encL_set _ t ht, List.getElem?_set, List.length_set, List.length_set, encL_length, List.getElem?_set, List.length_set, encL_length, List.getElem?_set, encL_length]
    by_cases h5 : t / 3 = i
    · rw [if_pos h5]
      have h7 : t % 3 = 0 ∨ t % 3 = 1 ∨ t % 3 = 2 := by omega
      rcases h7 with h7 | h7 | h7 <;> rw [h7]
      · rw [if_neg (by omega), if_neg (by omega), if_pos (by omega), if_pos (by omega)]; rfl
      · rw [if_neg (by omega), if_pos (by omega), if_pos (by omega)]; rfl
      · rw [if_pos (by omega), if_pos (by omega)]; rfl
    · rw [if_neg h5, if_neg (by omega), if_neg (by omega), if_neg (by omega)]
  · rw [List.getElem?_eq_none (by rw [List.length_set, List.length_set, List.length_set, encL_length]; omega), List.getElem?_eq_none (by rw [encL_length, List.length_set]; omega)]
theorem OTris.setC {e : TypeId} {M : Nat → Prop} {w : World} {g o n cap : Nat} {l : List Tri} (h : OTris e M w (.slice (some ⟨g, o, none⟩) n cap) l) (i : Nat) (hi : i < l.length) {c : Tri} (hc : TriOk c) :
    (∀ j, j < 3 → w.frozen? ⟨g, o + i * 3 + j, none⟩ = false ∧ ∃ u, w.cell? ⟨g, o + i * 3 + j, none⟩ = some u) ∧ M g ∧ OTris e M (((w.setCell ⟨g, o + i * 3, none⟩ (.int .i64 c.1)).setCell ⟨g, o + i * 3 + 1, none⟩ (.string c.2.1)).setCell ⟨g, o + i * 3 + 2, none⟩ (.int .i64 c.2.2)) (.slice (some ⟨g, o, none⟩) n cap) (l.set i c) := by
  have hn := h.blk.1
  subst hn
  obtain ⟨h1, h2⟩ := OTris.iff.1 h
  have hj : ∀ j, j < 3 → i * 3 + j < (encL l).length := fun j hj => by rw [encL_length]; omega
  obtain ⟨_, _, hM, h3⟩ := h1.put (hj 0 (by omega)) (.int .i64 c.1)
  obtain ⟨_, _, _, h4⟩ := h3.put (j := i * 3 + 1) (by rw [List.length_set]; exact hj 1 (by omega)) (.string c.2.1)
  obtain ⟨_, _, _, h5⟩ := h4.put (j := i * 3 + 2) (by rw [List.length_set, List.length_set]; exact hj 2 (by omega)) (.int .i64 c.2.2)
  refine ⟨fun j hj3 => ?_, hM, OTris.iff.2 ⟨?_, fun m hm => ?_⟩⟩
  · obtain ⟨f, g, _⟩ := h1.put (hj j hj3) (.int .i64 0)
    rw [← Nat.add_assoc] at f g
    exact ⟨f, _, g⟩
  · rw [List.length_set, ← encL_set3 l i c hi]
    simp only [Nat.add_zero, ← Nat.add_assoc] at h5
    exact h5
  · rcases List.mem_or_eq_of_mem_set hm with hm | rfl
    · exact h2 m hm
    · exact hc

/-- What heap.Set answers. -/
def SetRet (w : World) (r : List Tri) (e : Ending) (w' : World) : Prop := ∃ A' n' cap', e = .returned (.slice A' n' cap') ∧ n' = r.length ∧ OTris 77 (fun k => w.heap.size ≤ k) w' (.slice A' n' cap') r ∧ Chg No w w'

end Go.Proofs.YtpmndblakmobdaaGreatDoor
/- HpO -/
namespace Go.Proofs.YtpmndblakmobdaaGreatDoor
open Go Go.RowKit

theorem eqT_of {x f z a g u : _} (h : (x : Int) = a ∧ ((f : ByteArray).toList == (g : ByteArray).toList) = true) : eqT (x, f, (z : Int)) (a, g, (u : Int)) = true := by
  show eqK x f a g = true
  unfold eqK
  rw [h.2]
  simp [h.1]
theorem eqT_not {x f z a g u : _} (h : ¬ ((x : Int) = a ∧ ((f : ByteArray).toList == (g : ByteArray).toList) = true)) : eqT (x, f, (z : Int)) (a, g, (u : Int)) = false := by
  show eqK x f a g = false
  unfold eqK
  by_cases hx : x = a
  · cases hf : (f.toList == g.toList)
    · simp
    · exact absurd ⟨hx, hf⟩ h
  · simp [hx]

set_option maxRecDepth 100000 in
set_option maxHeartbeats 2000000 in
theorem refGet_any {R : Nat → Prop} {w : World} {A : Option Addr} {l : List Tri} {cap : Nat} (hl : Tris R w A l cap) (a : Int) (g : ByteArray) :
    Calls Tryz.prog 8 #[.slice A l.length cap, .int .i64 a, .string g] w fun e w' => e = .returned (.tuple #[.int .i64 (getP l (a, g, 0)), .bool (hasL l (a, g, 0))]) ∧ Chg No w w' := by
  have HL := Lib.hid (fun W (h : Chg No w W) => hl.no triE_good h)
  have hb := hl.big
  unfold big at hb
  clear hl
  go_enter Tryz.func8, Tryz.ntmps8
  go_wp2_with fail
  go_loopw [8] (fun s8 wr => ∃ k : Nat, k ≤ l.length ∧ s8 = .int .i64 k ∧ Hid (Chg No w wr) ∧ Hid (∀ j (h : j < l.length), j < k → eqT l[j] (a, g, 0) = false)) (fun s8 _ => l.length - (intOf s8).toNat)
  case atStart => exact ⟨0, Nat.zero_le _, rfl, Chg.refl _ _, fun j _ h => absurd h (Nat.not_lt_zero j)⟩
  case round =>
    obtain ⟨k, hk, rfl, hch, hI⟩ := hrel
    by_cases hlt : k < l.length
    · obtain ⟨b, off, hA, c0, c1, c2⟩ := (HL.out wr hch.out).tri_at k hlt
      have HF : Hid (eqT l[k] (a, g, 0) = true → getP l (a, g, 0) = l[k].2.2 ∧ hasL l (a, g, 0) = true) := fun h => by
        have e : l.find? (fun x => eqT x (a, g, 0)) = some l[k] := by
          rw [List.find?_eq_some_iff_getElem]
          exact ⟨h, k, hlt, rfl, fun j hj => by simp [hI.out j (by omega) hj]⟩
        refine ⟨by unfold getP; rw [e], ?_⟩
        unfold hasL
        rw [List.any_eq_true]
        exact ⟨_, List.getElem_mem hlt, h⟩
      have HN : Hid (eqT l[k] (a, g, 0) = false → ∀ j (h : j < l.length), j < k + 1 → eqT l[j] (a, g, 0) = false) := fun h j hj hj2 => by
        rcases Nat.lt_or_ge j k with g1 | g1
        · exact hI.out j hj g1
        · obtain rfl : j = k := by omega
          exact h
      subst hA
      generalize l[k] = m at *
      obtain ⟨x, f, z⟩ := m
      dsimp only at c0 c1 c2 HF
      by_cases heq : x = a ∧ (f.toList == g.toList) = true
      · have hF := HF.out (eqT_of heq)
        have HR := Lib.hid hF
        obtain ⟨hx, hf⟩ := heq
        have hdx : (x == a) = true := by simpa using hx
        clear HF HN hF hx
        go_wp2_with fail
        go_ret2
        exact ⟨by rw [HR.out.1, HR.out.2]; rfl, hch.out⟩
      · have HR := Lib.hid (HN.out (eqT_not heq))
        clear HF HN
        by_cases hx : x = a
        case' pos =>
          have hf : (f.toList == g.toList) = false := by
            cases hf : (f.toList == g.toList)
            · rfl
            · exact absurd ⟨hx, hf⟩ heq
          have hdx : (x == a) = true := by simpa using hx
        case' neg => have hdx : (x == a) = false := by simpa using hx
        all_goals
          clear hx heq
          go_wp2_with fail
          go_roundw
          case rel => exact ⟨k + 1, hlt, by go_num, hch.out, HR.out⟩
          case measure => simp [intOf]; omega
    · have hn : hasL l (a, g, 0) = false := by
        unfold hasL
        rw [List.any_eq_false]
        intro x hx
        obtain ⟨j, hj, rfl⟩ := List.getElem_of_mem hx
        rw [hI.out j hj (by omega)]
        simp
      have HR : Hid (getP l (a, g, 0) = 0 ∧ hasL l (a, g, 0) = false) := ⟨getP_no hn, hn⟩
      clear hn
      go_wp2_with fail
      go_ret2
      exact ⟨by rw [HR.out.1, HR.out.2]; rfl, hch.out⟩

theorem dropP_take {l : List Tri} {k : Nat} (c : Tri) (hk : k < l.length) {o : List Tri} (h : dropP (l.take k) c = o) : dropP (l.take (k + 1)) c = if eqT l[k] c = true then o else o ++ [l[k]] := by
  rw [List.take_succ_eq_append_getElem hk]
  unfold dropP at *
  rw [List.filter_append, h]
  cases h2 : eqT l[k] c <;> simp [h2]
theorem dropP_len (l : List Tri) (c : Tri) : (dropP l c).length ≤ l.length := List.length_filter_le _ _
set_option maxRecDepth 100000 in
set_option maxHeartbeats 2000000 in
theorem refDrop_any {R : Nat → Prop} {w : World} {A : Option Addr} {l : List Tri} {cap : Nat} (hl : Tris R w A l cap) (hlen : l.length ≤ 100000) (a : Int) (g : ByteArray) :
    Calls Tryz.prog 21 #[.slice A l.length cap, .int .i64 a, .string g] w (SetRet w (dropP l (a, g, 0))) := by
  have HL := Lib.hid (fun W (h : Chg No w W) => hl.no triE_good h)
  clear hl
  go_enter Tryz.func21, Tryz.ntmps21
  go_wp2_with fail
  go_loopw [7, 8] (fun s7 s8 wr => ∃ (k n cap : Nat) (Ao : Option Addr) (o : List Tri), s8 = .int .i64 k ∧ s7 = .slice Ao n cap ∧ k ≤ l.length ∧ Hid (n = o.length) ∧ Hid (Chg No w wr) ∧ Hid (OTris 77 (fun j => w.heap.size ≤ j) wr (.slice Ao n cap) o) ∧ Hid (dropP (l.take k) (a, g, 0) = o)) (fun _ s8 _ => l.length - (intOf s8).toNat)
  case atStart => exact ⟨0, 0, 0, none, [], rfl, rfl, Nat.zero_le _, rfl, Chg.refl _ _, OwnL.nil _ _ _ _ _, rfl⟩
  case round =>
    obtain ⟨k, n, cap, Ao, o, rfl, rfl, hks, hn, hch, hown, hI⟩ := hrel
    by_cases hlt : k < l.length
    · obtain ⟨b, off, hA, c0, c1, c2⟩ := (HL.out wr hch.out).tri_at k hlt
      have HOK := Lib.hid ((HL.out wr hch.out).tri_ok k hlt)
      have HNX := Lib.hid (dropP_take (a, g, 0) hlt hI.out)
      have HLB : Hid ((o.length + 1) * 32 ≤ 140737488355328) := by
        have h1 := dropP_len (l.take k) (a, g, 0)
        rw [hI.out, List.length_take] at h1
        unfold Hid
        omega
      have HMM : Hid (∀ j, wr.heap.size ≤ j → w.heap.size ≤ j) := fun j hj => Nat.le_trans hch.out.size hj
      subst hA
      generalize l[k] = m at *
      obtain ⟨x, f, z⟩ := m
      dsimp only at c0 c1 c2
      by_cases heq : x = a ∧ (f.toList == g.toList) = true
      · have HR : Hid (dropP (l.take (k + 1)) (a, g, 0) = o) := HNX.out.trans (by rw [if_pos (eqT_of heq)])
        obtain ⟨hx, hf⟩ := heq
        have hdx : (x != a) = false := by simpa using hx
        have hdf : (!(f.toList == g.toList)) = false := by rw [hf]; rfl
        have hdf2 : (f.toList != g.toList) = false := hdf
        clear hx HNX
        go_wp2_with fail
        go_roundw
        case rel => exact ⟨k + 1, n, cap, Ao, o, by go_num, rfl, hlt, hn, hch, hown, HR⟩
        case measure => simp [intOf]; omega
      · have HR : Hid (dropP (l.take (k + 1)) (a, g, 0) = o ++ [(x, f, z)]) := HNX.out.trans (by rw [if_neg (by rw [eqT_not heq]; simp)])
        clear HNX
        by_cases hx : x = a
        case' pos =>
          have hf : (f.toList == g.toList) = false := by
            cases hf : (f.toList == g.toList)
            · rfl
            · exact absurd ⟨hx, hf⟩ heq
          have hdx : (x != a) = false := by simpa using hx
        case' neg => have hdx : (x != a) = true := by simpa using hx
        all_goals
          clear hx heq
          go_wp2_with (at_builtin; refine wpList_pushL triV_good cellsTy rfl (.tmp 31) (.tmp 36) rfl HMM.out hown.out rfl (tri_of (m := (x, f, z)) HOK.out.1 HOK.out.2.1 HOK.out.2.2) (by simp [Value.oneCell']) rfl HLB.out ?_; intro A' cap' w5 g1 g2; have G2 := Lib.hid (OTris.of g1); have G3 := Lib.hid (hch.out.trans g2 (fun q hq hlt => by have := (hown.out.mine _ hq).1; omega)); clear g1 g2)
          go_roundw
          case rel => exact ⟨k + 1, o.length + 1, cap', A', o ++ [(x, f, z)], by go_num, rfl, hlt, by simp [Hid], G3, G2, HR⟩
          case measure => simp [intOf]; omega
    · have hk : k = l.length := by omega
      have HI : Hid (dropP l (a, g, 0) = o) := by have := hI.out; rwa [hk, List.take_length] at this
      go_wp2_with fail
      go_ret
      exact ⟨Ao, n, cap, rfl, by rw [HI.out]; exact hn.out, by rw [HI.out]; exact hown.out, hch.out⟩
end Go.Proofs.YtpmndblakmobdaaGreatDoor
/- HpQ -/
namespace Go.Proofs.YtpmndblakmobdaaGreatDoor
open Go Go.RowKit

def stepB (s : Tri) (acc : List Tri × Bool) (x : Tri) : List Tri × Bool :=
  if acc.2 = false ∧ ltT s x = true then (acc.1 ++ [s] ++ [x], true) else (acc.1 ++ [x], acc.2)
def foldB (s : Tri) (l : List Tri) : List Tri × Bool := l.foldl (stepB s) ([], false)
theorem foldB_take {s : Tri} {l : List Tri} {k : Nat} (hk : k < l.length) {r : List Tri × Bool} (h : foldB s (l.take k) = r) : foldB s (l.take (k + 1)) = stepB s r l[k] := by
  rw [List.take_succ_eq_append_getElem hk]
  unfold foldB at *
  rw [List.foldl_append, h]
  rfl
theorem foldB_len (s : Tri) (l : List Tri) : (foldB s l).1.length ≤ 2 * l.length := by
  have h : ∀ (l : List Tri) (a : List Tri × Bool), (l.foldl (stepB s) a).1.length ≤ a.1.length + 2 * l.length := by
    intro l
    induction l with
    | nil => intro a; exact Nat.le_refl _
    | cons x t ih =>
      intro a
      have h1 := ih (stepB s a x)
      have h2 : (stepB s a x).1.length ≤ a.1.length + 2 := by unfold stepB; split <;> simp
      simp only [List.foldl_cons, List.length_cons]
      omega
  have := h l ([], false)
  simpa [foldB] using this
def setR (l : List Tri) (s : Tri) : List Tri := if (foldB s (dropP l s)).2 = true then (foldB s (dropP l s)).1 else (foldB s (dropP l s)).1 ++ [s]
theorem fold_ab (s : Tri) : ∀ (l : List Tri) (a : List Tri × Bool), (∀ x ∈ l, eqT x s = false) → l.foldl (stepB s) a = l.foldl (stepA s) a
  | [], _, _ => rfl
  | x :: t, a, h => by
    rw [List.foldl_cons, List.foldl_cons, fold_ab s t _ (fun y hy => h y (by simp [hy]))]
    congr 1
    unfold stepA stepB
    rw [if_neg (show ¬ eqT x s = true by rw [h x (by simp)]; simp)]
theorem dropP_none {l : List Tri} {s x : Tri} (h : x ∈ dropP l s) : eqT x s = false := by
  unfold dropP at h
  simpa using (List.mem_filter.1 h).2
theorem strict_drop {l : List Tri} (h : Strict l) (s : Tri) : Strict (dropP l s) := h.filter _
theorem addR_drop {s : Tri} : ∀ {l : List Tri}, Strict l → addR (dropP l s) s = setP l s
  | [], _ => rfl
  | x :: t, hs => by
    obtain ⟨h1, h2⟩ := List.pairwise_cons.1 hs
    have ih := addR_drop (s := s) h2
    unfold setP
    by_cases he : eqT x s = true
    · rw [if_pos he]
      have e : dropP (x :: t) s = t := by
        unfold dropP
        rw [List.filter_cons_of_neg (by simp [he])]
        exact dropP_self (fun y hy => by
          have := ltT_ne (h1 y hy)
          cases hys : eqT y s
          · rfl
          · rw [eqT_trans he (eqT_symm hys)] at this; cases this)
      rw [e]
      cases t with
      | nil => rfl
      | cons y t =>
        have h3 : ltT s y = true := by rw [← eqT_lt he]; exact h1 y (by simp)
        unfold addR
        rw [if_neg (by rw [eqT_comm, ltT_ne h3]; simp), if_pos h3]
    · rw [if_neg he]
      have e : dropP (x :: t) s = x :: dropP t s := by unfold dropP; rw [List.filter_cons_of_pos (by simpa using he)]
      rw [e]
      unfold addR
      rw [if_neg he]
      by_cases hl : ltT s x = true
      · rw [if_pos hl, if_pos hl]
        rw [dropP_self (fun y hy => by rw [eqT_comm]; exact ltT_ne (ltT_trans hl (h1 y hy)))]
      · rw [if_neg hl, if_neg hl, ih]
theorem setR_eq {l : List Tri} (h : Strict l) (s : Tri) : setR l s = setP l s := by
  have e : foldB s (dropP l s) = foldA s (dropP l s) := fold_ab s _ _ (fun x hx => dropP_none hx)
  have : setR l s = addS (dropP l s) s := by unfold setR addS; rw [e]
  rw [this, addS_eq (strict_drop h s), addR_drop h]
theorem addR_ok {s : Tri} (hs : TriOk s) : ∀ {o : List Tri}, (∀ m ∈ o, TriOk m) → ∀ m ∈ setP o s, TriOk m
  | [], _, m, hm => by
    have e : m = s := by simpa [setP] using hm
    rw [e]
    exact hs
  | x :: t, h, m, hm => by
    unfold setP at hm
    split at hm
    · rcases List.mem_cons.1 hm with rfl | hm
      · exact hs
      · exact h m (by simp [hm])
    · split at hm
      · rcases List.mem_cons.1 hm with rfl | hm
        · exact hs
        · exact h m hm
      · rcases List.mem_cons.1 hm with rfl | hm
        · exact h _ (by simp)
        · exact addR_ok hs (fun m hm => h m (by simp [hm])) m hm

set_option maxRecDepth 100000 in
set_option maxHeartbeats 4000000 in
theorem refSet_any {R : Nat → Prop} {w : World} {A : Option Addr} {l : List Tri} {cap : Nat} (hl : Tris R w A l cap) (hlen : l.length ≤ 50000) (x : Int) (f : ByteArray) (z : Int) (hc : TriOk (x, f, z)) :
    Calls Tryz.prog 9 #[.slice A l.length cap, .int .i64 x, .string f, .int .i64 z] w (SetRet w (setR l (x, f, z))) := by
  have HDR := Lib.hid (refDrop_any hl (by omega) x f)
  have HOK := Lib.hid hc
  have HB := Lib.hid below_any
  have hdl := dropP_len l (x, f, 0)
  have hdd : dropP l (x, f, 0) = dropP l (x, f, z) := rfl
  clear hl hc
  have HSR : Hid (setR l (x, f, z) = if (foldB (x, f, z) (dropP l (x, f, z))).2 = true then (foldB (x, f, z) (dropP l (x, f, z))).1 else (foldB (x, f, z) (dropP l (x, f, z))).1 ++ [(x, f, z)]) := rfl
  generalize setR l (x, f, z) = res at *
  rw [hdd] at HDR hdl
  generalize dropP l (x, f, z) = L at *
  have hL : L.length ≤ 50000 := by omega
  clear hdl hdd hlen
  go_enter Tryz.func9, Tryz.ntmps9
  go_wp2_with (go_at_call 21; refine HDR.out.mono ?_; rintro e w1 ⟨AL, nL, capL, rfl, h1, h2, h3⟩; have H1 := Lib.hid h1; have H2 := Lib.hid h2; have H3 := Lib.hid h3; clear h1 h2 h3)
  obtain rfl : nL = L.length := H1.out
  have HL : Hid (∀ W, Chg No w1 W → Tris (fun k => k < w1.heap.size) W AL L capL) := fun W h => ((H2.out.tris (by unfold big; omega)).mono triE_good (fun k hk _ => hk)).no triE_good h
  clear H1 H2 HDR
  go_loopw [10, 11, 12] (fun s10 s11 s12 wr => ∃ (k n cap : Nat) (Ao : Option Addr) (o : List Tri) (d : Bool), s12 = .int .i64 k ∧ s11 = .bool d ∧ s10 = .slice Ao n cap ∧ k ≤ L.length ∧ Hid (n = o.length) ∧ Hid (Chg No w1 wr) ∧ Hid (OTris 77 (fun j => w1.heap.size ≤ j) wr (.slice Ao n cap) o) ∧ Hid (foldB (x, f, z) (L.take k) = (o, d))) (fun _ _ s12 _ => L.length - (intOf s12).toNat)
  case atStart => exact ⟨0, 0, 0, none, [], false, rfl, rfl, rfl, Nat.zero_le _, rfl, Chg.refl _ _, OwnL.nil _ _ _ _ _, rfl⟩
  case round =>
    obtain ⟨k, n, cap, Ao, o, d, rfl, rfl, rfl, hks, hn, H1, H2, hI⟩ := hrel
    have HOL : Hid (o.length ≤ 200000) := by
      have h1 := foldB_len (x, f, z) (L.take k)
      rw [hI.out, List.length_take] at h1
      simp only at h1
      unfold Hid
      omega
    have HLB : Hid ((o.length + 1) * 32 ≤ 140737488355328) := by have := HOL.out; unfold Hid; omega
    have HLB2 : Hid (((o ++ [(x, f, z)]).length + 1) * 32 ≤ 140737488355328) := by have := HOL.out; unfold Hid; simp; omega
    by_cases hlt : k < L.length
    · obtain ⟨b, off, hA, c0, c1, c2⟩ := (HL.out wr H1.out).tri_at k hlt
      have HMO := Lib.hid ((HL.out wr H1.out).tri_ok k hlt)
      have HNX := Lib.hid (foldB_take hlt hI.out)
      have HBL : Hid (b < w1.heap.size) := by
        obtain ⟨b', o', e, d0, _⟩ := (HL.out w1 (Chg.refl _ _)).tri_at k hlt
        rw [hA] at e
        simp only [Option.some.injEq, Addr.mk.injEq, and_true] at e
        have := cell_lt d0
        unfold Hid
        omega
      subst hA
      generalize L[k] = m at *
      obtain ⟨x', f', z'⟩ := m
      dsimp only at c0 c1 c2
      have HR : Hid (foldB (x, f, z) (L.take (k + 1)) = if d = false ∧ ltT (x, f, z) (x', f', z') = true then (o ++ [(x, f, z)] ++ [(x', f', z')], true) else (o ++ [(x', f', z')], d)) := HNX.out.trans (by unfold stepB; rfl)
      have HBQ : Hid (∀ W, Calls Tryz.prog 22 #[.int .i64 x, .string f, .int .i64 x', .string f'] W fun e w' => e = .returned (.bool (ltT (x, f, z) (x', f', z'))) ∧ w' = W) := fun W => (HB.out x f x' f' W).mono (fun e w' h => ⟨h.1, h.2.symm⟩)
      generalize ltT (x, f, z) (x', f', z') = lt at *
      clear HNX
      have HCH : Hid (∀ d, Chg No w1 (wr.drewN d)) := fun d => H1.out.drewN d
      have HOW : Hid (∀ d, OTris 77 (fun j => w1.heap.size ≤ j) (wr.drewN d) (.slice Ao n cap) o) := fun d => H2.out.no triV_good ((Chg.refl _ _).drewN d)
      have HM : Hid (∀ d, (wr.drewN d).cell? ⟨b, off + k * 3, none⟩ = some (.int .i64 x') ∧ (wr.drewN d).cell? ⟨b, off + k * 3 + 1, none⟩ = some (.string f') ∧ (wr.drewN d).cell? ⟨b, off + k * 3 + 2, none⟩ = some (.int .i64 z')) := fun d => ⟨c0, c1, c2⟩
      have HBX : Hid (∀ m, _) := fun m => Calls.quiet_of_same (HBQ.out (wr.drewN m))
      go_upto_region 7 with fail
      go_quiet ((go_at_call 22; exact HBX.out _))
      have H1' := Lib.hid (HCH.out nq)
      have H2' := Lib.hid (HOW.out nq)
      clear c0 c1 c2 HCH HOW H1 H2
      have H1 := H1'
      have H2 := H2'
      clear H1' H2'
      obtain ⟨c0, c1, c2⟩ := HM.out nq
      clear HM
      generalize wr.drewN nq = wp at *
      have hM3 : Hid (∀ j, wp.heap.size ≤ j → w1.heap.size ≤ j) := fun j hj => Nat.le_trans H1.out.size hj
      have HK : Hid (∀ A2 n2 cap2 o2 W w7, Chg No w1 W → OTris 77 (fun j => w1.heap.size ≤ j) W (.slice A2 n2 cap2) o2 → W.cell? ⟨b, off + k * 3, none⟩ = some (.int .i64 x') → W.cell? ⟨b, off + k * 3 + 1, none⟩ = some (.string f') → W.cell? ⟨b, off + k * 3 + 2, none⟩ = some (.int .i64 z') → Chg (fun k => (Value.slice A2 n2 cap2).ownBlock = some k) W w7 → w7.cell? ⟨b, off + k * 3, none⟩ = some (.int .i64 x') ∧ w7.cell? ⟨b, off + k * 3 + 1, none⟩ = some (.string f') ∧ w7.cell? ⟨b, off + k * 3 + 2, none⟩ = some (.int .i64 z') ∧ Chg No w1 w7 ∧ ∀ j, w7.heap.size ≤ j → w1.heap.size ≤ j) := fun A2 n2 cap2 o2 W w7 hW ho d0 d1 d2 h => by
        have e2 : (Value.slice A2 n2 cap2).ownBlock ≠ some b := fun e => by have := (ho.mine _ e).1; have := HBL.out; omega
        have hc := hW.trans h (fun q hq hlt => by have := (ho.mine _ hq).1; omega)
        exact ⟨h.cell d0 e2, h.cell d1 e2, h.cell d2 e2, hc, fun j hj => Nat.le_trans hc.size hj⟩
      by_cases hs : d = false ∧ lt = true
      · obtain ⟨rfl, rfl⟩ := hs
        rw [if_pos ⟨rfl, rfl⟩] at HR
        go_upto_region 11 with (at_builtin; refine wpList_pushL triV_good cellsTy rfl (.tmp 42) (.tmp 47) rfl hM3.out H2.out rfl (tri_of (m := (x, f, z)) HOK.out.1 HOK.out.2.1 HOK.out.2.2) (by simp [Value.oneCell']) rfl HLB.out ?_; intro A2 cap2 w7 g1 g2; obtain ⟨c0', c1', c2', hc, hm⟩ := HK.out _ _ _ _ _ _ H1.out H2.out c0 c1 c2 g2; clear c0 c1 c2; have G1 := Lib.hid (OTris.of g1); have G2 := Lib.hid hc; have G3 := Lib.hid hm; clear g1 g2 hc hm)
        go_wp2_with (at_builtin; refine wpList_pushL triV_good cellsTy rfl (.tmp 49) (.tmp 54) rfl G3.out G1.out rfl (tri_of (m := (x', f', z')) HMO.out.1 HMO.out.2.1 HMO.out.2.2) (by simp [Value.oneCell']) rfl HLB2.out ?_; intro A3 cap3 w8 g1 g2; obtain ⟨_, _, _, hc, _⟩ := HK.out _ _ _ _ _ _ G2.out G1.out c0' c1' c2' g2; clear c0' c1' c2'; have G4 : Hid (OTris 77 (fun j => w1.heap.size ≤ j) w8 (.slice A3 (o.length + 1 + 1) cap3) (o ++ [(x, f, z)] ++ [(x', f', z')])) := (by have h := OTris.of g1; rw [List.length_append] at h; exact h); have G5 := Lib.hid hc; clear g1 g2 hc)
        go_roundw
        case rel => exact ⟨k + 1, _, cap3, A3, o ++ [(x, f, z)] ++ [(x', f', z')], true, by go_num, rfl, rfl, hlt, by simp [Hid], G5, G4, HR⟩
        case measure => simp [intOf]; omega
      · rw [if_neg hs] at HR
        have hor : d = true ∨ (d = false ∧ lt = false) := by
          cases d
          · cases lt
            · exact .inr ⟨rfl, rfl⟩
            · exact absurd ⟨rfl, rfl⟩ hs
          · exact .inl rfl
        clear hs
        rcases hor with rfl | ⟨rfl, rfl⟩
        all_goals
          go_upto_region 11 with fail
          go_wp2_with (at_builtin; refine wpList_pushL triV_good cellsTy rfl (.tmp 49) (.tmp 54) rfl hM3.out H2.out rfl (tri_of (m := (x', f', z')) HMO.out.1 HMO.out.2.1 HMO.out.2.2) (by simp [Value.oneCell']) rfl HLB.out ?_; intro A3 cap3 w8 g1 g2; obtain ⟨_, _, _, hc, _⟩ := HK.out _ _ _ _ _ _ H1.out H2.out c0 c1 c2 g2; clear c0 c1 c2; have G4 := Lib.hid (OTris.of g1); have G5 := Lib.hid hc; clear g1 g2 hc)
          go_roundw
          case rel => exact ⟨k + 1, _, cap3, A3, o ++ [(x', f', z')], _, by go_num, rfl, rfl, hlt, by simp [Hid], G5, G4, HR⟩
          case measure => simp [intOf]; omega
    · have hk : k = L.length := by omega
      have HI : Hid (foldB (x, f, z) L = (o, d)) := by have := hI.out; rwa [hk, List.take_length] at this
      have HMM : Hid (∀ j, wr.heap.size ≤ j → w1.heap.size ≤ j) := fun j hj => Nat.le_trans H1.out.size hj
      cases hd : d
      · have HN : Hid (res = o ++ [(x, f, z)]) := HSR.out.trans (by rw [HI.out, hd]; rfl)
        subst hd
        go_wp2_with (at_builtin; refine wpList_pushL triV_good cellsTy rfl (.tmp 58) (.tmp 63) rfl HMM.out H2.out rfl (tri_of (m := (x, f, z)) HOK.out.1 HOK.out.2.1 HOK.out.2.2) (by simp [Value.oneCell']) rfl HLB.out ?_; intro A3 cap3 w8 g1 g2; have G4 := Lib.hid (OTris.of g1); have G5 := Lib.hid (H1.out.trans g2 (fun q hq hlt => by have := (H2.out.mine _ hq).1; omega)); clear g1 g2)
        go_ret
        rw [HN.out]
        exact ⟨A3, _, cap3, rfl, by simp, G4.out.mono triV_good (M' := fun k => w.heap.size ≤ k) (R' := No) (fun q _ h => Nat.le_trans H3.out.size h) (fun _ _ f => f), H3.out.thenNo G5.out⟩
      · have HN : Hid (res = o) := HSR.out.trans (by rw [HI.out, hd]; rfl)
        subst hd
        go_wp2_with fail
        go_ret
        rw [HN.out]
        exact ⟨Ao, _, cap, rfl, hn.out, H2.out.mono triV_good (M' := fun k => w.heap.size ≤ k) (R' := No) (fun q _ h => Nat.le_trans H3.out.size h) (fun _ _ f => f), H3.out.thenNo H1.out⟩
end Go.Proofs.YtpmndblakmobdaaGreatDoor
/- HpR -/
namespace Go.Proofs.YtpmndblakmobdaaGreatDoor
open Go Go.RowKit

theorem strict_of_adj : ∀ {l : List Tri}, (∀ j (h : j + 1 < l.length), ltT l[j] l[j + 1] = true) → Strict l
  | [], _ => List.Pairwise.nil
  | [x], _ => by simp
  | x :: y :: t, h => by
    have ih := strict_of_adj (l := y :: t) (fun j hj => h (j + 1) (by simpa using hj))
    have hxy : ltT x y = true := h 0 (by simp)
    refine List.pairwise_cons.2 ⟨fun z hz => ?_, ih⟩
    rcases List.mem_cons.1 hz with rfl | hz
    · exact hxy
    · exact ltT_trans hxy ((List.pairwise_cons.1 ih).1 z hz)
theorem adj_of_strict {l : List Tri} (h : Strict l) (j : Nat) (hj : j + 1 < l.length) : ltT l[j] l[j + 1] = true :=
  (List.pairwise_iff_getElem.1 h) j (j + 1) (by omega) hj (by omega)
/-- Do cells stand as they should? -/
def standsB (l : List Tri) : Bool := decide (Strict l)
theorem standsB_no {l : List Tri} {j : Nat} (hj : j + 1 < l.length) (h : ltT l[j] l[j + 1] = false) : standsB l = false :=
  decide_eq_false (fun hs => by rw [adj_of_strict hs j hj] at h; cases h)
theorem standsB_yes {l : List Tri} (h : ∀ j (h : j + 1 < l.length), ltT l[j] l[j + 1] = true) : standsB l = true := decide_eq_true (strict_of_adj h)

theorem heapB_eq (l : List Tri) : heapB l = (standsB l && l.all okT) := by
  rw [Bool.eq_iff_iff, Bool.and_eq_true]
  constructor
  · intro h
    have hf : ∀ i, i < l.length → fineT l i = true := fun i hi => by
      cases hfi : fineT l i
      · rw [heapB_no hi hfi] at h; cases h
      · rfl
    refine ⟨standsB_yes (fun j hj => ?_), ?_⟩
    · have := hf (j + 1) hj
      unfold fineT at this
      rw [getD_at hj, Nat.add_sub_cancel, getD_at (by omega)] at this
      simp only [Bool.and_eq_true, Bool.or_eq_true, decide_eq_true_eq] at this
      rcases this.2 with h0 | h0
      · omega
      · exact h0
    · rw [List.all_eq_true]
      intro x hx
      obtain ⟨i, hi, rfl⟩ := List.getElem_of_mem hx
      have := hf i hi
      unfold fineT at this
      rw [getD_at hi, Bool.and_eq_true] at this
      exact this.1
  · rintro ⟨h1, h2⟩
    have hs : Strict l := of_decide_eq_true h1
    refine heapB_yes (fun i hi => ?_)
    unfold fineT
    rw [getD_at hi, Bool.and_eq_true]
    refine ⟨List.all_eq_true.1 h2 _ (List.getElem_mem hi), ?_⟩
    rw [Bool.or_eq_true, decide_eq_true_eq]
    by_cases h0 : i = 0
    · exact .inl h0
    · right
      obtain ⟨j, rfl⟩ : ∃ j, i = j + 1 := ⟨i - 1, by omega⟩
      rw [Nat.add_sub_cancel, getD_at (by omega)]
      exact adj_of_strict hs j hi

end Go.Proofs.YtpmndblakmobdaaGreatDoor
