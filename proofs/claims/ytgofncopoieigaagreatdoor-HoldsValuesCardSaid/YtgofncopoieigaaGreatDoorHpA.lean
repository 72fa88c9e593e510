/-
  Chapter 17: cells and shares in memory; cmp.Compare, cmp.Or, heap.order, ref17.Below.
-/
import Derived.Test.YtgofncopoieigaaGreatDoorRows
import Derived.Test.YtgofncopoieigaaGreatDoorHpP
import Derived.Test.YtgofncopoieigaaGreatDoorMA
import Derived.Deep.DeepCutAuto
import Derived.Deep.CutBlock
import Derived.Deep.RegionHeldLaw
import Derived.Deep.RegionWith
import Derived.Laws.Cover1
namespace Go.Proofs.YtgofncopoieigaaGreatDoor
open Go Go.RowKit

def triV : ElV Tri := pairV intV (pairV strV intV 24 (by decide)) 32 (by decide)
theorem triV_good : triV.Good := pairV_good intV_good (pairV_good strV_good intV_good _ _) _ _
abbrev TriE : Elem Tri := triV.mem
theorem triE_good : TriE.Good := triV_good.mem
abbrev Tris := Sl TriE 3
theorem tri_cells {R : Nat → Prop} {w : World} {cs : List Value} {m : Tri} (h : triV R w cs m) : cs = [.int .i64 m.1, .string m.2.1, .int .i64 m.2.2] ∧ I64 m.1 ∧ m.2.1.size ≤ maxLen ∧ I64 m.2.2 := by
  obtain ⟨c1, c2, rfl, _, ⟨rfl, h1⟩, c3, c4, rfl, _, ⟨rfl, h2⟩, rfl, h3⟩ := h
  exact ⟨rfl, h1, h2, h3⟩
theorem tri_of {R : Nat → Prop} {w : World} {m : Tri} (h1 : I64 m.1) (h2 : m.2.1.size ≤ maxLen) (h3 : I64 m.2.2) : triV R w [.int .i64 m.1, .string m.2.1, .int .i64 m.2.2] m :=
  ⟨[.int .i64 m.1], [.string m.2.1, .int .i64 m.2.2], rfl, rfl, ⟨rfl, h1⟩, [.string m.2.1], [.int .i64 m.2.2], rfl, rfl, ⟨rfl, h2⟩, rfl, h3⟩
theorem tri_any {R R' : Nat → Prop} {w w' : World} {cs : List Value} {m : Tri} (h : triV R w cs m) : triV R' w' cs m := by
  obtain ⟨rfl, h1, h2, h3⟩ := tri_cells h
  exact tri_of h1 h2 h3
theorem tri_one {R : Nat → Prop} {w : World} {cs : List Value} {x : Tri} (h : triV R w cs x) : ∀ u ∈ cs, u.oneCell' = true := by
  obtain ⟨rfl, _⟩ := tri_cells h
  simp [Value.oneCell']
def TriOk (m : Tri) : Prop := I64 m.1 ∧ m.2.1.size ≤ maxLen ∧ I64 m.2.2
theorem triE_cells {R : Nat → Prop} {w : World} {b o : Nat} {m : Tri} (h : TriE R w b o m) : w.cell? ⟨b, o, none⟩ = some (.int .i64 m.1) ∧ w.cell? ⟨b, o + 1, none⟩ = some (.string m.2.1) ∧ w.cell? ⟨b, o + 2, none⟩ = some (.int .i64 m.2.2) ∧ TriOk m := by
  obtain ⟨_, cs, _, hc, hv⟩ := h
  obtain ⟨rfl, h1⟩ := tri_cells hv
  exact ⟨hc 0 _ rfl, hc 1 _ rfl, hc 2 _ rfl, h1⟩
theorem Sl.tri_at {R : Nat → Prop} {w : World} {A : Option Addr} {l : List Tri} {cap : Nat} (h : Tris R w A l cap) (i : Nat) (hi : i < l.length) :
    ∃ b o, A = some ⟨b, o, none⟩ ∧ w.cell? ⟨b, o + i * 3, none⟩ = some (.int .i64 l[i].1) ∧ w.cell? ⟨b, o + i * 3 + 1, none⟩ = some (.string l[i].2.1) ∧ w.cell? ⟨b, o + i * 3 + 2, none⟩ = some (.int .i64 l[i].2.2) := by
  obtain ⟨b, o, e, x⟩ := h.at_ i hi
  obtain ⟨h0, h1, h2, _⟩ := triE_cells x
  exact ⟨b, o, e, h0, h1, h2⟩
theorem Sl.tri_ok {R : Nat → Prop} {w : World} {A : Option Addr} {l : List Tri} {cap : Nat} (h : Tris R w A l cap) (i : Nat) (hi : i < l.length) : TriOk l[i] := by
  obtain ⟨b, o, e, x⟩ := h.at_ i hi
  exact (triE_cells x).2.2.2

section
variable {H : Type} {enc : TypeId × Value → H}
theorem opensV_cell : OpensV enc Tryz.prog 67 triV :=
  opensV_struct3 (by decide) (by decide) Tryz.underlying67 rfl rfl rfl (by kernel_rfl) (by kernel_rfl) (opensV_int Tryz.underlying3 (by kernel_rfl) (by kernel_rfl)) (opensV_string Tryz.underlying9 (by kernel_rfl) (by kernel_rfl)) (opensV_int Tryz.underlying3 (by kernel_rfl) (by kernel_rfl))
theorem opensE_cell : OpensE enc Tryz.prog 67 3 TriE := opensE_of opensV_cell
theorem opensV_share : OpensV enc Tryz.prog 50 triV :=
  opensV_struct3 (by decide) (by decide) Tryz.underlying50 rfl rfl rfl (by kernel_rfl) (by kernel_rfl) (opensV_int Tryz.underlying3 (by kernel_rfl) (by kernel_rfl)) (opensV_string Tryz.underlying9 (by kernel_rfl) (by kernel_rfl)) (opensV_int Tryz.underlying3 (by kernel_rfl) (by kernel_rfl))
theorem opensE_share : OpensE enc Tryz.prog 50 3 TriE := opensE_of opensV_share
end

theorem nanI_any (x : Int) (w : World) : Calls Tryz.prog 93 #[.int .i64 x] w fun e w' => e = .returned (.bool false) ∧ w = w' := by
  go_enter Tryz.func93, Tryz.ntmps93
  go_wp2
  go_ret
  exact ⟨by simp, rfl⟩
theorem nanS_any (x : ByteArray) (w : World) : Calls Tryz.prog 94 #[.string x] w fun e w' => e = .returned (.bool false) ∧ w = w' := by
  go_enter Tryz.func94, Tryz.ntmps94
  go_wp2
  go_ret
  exact ⟨by simp, rfl⟩
theorem cmpI_any (x y : Int) (w : World) : Calls Tryz.prog 60 #[.int .i64 x, .int .i64 y] w fun e w' => e = .returned (.int .i64 (cmpZ x y)) ∧ w = w' := by
  have HN := Lib.hid nanI_any
  rcases Int.lt_trichotomy x y with h | h | h
  · rw [show cmpZ x y = -1 by unfold cmpZ; rw [if_pos h]]
    go_enter Tryz.func60, Tryz.ntmps60
    go_wp2_with (go_at_call 93; refine (HN.out _ _).mono ?_; rintro e w1 ⟨rfl, rfl⟩)
    go_ret
    exact ⟨rfl, rfl⟩
  · subst h
    rw [show cmpZ x x = 0 by unfold cmpZ; rw [if_neg (by omega), if_pos rfl]]
    go_enter Tryz.func60, Tryz.ntmps60
    go_wp2_with (go_at_call 93; refine (HN.out _ _).mono ?_; rintro e w1 ⟨rfl, rfl⟩)
    go_ret
    exact ⟨rfl, rfl⟩
  · rw [show cmpZ x y = 1 by unfold cmpZ; rw [if_neg (by omega), if_neg (by omega)]]
    go_enter Tryz.func60, Tryz.ntmps60
    go_wp2_with (go_at_call 93; refine (HN.out _ _).mono ?_; rintro e w1 ⟨rfl, rfl⟩)
    go_ret
    exact ⟨rfl, rfl⟩
theorem cmpS_any (x y : ByteArray) (w : World) : Calls Tryz.prog 61 #[.string x, .string y] w fun e w' => e = .returned (.int .i64 (cmpS x y)) ∧ w = w' := by
  have HN := Lib.hid nanS_any
  cases hl : Op.bytesLess x.toList y.toList
  · cases he : (x.toList == y.toList)
    · rw [show cmpS x y = 1 by unfold cmpS; rw [hl, he]; rfl]
      go_enter Tryz.func61, Tryz.ntmps61
      go_wp2_with (go_at_call 94; refine (HN.out _ _).mono ?_; rintro e w1 ⟨rfl, rfl⟩)
      go_ret
      exact ⟨rfl, rfl⟩
    · rw [show cmpS x y = 0 by unfold cmpS; rw [hl, he]; rfl]
      go_enter Tryz.func61, Tryz.ntmps61
      go_wp2_with (go_at_call 94; refine (HN.out _ _).mono ?_; rintro e w1 ⟨rfl, rfl⟩)
      go_ret
      exact ⟨rfl, rfl⟩
  · rw [show cmpS x y = -1 by unfold cmpS; rw [hl]; rfl]
    go_enter Tryz.func61, Tryz.ntmps61
    go_wp2_with (go_at_call 94; refine (HN.out _ _).mono ?_; rintro e w1 ⟨rfl, rfl⟩)
    go_ret
    exact ⟨rfl, rfl⟩
theorem below_any (a : Int) (f : ByteArray) (b : Int) (g : ByteArray) (w : World) : Calls Tryz.prog 69 #[.int .i64 a, .string f, .int .i64 b, .string g] w fun e w' => e = .returned (.bool (ltK a f b g)) ∧ w = w' := by
  by_cases h : a < b
  · rw [show ltK a f b g = true by unfold ltK; simp [h]]
    go_enter Tryz.func69, Tryz.ntmps69
    go_wp2
    go_ret
    exact ⟨rfl, rfl⟩
  by_cases h2 : a = b
  · subst h2
    rw [show ltK a f a g = Op.bytesLess f.toList g.toList by unfold ltK; simp]
    go_enter Tryz.func69, Tryz.ntmps69
    go_wp2
    go_ret
    exact ⟨rfl, rfl⟩
  · rw [show ltK a f b g = false by unfold ltK; simp [h, h2]]
    have hd : (a == b) = false := by simpa using h2
    go_enter Tryz.func69, Tryz.ntmps69
    go_wp2
    go_ret
    exact ⟨rfl, rfl⟩
end Go.Proofs.YtgofncopoieigaaGreatDoor
