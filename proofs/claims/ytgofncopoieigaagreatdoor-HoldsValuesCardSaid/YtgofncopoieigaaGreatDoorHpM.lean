/-
  Chapter 17: heap.at, Get, Set, Drop, Fresh walked; what they compute, in plain terms.
-/
import Derived.Test.YtgofncopoieigaaGreatDoorHpL
import Derived.Deep.RegionHeldLaw
namespace Go.Proofs.YtgofncopoieigaaGreatDoor
open Go Go.RowKit

def getP (l : List Tri) (k : Tri) : Int := match l.find? (fun x => eqT x k) with
  | some m => m.2.2
  | none => 0
def dropP (l : List Tri) (k : Tri) : List Tri := l.filter fun x => !eqT x k
def setP : List Tri → Tri → List Tri
  | [], k => [k]
  | x :: t, k => if eqT x k = true then k :: t else if ltT k x = true then k :: x :: t else x :: setP t k
def freshP (l : List Tri) : Int := match l.getLast? with
  | some m => wrap64 (m.1 + 1)
  | none => 1
def noneV (b : Bool) : Value := if b = true then .nilIface else .iface 70 (.int .i64 15)

theorem Bnd.tail {x k : Tri} {t : List Tri} {j : Nat} (h : Bnd (x :: t) k (j + 1)) : Bnd t k j ∧ ltT x k = true := by
  obtain ⟨h1, h2, h3⟩ := h
  refine ⟨⟨by simpa using h1, fun s hs hj => h2 (s + 1) (by simpa using hs) (by omega), fun s hs hj => h3 (s + 1) (by simpa using hs) (by omega)⟩, h2 0 (by simp) (by omega)⟩
theorem setP_has {k : Tri} : ∀ {l : List Tri} {i : Nat}, Bnd l k i → (∃ h : i < l.length, eqT l[i] k = true) → setP l k = l.set i k
  | [], i, _, ⟨h, _⟩ => absurd h (Nat.not_lt_zero i)
  | x :: t, 0, _, ⟨_, h⟩ => by
    unfold setP
    rw [if_pos (show eqT x k = true from h)]
    rfl
  | x :: t, j + 1, hb, ⟨h1, h2⟩ => by
    obtain ⟨g1, g2⟩ := hb.tail
    unfold setP
    rw [if_neg (by rw [ltT_ne g2]; simp), if_neg (by rw [ltT_asymm g2]; simp), setP_has g1 ⟨by simpa using h1, h2⟩]
    rfl
theorem setP_no {k : Tri} : ∀ {l : List Tri} {i : Nat}, Bnd l k i → (∀ h : i < l.length, eqT l[i] k = false) → setP l k = l.take i ++ k :: l.drop i
  | [], i, hb, _ => by
    have : i = 0 := by have := hb.1; simpa using this
    subst this
    rfl
  | x :: t, 0, hb, h => by
    have e1 : eqT x k = false := h (by simp)
    have e2 : ltT x k = false := hb.2.2 0 (by simp) (Nat.le_refl _)
    have e3 : ltT k x = true := by
      cases g : ltT k x
      · rw [ltT_tri e2 g] at e1; cases e1
      · rfl
    unfold setP
    rw [if_neg (by rw [e1]; simp), if_pos e3]
    rfl
  | x :: t, j + 1, hb, h => by
    obtain ⟨g1, g2⟩ := hb.tail
    unfold setP
    rw [if_neg (by rw [ltT_ne g2]; simp), if_neg (by rw [ltT_asymm g2]; simp), setP_no g1 (fun hh => h (by simpa using hh))]
    rfl
theorem find_has {k : Tri} : ∀ {l : List Tri} {i : Nat}, Bnd l k i → (∃ h : i < l.length, eqT l[i] k = true) → ∃ h : i < l.length, getP l k = l[i].2.2
  | [], i, _, ⟨h, _⟩ => absurd h (Nat.not_lt_zero i)
  | x :: t, 0, _, ⟨h0, h⟩ => by
    have e : eqT x k = true := h
    exact ⟨h0, by unfold getP; rw [List.find?_cons_of_pos (p := fun x => eqT x k) e]; rfl⟩
  | x :: t, j + 1, hb, ⟨h1, h2⟩ => by
    obtain ⟨g1, g2⟩ := hb.tail
    obtain ⟨h3, h4⟩ := find_has g1 ⟨by simpa using h1, h2⟩
    refine ⟨h1, ?_⟩
    have e : getP (x :: t) k = getP t k := by unfold getP; rw [List.find?_cons_of_neg (p := fun x => eqT x k) (by rw [ltT_ne g2]; simp)]
    rw [e, h4]
    rfl
theorem getP_no {l : List Tri} {k : Tri} (h : hasL l k = false) : getP l k = 0 := by
  unfold getP
  have : l.find? (fun x => eqT x k) = none := by
    rw [List.find?_eq_none]
    intro x hx
    unfold hasL at h
    rw [List.any_eq_false] at h
    exact h x hx
  rw [this]
theorem dropP_self {l : List Tri} {k : Tri} (h : ∀ x ∈ l, eqT x k = false) : dropP l k = l := by
  unfold dropP
  rw [List.filter_eq_self]
  intro x hx
  rw [h x hx]
  rfl
theorem dropP_has {k : Tri} : ∀ {l : List Tri} {i : Nat}, Strict l → Bnd l k i → (∃ h : i < l.length, eqT l[i] k = true) → dropP l k = l.take i ++ l.drop (i + 1)
  | [], i, _, _, ⟨h, _⟩ => absurd h (Nat.not_lt_zero i)
  | x :: t, 0, hs, _, ⟨_, h⟩ => by
    have e : eqT x k = true := h
    obtain ⟨g1, _⟩ := List.pairwise_cons.1 hs
    have : dropP (x :: t) k = dropP t k := by unfold dropP; rw [List.filter_cons_of_neg (by simp [e])]
    rw [this, dropP_self (fun y hy => by
      have := ltT_ne (g1 y hy)
      cases hy2 : eqT y k
      · rfl
      · rw [eqT_trans e (eqT_symm hy2)] at this; cases this)]
    rfl
  | x :: t, j + 1, hs, hb, ⟨h1, h2⟩ => by
    obtain ⟨g1, g2⟩ := hb.tail
    have : dropP (x :: t) k = x :: dropP t k := by unfold dropP; rw [List.filter_cons_of_pos (by simp [ltT_ne g2])]
    rw [this, dropP_has (List.pairwise_cons.1 hs).2 g1 ⟨by simpa using h1, h2⟩]
    rfl
theorem Bnd.yes {l : List Tri} {k : Tri} {i : Nat} (h : Bnd l k i) (hs : Strict l) (hh : hasL l k = true) : ∃ g : i < l.length, eqT l[i] k = true := by
  rw [h.has hs] at hh
  by_cases g : i < l.length
  · rw [dif_pos g] at hh; exact ⟨g, hh⟩
  · rw [dif_neg g] at hh; cases hh
theorem Bnd.not {l : List Tri} {k : Tri} {i : Nat} (h : Bnd l k i) (hs : Strict l) (hh : hasL l k = false) : ∀ g : i < l.length, eqT l[i] k = false := fun g => by
  rw [h.has hs, dif_pos g] at hh
  exact hh

theorem bnd_ex {k : Tri} : ∀ {l : List Tri}, Strict l → ∃ i, Bnd l k i
  | [], _ => ⟨0, Nat.le_refl _, fun t h => absurd h (Nat.not_lt_zero t), fun t h => absurd h (Nat.not_lt_zero t)⟩
  | x :: t, hs => by
    obtain ⟨g1, g2⟩ := List.pairwise_cons.1 hs
    cases hx : ltT x k
    · refine ⟨0, Nat.zero_le _, fun s _ h => absurd h (Nat.not_lt_zero s), fun s hs2 _ => ?_⟩
      cases s with
      | zero => exact hx
      | succ s =>
        have hs3 : s < t.length := by simpa using hs2
        have hm : ltT x t[s] = true := g1 _ (List.getElem_mem hs3)
        show ltT t[s] k = false
        cases h2 : ltT t[s] k
        · rfl
        · rw [ltT_trans hm h2] at hx; cases hx
    · obtain ⟨i, h1, h2, h3⟩ := bnd_ex g2
      refine ⟨i + 1, by simpa using h1, fun s hs2 h => ?_, fun s hs2 h => ?_⟩
      · cases s with
        | zero => exact hx
        | succ s => exact h2 s (by simpa using hs2) (by omega)
      · cases s with
        | zero => omega
        | succ s => exact h3 s (by simpa using hs2) (by omega)
theorem Bnd.key {l : List Tri} {a : Int} {f : ByteArray} {z z' : Int} {i : Nat} (h : Bnd l (a, f, z) i) : Bnd l (a, f, z') i := h
theorem hasL_key (l : List Tri) (a : Int) (f : ByteArray) (z z' : Int) : hasL l (a, f, z) = hasL l (a, f, z') := rfl

set_option maxRecDepth 100000 in
set_option maxHeartbeats 1000000 in
theorem at_any {R : Nat → Prop} {w : World} {A : Option Addr} {l : List Tri} {cap : Nat} (hl : Tris R w A l cap) (hst : Strict l) (a : Int) (f : ByteArray) :
    Calls Tryz.prog 55 #[.slice A l.length cap, .int .i64 a, .string f] w fun e w' => ∃ i : Nat, e = .returned (.tuple #[.int .i64 i, .bool (hasL l (a, f, 0))]) ∧ Bnd l (a, f, 0) i ∧ Chg No w w' := by
  have HB := Lib.hid (bsearch_any hl hst a f 0)
  clear hl hst
  go_enter Tryz.func55, Tryz.ntmps55
  go_wp2_with (go_at_call 90; refine HB.out.mono ?_; rintro e w1 ⟨i, rfl, h1, h2⟩; have H1 := Lib.hid h1; have H2 := Lib.hid h2; clear h1 h2)
  go_ret2
  exact ⟨i, rfl, H1.out, H2.out⟩

set_option maxRecDepth 100000 in
set_option maxHeartbeats 1000000 in
theorem get_any {R : Nat → Prop} {w : World} {A : Option Addr} {l : List Tri} {cap : Nat} (hl : Tris R w A l cap) (hst : Strict l) (a : Int) (f : ByteArray) :
    Calls Tryz.prog 37 #[.slice A l.length cap, .int .i64 a, .string f] w fun e w' => e = .returned (.tuple #[.int .i64 (getP l (a, f, 0)), noneV (hasL l (a, f, 0))]) ∧ Chg No w w' := by
  have HAT := Lib.hid (at_any hl hst a f)
  have HL := Lib.hid (fun W (h : Chg No w W) => hl.no triE_good h)
  have HS := Lib.hid hst
  have hb := hl.big
  unfold big at hb
  clear hl hst
  cases hh : hasL l (a, f, 0)
  · rw [hh] at HAT
    have HG := Lib.hid (getP_no hh)
    clear hh
    go_enter Tryz.func37, Tryz.ntmps37
    go_wp2_with (go_at_call 55; refine HAT.out.mono ?_; rintro e w1 ⟨i, rfl, h1, h2⟩; have H2 := Lib.hid h2; clear h1 h2)
    go_ret2
    exact ⟨by rw [HG.out]; rfl, H2.out⟩
  · rw [hh] at HAT
    have HY : Hid (∀ i, Bnd l (a, f, 0) i → ∃ h : i < l.length, getP l (a, f, 0) = l[i].2.2) := fun i h => find_has h (h.yes HS.out hh)
    clear hh HS
    go_enter Tryz.func37, Tryz.ntmps37
    go_upto_region 4 with (go_at_call 55; refine HAT.out.mono ?_; rintro e w1 ⟨i, rfl, h1, h2⟩; have H1 := Lib.hid (HY.out i h1); have H2 := Lib.hid h2; clear h1 h2)
    obtain ⟨hi, hg⟩ := H1.out
    obtain ⟨b, off, rfl, c0, c1, c2⟩ := (HL.out w1 H2.out).tri_at i hi
    have HG := Lib.hid hg
    rw [← hg] at c2
    clear hg H1 HY
    go_wp2
    go_ret2
    exact ⟨rfl, H2.out⟩

theorem OTris.cells {e : TypeId} {M : Nat → Prop} {w : World} {v : Value} {l : List Tri} (h : OTris e M w v l) (hb : l.length * 32 ≤ big) : ∃ A cap, v = .slice A l.length cap ∧ Tris M w A l cap := by
  obtain ⟨A, cap, e, _⟩ := h.value
  subst e
  exact ⟨A, cap, rfl, h.tris hb⟩

end Go.Proofs.YtgofncopoieigaaGreatDoor
