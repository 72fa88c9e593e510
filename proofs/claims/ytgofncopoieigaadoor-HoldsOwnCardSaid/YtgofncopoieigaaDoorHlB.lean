/-
  Variables in memory; the look at them: a number, a variable.
-/
import Derived.Test.YtgofncopoieigaaDoorHlA
import Derived.Test.YtgofncopoieigaaDoorShC
namespace Go.Proofs.YtgofncopoieigaaDoor
open Go Go.RowKit

def varV : ElV Vr := pairV strV intV 24 (by decide)
theorem varV_good : varV.Good := pairV_good strV_good intV_good _ _
abbrev Vars (R : Nat → Prop) (w : World) (A : Option Addr) (l : List Vr) (cap : Nat) : Prop := Sl varV.mem 2 R w A l cap
theorem varE_good : varV.mem.Good := varV_good.mem
theorem var_cells {R : Nat → Prop} {w : World} {cs : List Value} {x : Vr} (h : varV R w cs x) : cs = [.string x.1, .int .i64 x.2] ∧ x.1.size ≤ maxLen ∧ I64 x.2 := by
  obtain ⟨c1, c2, rfl, _, ⟨rfl, h1⟩, ⟨rfl, h2⟩⟩ := h
  exact ⟨rfl, h1, h2⟩
theorem vars_at {R : Nat → Prop} {w : World} {A : Option Addr} {l : List Vr} {cap : Nat} (h : Vars R w A l cap) (i : Nat) (hi : i < l.length) :
    ∃ b o, A = some ⟨b, o, none⟩ ∧ I64 l[i].2 ∧ w.cell? ⟨b, o + i * 2, none⟩ = some (.string l[i].1) ∧ w.cell? ⟨b, o + i * 2 + 1, none⟩ = some (.int .i64 l[i].2) := by
  obtain ⟨b, o, cs, e, _, hv, hc⟩ := vmem_of (V := varV) rfl h i hi
  obtain ⟨rfl, _, h1⟩ := var_cells hv
  exact ⟨b, o, e, h1, hc 0 _ rfl, hc 1 _ rfl⟩

theorem list_var1 (cs : List Value) (h : cs.length = 2) : ∃ v0 v1, cs = [v0, v1] := by
  match cs, h with
  | [v0, v1], _ => exact ⟨v0, v1, rfl⟩
set_option maxHeartbeats 1000000 in
theorem indexFunc_var1 {α : Type} {V : ElV α} (hk : V.sz = 2) (g : V.Good) {R : Nat → Prop} {w : World} {A : Option Addr} {l : List α} {cap : Nat} (hl : Sl V.mem 2 R w A l cap) (fv : FuncId) (hf : Entered fv) (c : Value) (p : α → Bool)
    (hp : ∀ w', Chg No w w' → ∀ i (h : i < l.length) cs, V R w' cs l[i] → Calls Tryd.prog fv #[.agg cs.toArray, c] w' fun e w'' => e = .returned (.bool (p l[i])) ∧ Chg No w' w'') :
    Calls Tryd.prog 39 #[.slice A l.length cap, .func (.func fv) #[] #[c]] w fun e w' => e = .returned (.int .i64 (findI p l)) ∧ Chg No w w' := by
  have hb := hl.big
  unfold big at hb
  have Hp := Lib.hid hp
  have HL := Lib.hid (fun W (h : Chg No w W) => hl.no g.mem h)
  clear hp hl
  unfold Entered at hf
  go_enter Tryd.func39, Tryd.ntmps39
  go_wp2
  go_loopw [8] (fun i wr => ∃ k : Nat, k ≤ l.length ∧ i = .int .i64 k ∧ Hid (Chg No w wr) ∧ Hid (∀ j (h : j < l.length), j < k → p l[j] = false)) (fun i _ => l.length - (intOf i).toNat)
  case atStart => exact ⟨0, Nat.zero_le _, rfl, Chg.refl _ _, fun j h hk => absurd hk (by omega)⟩
  case round =>
    obtain ⟨kk, hkk, rfl, hch, hall⟩ := hrel
    by_cases hlt : kk < l.length
    · obtain ⟨b, o, cs, rfl, hlen, hv, hc⟩ := vmem_of hk (HL.out wr hch.out) kk hlt
      obtain ⟨v0, v1, rfl⟩ := list_var1 cs hlen
      have x0 : wr.cell? ⟨b, o + kk * 2, none⟩ = some v0 := hc 0 _ rfl
      have x1 : wr.cell? ⟨b, o + kk * 2 + 1, none⟩ = some v1 := hc 1 _ rfl
      clear hc hlen
      have i0 : (0 : Int) ≤ (kk : Int) := by omega
      have i1 : (kk : Int) < (l.length : Int) := by omega
      have HP := Lib.hid (Hp.out wr hch.out kk hlt _ hv)
      have Hhit : Hid (p l[kk] = true → findI p l = kk) := fun h => findI_hit hlt h hall.out
      have Hmiss : Hid (p l[kk] = false → ∀ j (h : j < l.length), j < kk + 1 → p l[j] = false) := fun hpk j h hj => by
        rcases Nat.lt_or_ge j kk with g | g
        · exact hall.out j h g
        · obtain rfl : j = kk := by omega
          exact hpk
      clear hv
      generalize p l[kk] = pk at *
      cases pk with
      | true =>
        have HE := Lib.hid (Hhit.out rfl)
        clear Hmiss Hhit
        go_wp2_with (refine HP.out.mono ?_; rintro e w1 ⟨rfl, h1⟩)
        go_ret
        exact ⟨ret_int HE.out.symm, hch.out.thenNo h1⟩
      | false =>
        have HM := Lib.hid (Hmiss.out rfl)
        clear Hmiss Hhit
        go_wp2_with (refine HP.out.mono ?_; rintro e w1 ⟨rfl, h1⟩)
        go_roundw
        case rel => exact ⟨kk + 1, hlt, by go_num, hch.out.thenNo h1, HM.out⟩
        case measure => simp [intOf]; omega
    · go_wp2
      go_ret
      exact ⟨ret_int (findI_miss (fun j h => hall.out j h (by omega))).symm, hch.out⟩

theorem find_findI' {α : Type} {p : α → Bool} {l : List α} : (findI p l = -1 ∧ l.find? p = none) ∨ ∃ k, ∃ h : k < l.length, findI p l = (k : Int) ∧ l.find? p = some l[k] := by
  unfold findI
  cases h : l.findIdx? p with
  | none =>
    left
    rw [List.findIdx?_eq_none_iff] at h
    refine ⟨rfl, ?_⟩
    rw [List.find?_eq_none]
    exact fun x hx => by simp [h x hx]
  | some k =>
    right
    rw [List.findIdx?_eq_some_iff_getElem] at h
    obtain ⟨hk, hp, hall⟩ := h
    refine ⟨k, hk, rfl, ?_⟩
    rw [List.find?_eq_some_iff_getElem]
    exact ⟨hp, k, hk, rfl, fun j hj => by simpa using hall j hj⟩

/-- The look at variables: where they lie, and whether something was far. -/
def LookAt (w : World) (bx : Nat) (A : Option Addr) (len cap : Nat) (f : Bool) : Prop := w.heap[bx]? = some (.cells #[.slice A len cap, .bool f] 56 (0, 0))
theorem LookAt.cells {w : World} {bx : Nat} {A : Option Addr} {len cap : Nat} {f : Bool} (h : LookAt w bx A len cap f) : w.cell? ⟨bx, 0, none⟩ = some (.slice A len cap) ∧ w.cell? ⟨bx, 1, none⟩ = some (.bool f) ∧ w.frozen? ⟨bx, 0, none⟩ = false ∧ w.frozen? ⟨bx, 1, none⟩ = false := by
  unfold LookAt at h
  simp [World.cell?, World.frozen?, h]
theorem LookAt.set {w : World} {bx : Nat} {A : Option Addr} {len cap : Nat} {f : Bool} (h : LookAt w bx A len cap f) (g : Bool) : LookAt (w.setCell ⟨bx, 1, none⟩ (.bool g)) bx A len cap g := by
  unfold LookAt at h ⊢
  simp [World.setCell, Array.getElem?_modify, h]
theorem LookAt.chg {S : Nat → Prop} {w w' : World} {bx : Nat} {A : Option Addr} {len cap : Nat} {f : Bool} (h : LookAt w bx A len cap f) (c : Chg S w w') (hS : ¬ S bx) : LookAt w' bx A len cap f := c.obj h hS
theorem LookAt.ne {w : World} {bx : Nat} {A : Option Addr} {len cap : Nat} {f : Bool} (h : LookAt w bx A len cap f) {b o : Nat} {k : Int} (x : w.cell? ⟨b, o, none⟩ = some (.int .i64 k)) : b ≠ bx := by
  rintro rfl
  unfold LookAt at h
  match o with
  | 0 => simp [World.cell?, h] at x
  | 1 => simp [World.cell?, h] at x
  | o + 2 => simp [World.cell?, h] at x
/-- A call looks: it returns v, and marks what was far; nothing else changes. -/
def LkRet (bx : Nat) (A : Option Addr) (len cap : Nat) (f : Bool) (w : World) (v : Value) (e : Ending) (w' : World) : Prop :=
  e = .returned v ∧ Chg (fun k => k = bx) w w' ∧ LookAt w' bx A len cap f

theorem number_any {w : World} {bx : Nat} {A : Option Addr} {len cap : Nat} {f : Bool} (hb : LookAt w bx A len cap f) (n : Int) :
    Calls Tryd.prog 24 #[.pointer (some ⟨bx, 0, none⟩), .int .i64 n] w (LkRet bx A len cap (f || farB n) w (.int .i64 (numH n))) := by
  have HB := Lib.hid hb
  obtain ⟨p0, p1, pf0, pf1⟩ := hb.cells
  clear hb
  unfold LkRet numH farB
  by_cases h1 : n < -4294967296
  · rw [show decide (n < -4294967296) = true from decide_eq_true h1]
    go_enter Tryd.func24, Tryd.ntmps24
    go_wp2_with fail
    go_ret
    exact ⟨rfl, (Chg.refl _ _).setCell _ _ (fun _ => rfl), by simpa using HB.out.set true⟩
  by_cases h2 : 4294967296 < n
  · rw [show decide (4294967296 < n) = true from decide_eq_true h2]
    simp only [Bool.or_true, if_true]
    go_enter Tryd.func24, Tryd.ntmps24
    go_wp2_with fail
    go_ret
    exact ⟨rfl, (Chg.refl _ _).setCell _ _ (fun _ => rfl), HB.out.set true⟩
  rw [show decide (n < -4294967296) = false from decide_eq_false h1, show decide (4294967296 < n) = false from decide_eq_false h2]
  simp only [Bool.or_false, Bool.false_eq_true, if_false]
  go_enter Tryd.func24, Tryd.ntmps24
  go_wp2_with fail
  go_ret
  exact ⟨rfl, Chg.refl _ _, HB.out⟩
set_option maxRecDepth 10000 in
theorem entered_var1 : Entered 40 := fun _ _ => rfl
set_option maxRecDepth 100000 in
set_option maxHeartbeats 1000000 in
theorem variable_any {Rs : Nat → Prop} {w : World} {bx : Nat} {A : Option Addr} {l : List Vr} {cap : Nat} {f : Bool} (hb : LookAt w bx A l.length cap f) (hl : Vars Rs w A l cap) (name : ByteArray) :
    Calls Tryd.prog 25 #[.pointer (some ⟨bx, 0, none⟩), .string name] w (LkRet bx A l.length cap (f || farB (ofV l name)) w (.int .i64 (numH (ofV l name)))) := by
  have hbig := hl.big
  unfold big at hbig
  obtain ⟨w3, hw3⟩ : ∃ w3, w3 = w.alloc (.cells #[.string name] 9) := ⟨_, rfl⟩
  have h3 : Hid (Chg No w w3 ∧ w3.heap[w.heap.size]? = some (.cells #[.string name] 9 (0, 0))) := by
    rw [hw3]; exact ⟨(Chg.refl _ _).alloc _, heap_alloc_new _ _⟩
  have HB := Lib.hid (fun W (hW : Chg No w W) => hb.chg hW id)
  have HIX : Hid (Calls Tryd.prog 39 #[.slice A l.length cap, .func (.func 40) #[] #[.pointer (some ⟨w.heap.size, 0, none⟩)]] w3 fun e w' => e = .returned (.int .i64 (findI (fun s => s.1.toList == name.toList) l)) ∧ Chg No w3 w') :=
    indexFunc_var1 (V := varV) rfl varV_good (hl.no varE_good h3.out.1) 40 entered_var1 (.pointer (some ⟨w.heap.size, 0, none⟩)) (fun s => s.1.toList == name.toList) (fun W hW i hi cs hcs => by
      obtain ⟨rfl, _, _⟩ := var_cells hcs
      have q0 := obj_1 (hW.obj h3.out.2 id)
      have x2 := ((Chg.refl No W).alloc (.cells #[.string l[i].1, .int .i64 l[i].2] 48)).cell q0 id
      generalize l[i].1 = nm at *
      generalize l[i].2 = lc at *
      clear hcs hl hb q0 hw3
      go_enter Tryd.func40, Tryd.ntmps40
      go_wp2_with fail
      go_ret
      exact ⟨rfl, (Chg.refl _ _).alloc _⟩)
  have HL := Lib.hid (fun W (hW : Chg No w W) => hl.no varE_good hW)
  have HLC := Lib.hid (fun W (hW : Chg No w W) => (hb.chg hW id).cells)
  obtain ⟨p0, p1, pf0, pf1⟩ := (hb.chg h3.out.1 id).cells
  have hfi := find_findI' (p := fun s : Vr => s.1.toList == name.toList) (l := l)
  clear hl hb
  rcases hfi with ⟨e1, e2⟩ | ⟨k, hk, e1, e2⟩
  · have hso : ofV l name = 0 := by unfold ofV; rw [e2]
    rw [e1] at HIX
    rw [hso, show farB 0 = false by decide, show numH 0 = 0 by decide, Bool.or_false]
    clear hso e1 e2 HL
    go_enter Tryd.func25, Tryd.ntmps25
    go_upto_region 1 with fail
    rw [← hw3]
    clear hw3
    go_wp2_with (go_at_call 39; refine HIX.out.mono ?_; rintro e w4 ⟨rfl, h4⟩)
    go_ret
    exact ⟨rfl, (h3.out.1.thenNo h4).no, HB.out _ (h3.out.1.thenNo h4)⟩
  · have hso : ofV l name = l[k].2 := by unfold ofV; rw [e2]
    rw [e1] at HIX
    rw [hso]
    have HSA := Lib.hid (fun W (hW : Chg No w W) => vars_at (HL.out W hW) k hk)
    have i0 : (0 : Int) ≤ (k : Int) := by omega
    have i1 : (k : Int) < (l.length : Int) := by omega
    clear hso e1 e2 HL
    generalize l[k] = sk at *
    obtain ⟨sn, sc⟩ := sk
    simp only at HSA ⊢
    have HNM := Lib.hid (fun W (hW : Chg No w W) => number_any (HB.out W hW) sc)
    go_enter Tryd.func25, Tryd.ntmps25
    go_upto_region 1 with fail
    rw [← hw3]
    clear hw3
    go_wp2_with (first
      | (go_at_call 39; refine HIX.out.mono ?_; rintro e w4 ⟨rfl, h4⟩; have H4 := Lib.hid (h3.out.1.thenNo h4); clear p0 p1 pf0 pf1; obtain ⟨p0, p1, pf0, pf1⟩ := HLC.out w4 (h3.out.1.thenNo h4); obtain ⟨b, o, rfl, _, x0, x1⟩ := HSA.out w4 (h3.out.1.thenNo h4); clear h4)
      | (go_at_call 24; refine (HNM.out _ H4.out).mono ?_; rintro e w5 ⟨rfl, h5, g5⟩))
    go_ret
    exact ⟨rfl, H4.out.no.trans h5 (fun k hk _ => hk), g5⟩
end Go.Proofs.YtgofncopoieigaaDoor
