/-
  HlA, HlB, HlC, HlD, in one file.
-/
import Derived.Test.YtpmndblakmobdaaGreatDoorMB
import Derived.Test.YtpmndblakmobdaaGreatDoorShE
import Derived.Deep.RegionHeldLaw
/- HlA -/
namespace Go.Proofs.YtpmndblakmobdaaGreatDoor
open Go Go.RowKit

/-- A variable: its name, its value. -/
abbrev Vr := ByteArray × Int
def farH (n : Int) : Bool := decide (n < -4294967296) || decide (4294967296 < n)
def numH (n : Int) : Int := if farH n then 0 else n
theorem numH_le (n : Int) : -4294967296 ≤ numH n ∧ numH n ≤ 4294967296 := by
  unfold numH farH
  split
  · omega
  · rename_i h; simp at h; omega
theorem numH_near {n : Int} (h : farH n = false) : numH n = n := by unfold numH; rw [h]; rfl
def ofV (l : List Vr) (s : ByteArray) : Int := match l.find? (fun v => v.1.toList == s.toList) with
  | some v => v.2
  | none => 0
/-- An expression's value; is something of it far? -/
def exH (l : List Vr) : (n : Nat) → ET n → Int × Bool
  | 0, _ => (0, false)
  | n + 1, x =>
    if ENode.kind x = 0 then (numH (ENode.num x), farH (ENode.num x))
    else if ENode.kind x = 1 then (numH (ofV l (ENode.name x)), farH (ofV l (ENode.name x)))
    else if ENode.kind x = 4 then
      (numH (ENode.num x * (((ENode.kids x).map (exH l n)).getD 0 (0, false)).1), (((ENode.kids x).map (exH l n)).getD 0 (0, false)).2 || farH (ENode.num x * (((ENode.kids x).map (exH l n)).getD 0 (0, false)).1))
    else
      (numH ((((ENode.kids x).map (exH l n)).getD 0 (0, false)).1 + (if ENode.kind x = 3 then -(((ENode.kids x).map (exH l n)).getD 1 (0, false)).1 else (((ENode.kids x).map (exH l n)).getD 1 (0, false)).1)),
       (((ENode.kids x).map (exH l n)).getD 0 (0, false)).2 || (((ENode.kids x).map (exH l n)).getD 1 (0, false)).2 || farH ((((ENode.kids x).map (exH l n)).getD 0 (0, false)).1 + (if ENode.kind x = 3 then -(((ENode.kids x).map (exH l n)).getD 1 (0, false)).1 else (((ENode.kids x).map (exH l n)).getD 1 (0, false)).1)))
theorem exH_le (l : List Vr) : ∀ (n : Nat) (x : ET n), -4294967296 ≤ (exH l n x).1 ∧ (exH l n x).1 ≤ 4294967296
  | 0, _ => by unfold exH; exact ⟨by decide, by decide⟩
  | n + 1, x => by
    unfold exH
    split
    · exact numH_le _
    · split
      · exact numH_le _
      · split <;> exact numH_le _
/-- A condition's. -/
def truthH (kd : Int) (e : List Int) (k : List Bool) : Bool :=
  if kd = 0 then true
  else if kd = 2 then decide (e.getD 0 0 = e.getD 1 0)
  else if kd = 3 then decide (e.getD 0 0 ≠ e.getD 1 0)
  else if kd = 4 then decide (e.getD 0 0 < e.getD 1 0)
  else if kd = 5 then decide (e.getD 0 0 ≤ e.getD 1 0)
  else if kd = 6 then !k.getD 0 false
  else if kd = 7 then k.getD 0 false && k.getD 1 false
  else if kd = 8 then k.getD 0 false || k.getD 1 false
  else false
def coH (l : List Vr) (m : Nat) : (n : Nat) → CT m n → Bool × Bool
  | 0, _ => (false, false)
  | n + 1, x => (truthH (CNode.kind x) ((CNode.es x).map fun e => (exH l m e).1) ((CNode.kids x).map fun c => (coH l m n c).1), (CNode.es x).any (fun e => (exH l m e).2) || (CNode.kids x).any (fun c => (coH l m n c).2))
theorem exH_eq (l : List Vr) {n : Nat} (x : ENode (ET n)) : exH l (n + 1) x = (if ENode.kind x = 0 then (numH (ENode.num x), farH (ENode.num x))
    else if ENode.kind x = 1 then (numH (ofV l (ENode.name x)), farH (ofV l (ENode.name x)))
    else if ENode.kind x = 4 then
      (numH (ENode.num x * (((ENode.kids x).map (exH l n)).getD 0 (0, false)).1), (((ENode.kids x).map (exH l n)).getD 0 (0, false)).2 || farH (ENode.num x * (((ENode.kids x).map (exH l n)).getD 0 (0, false)).1))
    else
      (numH ((((ENode.kids x).map (exH l n)).getD 0 (0, false)).1 + (if ENode.kind x = 3 then -(((ENode.kids x).map (exH l n)).getD 1 (0, false)).1 else (((ENode.kids x).map (exH l n)).getD 1 (0, false)).1)),
       (((ENode.kids x).map (exH l n)).getD 0 (0, false)).2 || (((ENode.kids x).map (exH l n)).getD 1 (0, false)).2 || farH ((((ENode.kids x).map (exH l n)).getD 0 (0, false)).1 + (if ENode.kind x = 3 then -(((ENode.kids x).map (exH l n)).getD 1 (0, false)).1 else (((ENode.kids x).map (exH l n)).getD 1 (0, false)).1)))) := rfl
theorem exH_0 {l : List Vr} {n : Nat} {f : ENode (ET n)} (h : f.kind = 0) : exH l (n + 1) f = (numH f.num, farH f.num) := by
  rw [exH_eq, if_pos h]
theorem exH_1 {l : List Vr} {n : Nat} {f : ENode (ET n)} (h : f.kind = 1) : exH l (n + 1) f = (numH (ofV l f.name), farH (ofV l f.name)) := by
  rw [exH_eq, if_neg (by omega), if_pos h]
theorem exH_4 {l : List Vr} {n : Nat} {f : ENode (ET n)} (h : f.kind = 4) {a : ET n} (hk : f.kids = [a]) : exH l (n + 1) f = (numH (f.num * (exH l n a).1), (exH l n a).2 || farH (f.num * (exH l n a).1)) := by
  rw [exH_eq, if_neg (by omega), if_neg (by omega), if_pos h, hk]; rfl
theorem exH_2 {l : List Vr} {n : Nat} {f : ENode (ET n)} (h : f.kind = 2 ∨ f.kind = 3) {a b : ET n} (hk : f.kids = [a, b]) : exH l (n + 1) f = (numH ((exH l n a).1 + (if f.kind = 3 then -(exH l n b).1 else (exH l n b).1)), (exH l n a).2 || (exH l n b).2 || farH ((exH l n a).1 + (if f.kind = 3 then -(exH l n b).1 else (exH l n b).1))) := by
  rw [exH_eq, if_neg (by omega), if_neg (by omega), if_neg (by omega), hk]; rfl
theorem mul_fits {a b : Int} (h1 : -1073741824 ≤ a) (h2 : a ≤ 1073741824) (h3 : -4294967296 ≤ b) (h4 : b ≤ 4294967296) : -4611686018427387904 ≤ a * b ∧ a * b ≤ 4611686018427387904 := by
  have h : (a * b).natAbs ≤ 1073741824 * 4294967296 := by
    rw [Int.natAbs_mul]
    exact Nat.mul_le_mul (by omega) (by omega)
  omega
theorem ok_partsH {n : Nat} {x : ENode (ET n)} (h : okE (n + 1) x = true) : eShape x.kind x.num x.name x.kids.length = true ∧ ∀ k ∈ x.kids, okE n k = true := by
  have h' : (eShape x.kind x.num x.name x.kids.length && x.kids.all (okE n)) = true := h
  rw [Bool.and_eq_true] at h'
  exact ⟨h'.1, List.all_eq_true.1 h'.2⟩
theorem eShape_casesH {kd num : Int} {name : ByteArray} {kl : Nat} (h : eShape kd num name kl = true) :
    (kd = 0 ∧ coefS num = true ∧ kl = 0) ∨ (kd = 1 ∧ kl = 0) ∨ ((kd = 2 ∨ kd = 3) ∧ kl = 2) ∨ (kd = 4 ∧ coefS num = true ∧ kl = 1) := by
  unfold eShape at h
  split at h
  · simp only [Bool.and_eq_true, decide_eq_true_eq] at h
    exact .inl ⟨by assumption, h.1.1, h.2⟩
  split at h
  · simp only [Bool.and_eq_true, decide_eq_true_eq] at h
    exact .inr (.inl ⟨by assumption, h.2⟩)
  split at h
  · simp only [Bool.and_eq_true, decide_eq_true_eq] at h
    exact .inr (.inr (.inl ⟨by assumption, h.2⟩))
  split at h
  · simp only [Bool.and_eq_true, decide_eq_true_eq] at h
    exact .inr (.inr (.inr ⟨by assumption, h.1.1, h.2⟩))
  · cases h
end Go.Proofs.YtpmndblakmobdaaGreatDoor
/- HlB -/
namespace Go.Proofs.YtpmndblakmobdaaGreatDoor
open Go Go.RowKit

def varV : ElV Vr := pairV strV intV 24 (by decide)
theorem varV_good : varV.Good := pairV_good strV_good intV_good _ _
abbrev Vars (R : Nat → Prop) (w : World) (A : Option Addr) (l : List Vr) (cap : Nat) : Prop := Sl varV.mem 2 R w A l cap
theorem varE_good : varV.mem.Good := varV_good.mem
theorem var_cells {R : Nat → Prop} {w : World} {cs : List Value} {x : Vr} (h : varV R w cs x) : cs = [.string x.1, .int .i64 x.2] ∧ x.1.size ≤ maxLen ∧ I64 x.2 := by
  obtain ⟨c1, c2, rfl, _, ⟨rfl, h1⟩, ⟨rfl, h2⟩⟩ := h
  exact ⟨rfl, h1, h2⟩
theorem vars_at {R : Nat → Prop} {w : World} {A : Option Addr} {l : List Vr} {cap : Nat} (h : Vars R w A l cap) (i : Nat) (hi : i < l.length) :
    ∃ b o, A = some ⟨b, o, none⟩ ∧ I64 l[i].2 ∧ w.cell? ⟨b, o + i * 2, none⟩ = some (.string l[i].1) ∧ w.cell? ⟨b, o + i * 2 + 1, none⟩ = some (.int .i64 l[i].2) := by
  obtain ⟨b, o, cs, e, _, hv, hc⟩ := vmem_of (V := varV) rfl h i hi
  obtain ⟨rfl, _, h1⟩ := var_cells hv
  exact ⟨b, o, e, h1, hc 0 _ rfl, hc 1 _ rfl⟩

theorem list_var1 (cs : List Value) (h : cs.length = 2) : ∃ v0 v1, cs = [v0, v1] := by
  match cs, h with
  | [v0, v1], _ => exact ⟨v0, v1, rfl⟩
set_option maxHeartbeats 1000000 in
theorem indexFunc_var1 {α : Type} {V : ElV α} (hk : V.sz = 2) (g : V.Good) {R : Nat → Prop} {w : World} {A : Option Addr} {l : List α} {cap : Nat} (hl : Sl V.mem 2 R w A l cap) (fv : FuncId) (hf : Entered fv) (c : Value) (p : α → Bool)
    (hp : ∀ w', Chg No w w' → ∀ i (h : i < l.length) cs, V R w' cs l[i] → Calls Tryz.prog fv #[.agg cs.toArray, c] w' fun e w'' => e = .returned (.bool (p l[i])) ∧ Chg No w' w'') :
    Calls Tryz.prog 75 #[.slice A l.length cap, .func (.func fv) #[] #[c]] w fun e w' => e = .returned (.int .i64 (findI p l)) ∧ Chg No w w' := by
  have hb := hl.big
  unfold big at hb
  have Hp := Lib.hid hp
  have HL := Lib.hid (fun W (h : Chg No w W) => hl.no g.mem h)
  clear hp hl
  unfold Entered at hf
  go_enter Tryz.func75, Tryz.ntmps75
  go_wp2
  go_loopw [8] (fun i wr => ∃ k : Nat, k ≤ l.length ∧ i = .int .i64 k ∧ Hid (Chg No w wr) ∧ Hid (∀ j (h : j < l.length), j < k → p l[j] = false)) (fun i _ => l.length - (intOf i).toNat)
  case atStart => exact ⟨0, Nat.zero_le _, rfl, Chg.refl _ _, fun j h hk => absurd hk (by omega)⟩
  case round =>
    obtain ⟨kk, hkk, rfl, hch, hall⟩ := hrel
    by_cases hlt : kk < l.length
    · obtain ⟨b, o, cs, rfl, hlen, hv, hc⟩ := vmem_of hk (HL.out wr hch.out) kk hlt
      obtain ⟨v0, v1, rfl⟩ := list_var1 cs hlen
      have x0 : wr.cell? ⟨b, o + kk * 2, none⟩ = some v0 := hc 0 _ rfl
      have x1 : wr.cell? ⟨b, o + kk * 2 + 1, none⟩ = some v1 := hc 1 _ rfl
      clear hc hlen
      have i0 : (0 : Int) ≤ (kk : Int) := by omega
      have i1 : (kk : Int) < (l.length : Int) := by omega
      have HP := Lib.hid (Hp.out wr hch.out kk hlt _ hv)
      have Hhit : Hid (p l[kk] = true → findI p l = kk) := fun h => findI_hit hlt h hall.out
      have Hmiss : Hid (p l[kk] = false → ∀ j (h : j < l.length), j < kk + 1 → p l[j] = false) := fun hpk j h hj => by
        rcases Nat.lt_or_ge j kk with g | g
        · exact hall.out j h g
        · obtain rfl : j = kk := by omega
          exact hpk
      clear hv
      generalize p l[kk] = pk at *
      cases pk with
      | true =>
        have HE := Lib.hid (Hhit.out rfl)
        clear Hmiss Hhit
        go_wp2_with (refine HP.out.mono ?_; rintro e w1 ⟨rfl, h1⟩)
        go_ret
        exact ⟨ret_int HE.out.symm, hch.out.thenNo h1⟩
      | false =>
        have HM := Lib.hid (Hmiss.out rfl)
        clear Hmiss Hhit
        go_wp2_with (refine HP.out.mono ?_; rintro e w1 ⟨rfl, h1⟩)
        go_roundw
        case rel => exact ⟨kk + 1, hlt, by go_num, hch.out.thenNo h1, HM.out⟩
        case measure => simp [intOf]; omega
    · go_wp2
      go_ret
      exact ⟨ret_int (findI_miss (fun j h => hall.out j h (by omega))).symm, hch.out⟩

theorem find_findI' {α : Type} {p : α → Bool} {l : List α} : (findI p l = -1 ∧ l.find? p = none) ∨ ∃ k, ∃ h : k < l.length, findI p l = (k : Int) ∧ l.find? p = some l[k] := by
  unfold findI
  cases h : l.findIdx? p with
  | none =>
    left
    rw [List.findIdx?_eq_none_iff] at h
    refine ⟨rfl, ?_⟩
    rw [List.find?_eq_none]
    exact fun x hx => by simp [h x hx]
  | some k =>
    right
    rw [List.findIdx?_eq_some_iff_getElem] at h
    obtain ⟨hk, hp, hall⟩ := h
    refine ⟨k, hk, rfl, ?_⟩
    rw [List.find?_eq_some_iff_getElem]
    exact ⟨hp, k, hk, rfl, fun j hj => by simpa using hall j hj⟩

/-- The look at variables: where they lie, and whether something was far. -/
def LookAt (w : World) (bx : Nat) (A : Option Addr) (len cap : Nat) (f : Bool) : Prop := w.heap[bx]? = some (.cells #[.slice A len cap, .bool f] 103 (0, 0))
theorem LookAt.cells {w : World} {bx : Nat} {A : Option Addr} {len cap : Nat} {f : Bool} (h : LookAt w bx A len cap f) : w.cell? ⟨bx, 0, none⟩ = some (.slice A len cap) ∧ w.cell? ⟨bx, 1, none⟩ = some (.bool f) ∧ w.frozen? ⟨bx, 0, none⟩ = false ∧ w.frozen? ⟨bx, 1, none⟩ = false := by
  unfold LookAt at h
  simp [World.cell?, World.frozen?, h]
theorem LookAt.set {w : World} {bx : Nat} {A : Option Addr} {len cap : Nat} {f : Bool} (h : LookAt w bx A len cap f) (g : Bool) : LookAt (w.setCell ⟨bx, 1, none⟩ (.bool g)) bx A len cap g := by
  unfold LookAt at h ⊢
  simp [World.setCell, Array.getElem?_modify, h]
theorem LookAt.chg {S : Nat → Prop} {w w' : World} {bx : Nat} {A : Option Addr} {len cap : Nat} {f : Bool} (h : LookAt w bx A len cap f) (c : Chg S w w') (hS : ¬ S bx) : LookAt w' bx A len cap f := c.obj h hS
theorem LookAt.ne {w : World} {bx : Nat} {A : Option Addr} {len cap : Nat} {f : Bool} (h : LookAt w bx A len cap f) {b o : Nat} {k : Int} (x : w.cell? ⟨b, o, none⟩ = some (.int .i64 k)) : b ≠ bx := by
  rintro rfl
  unfold LookAt at h
  match o with
  | 0 => simp [World.cell?, h] at x
  | 1 => simp [World.cell?, h] at x
  | o + 2 => simp [World.cell?, h] at x
/-- A call looks: it returns v, and marks what was far; nothing else changes. -/
def LkRet (bx : Nat) (A : Option Addr) (len cap : Nat) (f : Bool) (w : World) (v : Value) (e : Ending) (w' : World) : Prop :=
  e = .returned v ∧ Chg (fun k => k = bx) w w' ∧ LookAt w' bx A len cap f

theorem number_any {w : World} {bx : Nat} {A : Option Addr} {len cap : Nat} {f : Bool} (hb : LookAt w bx A len cap f) (n : Int) :
    Calls Tryz.prog 59 #[.pointer (some ⟨bx, 0, none⟩), .int .i64 n] w (LkRet bx A len cap (f || farH n) w (.int .i64 (numH n))) := by
  have HB := Lib.hid hb
  obtain ⟨p0, p1, pf0, pf1⟩ := hb.cells
  clear hb
  unfold LkRet numH farH
  by_cases h1 : n < -4294967296
  · rw [show decide (n < -4294967296) = true from decide_eq_true h1]
    go_enter Tryz.func59, Tryz.ntmps59
    go_wp2_with fail
    go_ret
    exact ⟨rfl, (Chg.refl _ _).setCell _ _ (fun _ => rfl), by simpa using HB.out.set true⟩
  by_cases h2 : 4294967296 < n
  · rw [show decide (4294967296 < n) = true from decide_eq_true h2]
    simp only [Bool.or_true, if_true]
    go_enter Tryz.func59, Tryz.ntmps59
    go_wp2_with fail
    go_ret
    exact ⟨rfl, (Chg.refl _ _).setCell _ _ (fun _ => rfl), HB.out.set true⟩
  rw [show decide (n < -4294967296) = false from decide_eq_false h1, show decide (4294967296 < n) = false from decide_eq_false h2]
  simp only [Bool.or_false, Bool.false_eq_true, if_false]
  go_enter Tryz.func59, Tryz.ntmps59
  go_wp2_with fail
  go_ret
  exact ⟨rfl, Chg.refl _ _, HB.out⟩
set_option maxRecDepth 10000 in
theorem entered_var1 : Entered 76 := fun _ _ => rfl
set_option maxRecDepth 100000 in
set_option maxHeartbeats 1000000 in
theorem hvariable_any {Rs : Nat → Prop} {w : World} {bx : Nat} {A : Option Addr} {l : List Vr} {cap : Nat} {f : Bool} (hb : LookAt w bx A l.length cap f) (hl : Vars Rs w A l cap) (name : ByteArray) :
    Calls Tryz.prog 60 #[.pointer (some ⟨bx, 0, none⟩), .string name] w (LkRet bx A l.length cap (f || farH (ofV l name)) w (.int .i64 (numH (ofV l name)))) := by
  have hbig := hl.big
  unfold big at hbig
  obtain ⟨w3, hw3⟩ : ∃ w3, w3 = w.alloc (.cells #[.string name] 9) := ⟨_, rfl⟩
  have h3 : Hid (Chg No w w3 ∧ w3.heap[w.heap.size]? = some (.cells #[.string name] 9 (0, 0))) := by
    rw [hw3]; exact ⟨(Chg.refl _ _).alloc _, heap_alloc_new _ _⟩
  have HB := Lib.hid (fun W (hW : Chg No w W) => hb.chg hW id)
  have HIX : Hid (Calls Tryz.prog 75 #[.slice A l.length cap, .func (.func 76) #[] #[.pointer (some ⟨w.heap.size, 0, none⟩)]] w3 fun e w' => e = .returned (.int .i64 (findI (fun s => s.1.toList == name.toList) l)) ∧ Chg No w3 w') :=
    indexFunc_var1 (V := varV) rfl varV_good (hl.no varE_good h3.out.1) 76 entered_var1 (.pointer (some ⟨w.heap.size, 0, none⟩)) (fun s => s.1.toList == name.toList) (fun W hW i hi cs hcs => by
      obtain ⟨rfl, _, _⟩ := var_cells hcs
      have q0 := obj_1 (hW.obj h3.out.2 id)
      have x2 := ((Chg.refl No W).alloc (.cells #[.string l[i].1, .int .i64 l[i].2] 98)).cell q0 id
      generalize l[i].1 = nm at *
      generalize l[i].2 = lc at *
      clear hcs hl hb q0 hw3
      go_enter Tryz.func76, Tryz.ntmps76
      go_wp2_with fail
      go_ret
      exact ⟨rfl, (Chg.refl _ _).alloc _⟩)
  have HL := Lib.hid (fun W (hW : Chg No w W) => hl.no varE_good hW)
  have HLC := Lib.hid (fun W (hW : Chg No w W) => (hb.chg hW id).cells)
  obtain ⟨p0, p1, pf0, pf1⟩ := (hb.chg h3.out.1 id).cells
  have hfi := find_findI' (p := fun s : Vr => s.1.toList == name.toList) (l := l)
  clear hl hb
  rcases hfi with ⟨e1, e2⟩ | ⟨k, hk, e1, e2⟩
  · have hso : ofV l name = 0 := by unfold ofV; rw [e2]
    rw [e1] at HIX
    rw [hso, show farH 0 = false by decide, show numH 0 = 0 by decide, Bool.or_false]
    clear hso e1 e2 HL
    go_enter Tryz.func60, Tryz.ntmps60
    go_upto_region 1 with fail
    rw [← hw3]
    clear hw3
    go_wp2_with (go_at_call 75; refine HIX.out.mono ?_; rintro e w4 ⟨rfl, h4⟩)
    go_ret
    exact ⟨rfl, (h3.out.1.thenNo h4).no, HB.out _ (h3.out.1.thenNo h4)⟩
  · have hso : ofV l name = l[k].2 := by unfold ofV; rw [e2]
    rw [e1] at HIX
    rw [hso]
    have HSA := Lib.hid (fun W (hW : Chg No w W) => vars_at (HL.out W hW) k hk)
    have i0 : (0 : Int) ≤ (k : Int) := by omega
    have i1 : (k : Int) < (l.length : Int) := by omega
    clear hso e1 e2 HL
    generalize l[k] = sk at *
    obtain ⟨sn, sc⟩ := sk
    simp only at HSA ⊢
    have HNM := Lib.hid (fun W (hW : Chg No w W) => number_any (HB.out W hW) sc)
    go_enter Tryz.func60, Tryz.ntmps60
    go_upto_region 1 with fail
    rw [← hw3]
    clear hw3
    go_wp2_with (first
      | (go_at_call 75; refine HIX.out.mono ?_; rintro e w4 ⟨rfl, h4⟩; have H4 := Lib.hid (h3.out.1.thenNo h4); clear p0 p1 pf0 pf1; obtain ⟨p0, p1, pf0, pf1⟩ := HLC.out w4 (h3.out.1.thenNo h4); obtain ⟨b, o, rfl, _, x0, x1⟩ := HSA.out w4 (h3.out.1.thenNo h4); clear h4)
      | (go_at_call 59; refine (HNM.out _ H4.out).mono ?_; rintro e w5 ⟨rfl, h5, g5⟩))
    go_ret
    exact ⟨rfl, H4.out.no.trans h5 (fun k hk _ => hk), g5⟩
end Go.Proofs.YtpmndblakmobdaaGreatDoor
/- HlC -/
namespace Go.Proofs.YtpmndblakmobdaaGreatDoor
open Go Go.RowKit

/-- A part's cells, where the slice's address is known. -/
theorem exprs_someH {n : Nat} {R : Nat → Prop} {w : World} {b o : Nat} {l : List (ET n)} {cap : Nat} (h : Exprs R w (some ⟨b, o, none⟩) l cap) (i : Nat) (hi : i < l.length) :
    ∃ k m s B kl capk, (exprV n) R w [.int .i64 k, .int .i64 m, .string s, .slice B kl capk] l[i] ∧ w.cell? ⟨b, o + i * 4, none⟩ = some (.int .i64 k) ∧ w.cell? ⟨b, o + i * 4 + 1, none⟩ = some (.int .i64 m) ∧ w.cell? ⟨b, o + i * 4 + 2, none⟩ = some (.string s) ∧ w.cell? ⟨b, o + i * 4 + 3, none⟩ = some (.slice B kl capk) := by
  obtain ⟨b', o', k, m, s, B, kl, capk, e, hv, x0, x1, x2, x3⟩ := exprs_at h i hi
  injection e with e
  injection e with e1 e2
  subst e1; subst e2
  exact ⟨k, m, s, B, kl, capk, hv, x0, x1, x2, x3⟩
def HExOk (n : Nat) : Prop := ∀ (x : ET n) (R Rs : Nat → Prop) (w : World) (cs : List Value) (bx : Nat) (A : Option Addr) (l : List Vr) (cap : Nat) (f : Bool), okE n x = true → (exprV n) R w cs x → (∀ k, R k → k ≠ bx) → LookAt w bx A l.length cap f → Vars Rs w A l cap → (∀ k, Rs k → k ≠ bx) →
    Calls Tryz.prog 36 #[.pointer (some ⟨bx, 0, none⟩), .agg cs.toArray] w (LkRet bx A l.length cap (f || (exH l n x).2) w (.int .i64 (exH l n x).1))

set_option maxRecDepth 100000 in
set_option maxHeartbeats 4000000 in
theorem hex_walk (n : Nat) (IH : Hid (HExOk n)) : HExOk (n + 1) := by
  rintro f R Rs w cs bx A l cap fl hok h hR hb hl hRs
  obtain ⟨B, capk, rfl, i1, i2, hm, hk⟩ := enode_cells h
  obtain ⟨hs, hkok⟩ := ok_partsH hok
  have hbx : bx < w.heap.size := (Array.getElem?_eq_some_iff.1 hb).1
  have HKA := Lib.hid (fun W (hW : Chg (fun k => k = bx) w W) => hk.chg (exprE_good n) hW (fun k hk e => hR k hk e))
  have HVS := Lib.hid (fun W (hW : Chg (fun k => k = bx) w W) => hl.chg varE_good hW (fun k hk e => hRs k hk e))
  have HIH : Hid (∀ x : ET n, okE n x = true → ∀ W cs' g, Chg (fun k => k = bx) w W → (exprV n) R W cs' x → LookAt W bx A l.length cap g → Calls Tryz.prog 36 #[.pointer (some ⟨bx, 0, none⟩), .agg cs'.toArray] W (LkRet bx A l.length cap (g || (exH l n x).2) W (.int .i64 (exH l n x).1))) := fun x hx W cs' g hW hcs hg => IH.out x R Rs W cs' bx A l cap g hx hcs hR hg (HVS.out W hW) hRs
  have HNM : Hid (∀ W g z, LookAt W bx A l.length cap g → Calls Tryz.prog 59 #[.pointer (some ⟨bx, 0, none⟩), .int .i64 z] W (LkRet bx A l.length cap (g || farH z) W (.int .i64 (numH z)))) := fun W g z hg => number_any hg z
  have HVR : Hid (∀ W g name, Chg (fun k => k = bx) w W → LookAt W bx A l.length cap g → Calls Tryz.prog 60 #[.pointer (some ⟨bx, 0, none⟩), .string name] W (LkRet bx A l.length cap (g || farH (ofV l name)) W (.int .i64 (numH (ofV l name))))) := fun W g name hW hg => hvariable_any hg (HVS.out W hW) name
  have H0 := @exH_0 l n f
  have H1 := @exH_1 l n f
  have H2 := @exH_2 l n f
  have H4 := @exH_4 l n f
  have HKO := Lib.hid hkok
  have HLE := Lib.hid (fun x : ET n => exH_le l n x)
  have HB := Lib.hid hb
  obtain ⟨ans, hans⟩ : ∃ ans, ans = exH l (n + 1) f := ⟨_, rfl⟩
  rw [← hans] at H0 H1 H2 H4 ⊢
  clear hans h hk IH hok hm hl hkok hb
  generalize ENode.kind f = kd at *
  generalize ENode.num f = num at *
  generalize ENode.name f = name at *
  generalize ENode.kids f = ks at *
  obtain ⟨w3, hw3⟩ : ∃ w3, w3 = w.alloc (.cells #[.int .i64 kd, .int .i64 num, .string name, .slice B ks.length capk] 53) := ⟨_, rfl⟩
  have h3 : Hid (Chg No w w3 ∧ w3.heap[w.heap.size]? = some (.cells #[.int .i64 kd, .int .i64 num, .string name, .slice B ks.length capk] 53 (0, 0)) ∧ LookAt w3 bx A l.length cap fl) := by
    rw [hw3]
    exact ⟨(Chg.refl _ _).alloc _, heap_alloc_new _ _, HB.out.chg (S := No) ((Chg.refl _ _).alloc _) id⟩
  have HO : Hid (∀ W, Chg (fun k => k = bx) w3 W → W.cell? ⟨w.heap.size, 0, none⟩ = some (.int .i64 kd) ∧ W.cell? ⟨w.heap.size, 1, none⟩ = some (.int .i64 num) ∧ W.cell? ⟨w.heap.size, 2, none⟩ = some (.string name) ∧ W.cell? ⟨w.heap.size, 3, none⟩ = some (.slice B ks.length capk)) := fun W hW =>
    obj_4 (hW.obj h3.out.2.1 (fun e => by omega))
  obtain ⟨p0, p1, p2, p3⟩ := HO.out w3 (Chg.refl _ _)
  rcases eShape_casesH hs with ⟨rfl, hcx, hkx⟩ | ⟨rfl, hkx⟩ | ⟨hkd, hkl⟩ | ⟨rfl, hc, hkl⟩
  · have HA := Lib.hid (H0 rfl)
    have HN := Lib.hid (HNM.out w3 fl num h3.out.2.2)
    clear hcx hkx HIH HVR HKA HKO HLE hs H0 H1 H2 H4 HVS
    go_enter Tryz.func36, Tryz.ntmps36
    go_upto_region 1 with fail
    rw [← hw3]
    clear hw3
    go_wp2_with (go_at_call 59; refine HN.out.mono ?_; rintro e w4 ⟨rfl, h4, g4⟩)
    go_ret
    rw [HA.out]
    exact ⟨rfl, (h3.out.1.no).trans h4 (fun _ h _ => h), g4⟩
  · have HA := Lib.hid (H1 rfl)
    have HN := Lib.hid (HVR.out w3 fl name h3.out.1.no h3.out.2.2)
    clear hkx HIH HNM HVR HKA HKO HLE hs H0 H1 H2 H4 HVS
    go_enter Tryz.func36, Tryz.ntmps36
    go_upto_region 1 with fail
    rw [← hw3]
    clear hw3
    go_wp2_with (go_at_call 60; refine HN.out.mono ?_; rintro e w4 ⟨rfl, h4, g4⟩)
    go_ret
    rw [HA.out]
    exact ⟨rfl, (h3.out.1.no).trans h4 (fun _ h _ => h), g4⟩
  rotate_left
  · obtain ⟨a, rfl⟩ : ∃ a, ks = [a] := List.length_eq_one_iff.1 hkl
    have HA := Lib.hid (H4 rfl rfl)
    obtain ⟨n1, n2⟩ := coefS_le hc
    obtain ⟨v1, v2⟩ := HLE.out a
    obtain ⟨m1, m2⟩ := mul_fits n1 n2 v1 v2
    rw [show ([a] : List (ET n)).length = 1 from rfl] at hw3 h3 HO p3
    obtain ⟨b, o, hB⟩ : ∃ b o, B = some ⟨b, o, none⟩ := by
      obtain ⟨b, o, _, _, _, _, _, _, hB, _⟩ := exprs_at (HKA.out w3 h3.out.1.no) 0 (by simp)
      exact ⟨b, o, hB⟩
    subst hB
    obtain ⟨k0, m0, s0, B0, l0, d0, hv, x0, x1, x2, x3⟩ := exprs_someH (HKA.out w3 h3.out.1.no) 0 (by simp)
    have HI := Lib.hid (fun W (hW : Chg No w3 W) => HIH.out a (HKO.out a (by simp)) W _ fl (h3.out.1.thenNo hW).no ((exprV_good n).no hv hW) (h3.out.2.2.chg hW id))
    simp only [Nat.zero_mul, Nat.add_zero] at x0 x1 x2 x3
    have HT2 : Hid (∀ W, Chg (fun k => k = bx) w3 W → True ∧ ((W.cell? ⟨w.heap.size, 0, none⟩ = some (.int .i64 4) ∧ W.cell? ⟨w.heap.size, 1, none⟩ = some (.int .i64 num) ∧ W.cell? ⟨w.heap.size, 2, none⟩ = some (.string name) ∧ W.cell? ⟨w.heap.size, 3, none⟩ = some (.slice (some ⟨b, o, none⟩) 1 capk)) ∧ W.cell? ⟨b, o, none⟩ = some (.int .i64 k0) ∧ W.cell? ⟨b, o + 1, none⟩ = some (.int .i64 m0) ∧ W.cell? ⟨b, o + 2, none⟩ = some (.string s0) ∧ W.cell? ⟨b, o + 3, none⟩ = some (.slice B0 l0 d0))) := fun W hW =>
      have hne : b ≠ bx := h3.out.2.2.ne x0
      ⟨trivial, HO.out W hW, hW.cell x0 hne, hW.cell x1 hne, hW.cell x2 hne, hW.cell x3 hne⟩
    have HT : Hid (∀ W, Chg (fun k => k = bx) w3.drew W → Hid (Chg (fun k => k = bx) w3 W) ∧ ((W.cell? ⟨w.heap.size, 0, none⟩ = some (.int .i64 4) ∧ W.cell? ⟨w.heap.size, 1, none⟩ = some (.int .i64 num) ∧ W.cell? ⟨w.heap.size, 2, none⟩ = some (.string name) ∧ W.cell? ⟨w.heap.size, 3, none⟩ = some (.slice (some ⟨b, o, none⟩) 1 capk)) ∧ W.cell? ⟨b, o, none⟩ = some (.int .i64 k0) ∧ W.cell? ⟨b, o + 1, none⟩ = some (.int .i64 m0) ∧ W.cell? ⟨b, o + 2, none⟩ = some (.string s0) ∧ W.cell? ⟨b, o + 3, none⟩ = some (.slice B0 l0 d0))) := fun W hW =>
      have h := (Chg.refl No w3).drew.no.trans hW (fun _ h _ => h)
      ⟨h, (HT2.out W h).2⟩
    have hw : IntKind.i64.wrap (num * (exH l n a).1) = num * (exH l n a).1 := by rw [IntKind.wrap_i64]; omega
    clear hv HIH HVR HKA HKO HLE hs H0 H1 H2 H4 HVS hc hkl
    generalize exH l n a = ea at *
    obtain ⟨va, fa⟩ := ea
    simp only at HA HI hw m1 m2 v1 v2
    go_enter Tryz.func36, Tryz.ntmps36
    go_upto_region 1 with fail
    rw [← hw3]
    clear hw3
    go_upto_region 7 with fail
    go_region_held_law (fun W => W.cell? ⟨w.heap.size, 1, none⟩ = some (.int .i64 num) ∧ W.cell? ⟨w.heap.size, 3, none⟩ = some (.slice (some ⟨b, o, none⟩) 1 capk) ∧ W.cell? ⟨b, o, none⟩ = some (.int .i64 k0) ∧ W.cell? ⟨b, o + 1, none⟩ = some (.int .i64 m0) ∧ W.cell? ⟨b, o + 2, none⟩ = some (.string s0) ∧ W.cell? ⟨b, o + 3, none⟩ = some (.slice B0 l0 d0))
      (first | (refine ⟨?_, ?_, ?_, ?_, ?_, ?_⟩ <;> with_reducible assumption) | go_keep)
      ((first
        | (go_at_call 36; (with_reducible refine (HI.out _ (Chg.refl No w3).drew).mono ?_); rintro e w4 ⟨rfl, h4, g4⟩; obtain ⟨H4, H5⟩ := HT.out w4 h4; have HN := Lib.hid (HNM.out w4 _ (num * va) g4); clear h4 g4 p0 p1 p2 p3 x0 x1 x2 x3; obtain ⟨⟨p0, p1, p2, p3⟩, x0, x1, x2, x3⟩ := H5)
        | (go_at_call 59; (with_reducible refine HN.out.mono ?_); rintro e w5 ⟨rfl, h5, g5⟩; have G5 := Lib.hid g5; have H5 := Lib.hid (H4.out.trans h5 (fun _ h _ => h)); obtain ⟨_, H6⟩ := HT2.out w5 H5.out; clear h5 g5 p0 p1 p2 p3 x0 x1 x2 x3; obtain ⟨⟨p0, p1, p2, p3⟩, x0, x1, x2, x3⟩ := H6)))
    go_wp2_with fail
    go_ret
    rw [HA.out]
    exact ⟨rfl, (h3.out.1.no).trans H5.out (fun _ h _ => h), by simpa [Bool.or_assoc] using G5.out⟩
  · obtain ⟨a, b2, rfl⟩ : ∃ a b2, ks = [a, b2] := by
      match ks, hkl with
      | [a, b2], _ => exact ⟨a, b2, rfl⟩
    have HA := Lib.hid (H2 hkd rfl)
    have hk0 : (kd == 0) = false := beqF (by omega)
    have hk1 : (kd == 1) = false := beqF (by omega)
    have hk4 : (kd == 4) = false := beqF (by omega)
    obtain ⟨v1, v2⟩ := HLE.out a
    obtain ⟨v3, v4⟩ := HLE.out b2
    rw [show ([a, b2] : List (ET n)).length = 2 from rfl] at hw3 h3 HO p3
    obtain ⟨b, o, hB⟩ : ∃ b o, B = some ⟨b, o, none⟩ := by
      obtain ⟨b, o, _, _, _, _, _, _, hB, _⟩ := exprs_at (HKA.out w3 h3.out.1.no) 0 (by simp)
      exact ⟨b, o, hB⟩
    subst hB
    obtain ⟨k0, m0, s0, B0, l0, d0, hv, x0, x1, x2, x3⟩ := exprs_someH (HKA.out w3 h3.out.1.no) 0 (by simp)
    have HI := Lib.hid (HIH.out a (HKO.out a (by simp)) w3 _ fl h3.out.1.no hv h3.out.2.2)
    simp only [Nat.zero_mul, Nat.add_zero] at x0 x1 x2 x3
    have HI2 : Hid (∀ W g, Chg (fun k => k = bx) w W → LookAt W bx (A) l.length cap g → ∃ k0 m0 s0 B0 l0 d0, W.cell? ⟨b, o + 4, none⟩ = some (.int .i64 k0) ∧ W.cell? ⟨b, o + 4 + 1, none⟩ = some (.int .i64 m0) ∧ W.cell? ⟨b, o + 4 + 2, none⟩ = some (.string s0) ∧ W.cell? ⟨b, o + 4 + 3, none⟩ = some (.slice B0 l0 d0) ∧
        Calls Tryz.prog 36 #[.pointer (some ⟨bx, 0, none⟩), .agg #[.int .i64 k0, .int .i64 m0, .string s0, .slice B0 l0 d0]] W (LkRet bx A l.length cap (g || (exH l n b2).2) W (.int .i64 (exH l n b2).1))) := fun W g hW hg => by
      obtain ⟨k0, m0, s0, B0, l0, d0, hv, x0, x1, x2, x3⟩ := exprs_someH (HKA.out W hW) 1 (by simp)
      simp only [Nat.one_mul] at x0 x1 x2 x3
      exact ⟨k0, m0, s0, B0, l0, d0, x0, x1, x2, x3, HIH.out b2 (HKO.out b2 (by simp)) W _ g hW hv hg⟩
    clear hv HIH HVR HKA HKO HLE hs H0 H1 H2 H4 HVS hkl
    generalize exH l n a = ea at *
    generalize exH l n b2 = eb at *
    obtain ⟨va, fa⟩ := ea
    obtain ⟨vb, fb⟩ := eb
    simp only at HA HI HI2 v1 v2 v3 v4
    by_cases h3k : kd = 3
    · have hk3 : (kd == 3) = true := by simpa using h3k
      have hw1 : IntKind.i64.wrap (-vb) = -vb := by rw [IntKind.wrap_i64]; omega
      have hw2 : IntKind.i64.wrap (va + -vb) = va + -vb := by rw [IntKind.wrap_i64]; omega
      rw [if_pos h3k] at HA
      clear h3k hkd
      go_enter Tryz.func36, Tryz.ntmps36
      go_upto_region 1 with fail
      rw [← hw3]
      clear hw3
      go_upto_region 9 with (go_at_call 36; refine HI.out.mono ?_; rintro e w4 ⟨rfl, h4, g4⟩; have H4 := Lib.hid h4; have G4 := Lib.hid g4; clear g4 h4)
      clear p0 p1 p2 p3 x0 x1 x2 x3
      obtain ⟨p0, p1, p2, p3⟩ := HO.out w4 H4.out
      obtain ⟨k1, m1, s1, B1, l1, d1, x0, x1, x2, x3, hI2⟩ := HI2.out w4 _ (h3.out.1.no.trans H4.out (fun _ h _ => h)) G4.out
      have HJ := Lib.hid hI2
      clear hI2
      go_upto_region 10 with (go_at_call 36; refine HJ.out.mono ?_; rintro e w5 ⟨rfl, h5, g5⟩; have H5 := Lib.hid (H4.out.trans h5 (fun _ h _ => h)); have G5 := Lib.hid g5; clear g5 h5)
      clear p0 p1 p2 p3 x0 x1 x2 x3
      obtain ⟨p0, p1, p2, p3⟩ := HO.out w5 H5.out
      have HN := Lib.hid (HNM.out w5 _ (va + -vb) G5.out)
      go_wp2_with (go_at_call 59; refine HN.out.mono ?_; rintro e w6 ⟨rfl, h6, g6⟩)
      go_ret
      rw [HA.out]
      exact ⟨rfl, (h3.out.1.no).trans (H5.out.trans h6 (fun _ h _ => h)) (fun _ h _ => h), by simpa [Bool.or_assoc] using g6⟩
    · have hk3 : (kd == 3) = false := by simpa using h3k
      have hw2 : IntKind.i64.wrap (va + vb) = va + vb := by rw [IntKind.wrap_i64]; omega
      rw [if_neg h3k] at HA
      clear h3k hkd
      go_enter Tryz.func36, Tryz.ntmps36
      go_upto_region 1 with fail
      rw [← hw3]
      clear hw3
      go_upto_region 9 with (go_at_call 36; refine HI.out.mono ?_; rintro e w4 ⟨rfl, h4, g4⟩; have H4 := Lib.hid h4; have G4 := Lib.hid g4; clear g4 h4)
      clear p0 p1 p2 p3 x0 x1 x2 x3
      obtain ⟨p0, p1, p2, p3⟩ := HO.out w4 H4.out
      obtain ⟨k1, m1, s1, B1, l1, d1, x0, x1, x2, x3, hI2⟩ := HI2.out w4 _ (h3.out.1.no.trans H4.out (fun _ h _ => h)) G4.out
      have HJ := Lib.hid hI2
      clear hI2
      go_upto_region 10 with (go_at_call 36; refine HJ.out.mono ?_; rintro e w5 ⟨rfl, h5, g5⟩; have H5 := Lib.hid (H4.out.trans h5 (fun _ h _ => h)); have G5 := Lib.hid g5; clear g5 h5)
      clear p0 p1 p2 p3 x0 x1 x2 x3
      obtain ⟨p0, p1, p2, p3⟩ := HO.out w5 H5.out
      have HN := Lib.hid (HNM.out w5 _ (va + vb) G5.out)
      go_wp2_with (go_at_call 59; refine HN.out.mono ?_; rintro e w6 ⟨rfl, h6, g6⟩)
      go_ret
      rw [HA.out]
      exact ⟨rfl, (h3.out.1.no).trans (H5.out.trans h6 (fun _ h _ => h)) (fun _ h _ => h), by simpa [Bool.or_assoc] using g6⟩
theorem hex_any : ∀ n, HExOk n
  | 0 => fun _ _ _ _ _ _ _ _ _ _ _ h => h.elim
  | n + 1 => hex_walk n (Lib.hid (hex_any n))
end Go.Proofs.YtpmndblakmobdaaGreatDoor
/- HlD -/
namespace Go.Proofs.YtpmndblakmobdaaGreatDoor
open Go Go.RowKit

theorem intsTyH : SliceTy Tryz.prog 23 3 intV.sz intV.bytes (.int .i64 0) := ⟨Tryz.underlying23, by kernel_rfl, rfl, by decide, by decide⟩
theorem boolsTyH : SliceTy Tryz.prog 130 4 boolV.sz boolV.bytes (.bool false) := ⟨Tryz.underlying130, by kernel_rfl, rfl, by decide, by decide⟩
theorem intV_goodH : intV.Good := intV_good
theorem boolV_goodH : boolV.Good := boolV_good
theorem beqDec (a b : Int) : (a == b) = decide (a = b) := by by_cases h : a = b <;> simp [h]
theorem own_int2 {M : Nat → Prop} {w : World} {v : Value} {a b : Int} (h : OwnL intV 3 M No w v [a, b]) : ∃ g o c, v = .slice (some ⟨g, o, none⟩) 2 c ∧ w.cell? ⟨g, o, none⟩ = some (.int .i64 a) ∧ w.cell? ⟨g, o + 1, none⟩ = some (.int .i64 b) := by
  obtain ⟨g, o, c, cs, e, _, _, hv, hc⟩ := h.at_ intV_goodH 0 (by simp)
  obtain ⟨g', o', c', cs', e', _, _, hv', hc'⟩ := h.at_ intV_goodH 1 (by simp)
  rw [e] at e'
  injection e' with e1 _ e3
  injection e1 with e1
  injection e1 with e1 e2
  subst e1; subst e2; subst e3
  obtain ⟨rfl, _⟩ := hv
  obtain ⟨rfl, _⟩ := hv'
  exact ⟨g, o, c, e, hc 0 _ rfl, hc' 0 _ rfl⟩
theorem own_bool1 {M : Nat → Prop} {w : World} {v : Value} {a : Bool} (h : OwnL boolV 4 M No w v [a]) : ∃ g o c, v = .slice (some ⟨g, o, none⟩) 1 c ∧ w.cell? ⟨g, o, none⟩ = some (.bool a) := by
  obtain ⟨g, o, c, cs, e, _, _, hv, hc⟩ := h.at_ boolV_goodH 0 (by simp)
  have hv : cs = [.bool a] := hv
  subst hv
  exact ⟨g, o, c, e, hc 0 _ rfl⟩
theorem own_bool2 {M : Nat → Prop} {w : World} {v : Value} {a b : Bool} (h : OwnL boolV 4 M No w v [a, b]) : ∃ g o c, v = .slice (some ⟨g, o, none⟩) 2 c ∧ w.cell? ⟨g, o, none⟩ = some (.bool a) ∧ w.cell? ⟨g, o + 1, none⟩ = some (.bool b) := by
  obtain ⟨g, o, c, cs, e, _, _, hv, hc⟩ := h.at_ boolV_goodH 0 (by simp)
  obtain ⟨g', o', c', cs', e', _, _, hv', hc'⟩ := h.at_ boolV_goodH 1 (by simp)
  rw [e] at e'
  injection e' with e1 _ e3
  injection e1 with e1
  injection e1 with e1 e2
  subst e1; subst e2; subst e3
  have hv : cs = [.bool a] := hv
  have hv' : cs' = [.bool b] := hv'
  subst hv; subst hv'
  exact ⟨g, o, c, e, hc 0 _ rfl, hc' 0 _ rfl⟩
theorem okC_parts {m n : Nat} {x : CNode (ET m) (CT m n)} (h : okC m (n + 1) x = true) : cShape x.kind x.es.length x.kids.length = true ∧ (∀ e ∈ x.es, okE m e = true) ∧ ∀ k ∈ x.kids, okC m n k = true := by
  have h' : (cShape x.kind x.es.length x.kids.length && (x.es.all (okE m) && x.kids.all (okC m n))) = true := h
  rw [Bool.and_eq_true, Bool.and_eq_true] at h'
  exact ⟨h'.1, List.all_eq_true.1 h'.2.1, List.all_eq_true.1 h'.2.2⟩
theorem cShape_cases {kd : Int} {el kl : Nat} (h : cShape kd el kl = true) :
    (kd = 0 ∧ el = 0 ∧ kl = 0) ∨ (kd = 1 ∧ el = 0 ∧ kl = 0) ∨ ((kd = 2 ∨ kd = 3 ∨ kd = 4 ∨ kd = 5) ∧ el = 2 ∧ kl = 0) ∨ (kd = 6 ∧ el = 0 ∧ kl = 1) ∨ ((kd = 7 ∨ kd = 8) ∧ el = 0 ∧ kl = 2) := by
  unfold cShape at h
  split at h
  · simp only [Bool.and_eq_true, decide_eq_true_eq] at h; omega
  split at h
  · simp only [Bool.and_eq_true, decide_eq_true_eq] at h; omega
  split at h
  · simp only [Bool.and_eq_true, decide_eq_true_eq] at h; omega
  split at h
  · simp only [Bool.and_eq_true, decide_eq_true_eq] at h; omega
  · cases h
theorem conds_someH {m n : Nat} {R : Nat → Prop} {w : World} {b o : Nat} {l : List (CT m n)} {cap : Nat} (h : Conds R w (some ⟨b, o, none⟩) l cap) (i : Nat) (hi : i < l.length) :
    ∃ k A' el cape B kl capk, (condV m n) R w [.int .i64 k, .slice A' el cape, .slice B kl capk] l[i] ∧ w.cell? ⟨b, o + i * 3, none⟩ = some (.int .i64 k) ∧ w.cell? ⟨b, o + i * 3 + 1, none⟩ = some (.slice A' el cape) ∧ w.cell? ⟨b, o + i * 3 + 2, none⟩ = some (.slice B kl capk) := by
  obtain ⟨b', o', k, A', el, cape, B, kl, capk, e, hv, x0, x1, x2⟩ := conds_at h i hi
  injection e with e
  injection e with e1 e2
  subst e1; subst e2
  exact ⟨k, A', el, cape, B, kl, capk, hv, x0, x1, x2⟩
theorem coH_eq (l : List Vr) (m : Nat) {n : Nat} (x : CNode (ET m) (CT m n)) : coH l m (n + 1) x = (truthH x.kind (x.es.map fun e => (exH l m e).1) (x.kids.map fun c => (coH l m n c).1), x.es.any (fun e => (exH l m e).2) || x.kids.any (fun c => (coH l m n c).2)) := rfl
def HCoOk (m n : Nat) : Prop := ∀ (x : CT m n) (R Rs : Nat → Prop) (w : World) (cs : List Value) (bx : Nat) (A : Option Addr) (l : List Vr) (cap : Nat) (f : Bool), okC m n x = true → (condV m n) R w cs x → (∀ k, R k → k ≠ bx) → LookAt w bx A l.length cap f → Vars Rs w A l cap → (∀ k, Rs k → k ≠ bx) →
    Calls Tryz.prog 38 #[.pointer (some ⟨bx, 0, none⟩), .agg cs.toArray] w (LkRet bx A l.length cap (f || (coH l m n x).2) w (.bool (coH l m n x).1))
theorem take_map_succ {α β : Type} (f : α → β) {l : List α} {k : Nat} (h : k < l.length) : (l.take (k + 1)).map f = (l.take k).map f ++ [f l[k]] := by
  rw [List.take_succ_eq_append_getElem h, List.map_append]; rfl
theorem take_any_succ {α : Type} (f : α → Bool) {l : List α} {k : Nat} (h : k < l.length) : (l.take (k + 1)).any f = ((l.take k).any f || f l[k]) := by
  rw [List.take_succ_eq_append_getElem h, List.any_append]; simp

set_option maxRecDepth 100000 in
set_option maxHeartbeats 8000000 in
theorem hco_walk (m n : Nat) (IH : Hid (HCoOk m n)) : HCoOk m (n + 1) := by
  rintro f R Rs w cs bx A l cap fl hok h hR hb hl hRs
  obtain ⟨Ae, cape, B, capk, rfl, i1, he, hk⟩ := cnode_cells h
  obtain ⟨hs, heok, hkok⟩ := okC_parts hok
  have hbx : bx < w.heap.size := (Array.getElem?_eq_some_iff.1 hb).1
  have HES := Lib.hid (fun W (hW : Chg (fun k => k = bx) w W) => he.chg (exprE_good m) hW (fun k hk e => hR k hk e))
  have HKS := Lib.hid (fun W (hW : Chg (fun k => k = bx) w W) => hk.chg (condE_good m n) hW (fun k hk e => hR k hk e))
  have HVS := Lib.hid (fun W (hW : Chg (fun k => k = bx) w W) => hl.chg varE_good hW (fun k hk e => hRs k hk e))
  have HEX : Hid (∀ x : ET m, okE m x = true → ∀ W cs' g, Chg (fun k => k = bx) w W → (exprV m) R W cs' x → LookAt W bx A l.length cap g → Calls Tryz.prog 36 #[.pointer (some ⟨bx, 0, none⟩), .agg cs'.toArray] W (LkRet bx A l.length cap (g || (exH l m x).2) W (.int .i64 (exH l m x).1))) := fun x hx W cs' g hW hcs hg => hex_any m x R Rs W cs' bx A l cap g hx hcs hR hg (HVS.out W hW) hRs
  have HCO : Hid (∀ x : CT m n, okC m n x = true → ∀ W cs' g, Chg (fun k => k = bx) w W → (condV m n) R W cs' x → LookAt W bx A l.length cap g → Calls Tryz.prog 38 #[.pointer (some ⟨bx, 0, none⟩), .agg cs'.toArray] W (LkRet bx A l.length cap (g || (coH l m n x).2) W (.bool (coH l m n x).1))) := fun x hx W cs' g hW hcs hg => IH.out x R Rs W cs' bx A l cap g hx hcs hR hg (HVS.out W hW) hRs
  have hans0 := coH_eq l m f
  have HEO := Lib.hid heok
  have HKO := Lib.hid hkok
  have HLE := Lib.hid (fun x : ET m => exH_le l m x)
  have HB := Lib.hid hb
  obtain ⟨ans, hans⟩ : ∃ ans, ans = coH l m (n + 1) f := ⟨_, rfl⟩
  rw [← hans] at hans0 ⊢
  have HA := Lib.hid hans0
  clear hans hans0 h hk he IH hok hl heok hkok hb
  generalize CNode.kind f = kd at *
  generalize CNode.es f = es at *
  generalize CNode.kids f = ks at *
  have hbe : es.length ≤ 2 := by rcases cShape_cases hs with h | h | h | h | h <;> omega
  have hbk : ks.length ≤ 2 := by rcases cShape_cases hs with h | h | h | h | h <;> omega
  obtain ⟨w3, hw3⟩ : ∃ w3, w3 = w.alloc (.cells #[.int .i64 kd, .slice Ae es.length cape, .slice B ks.length capk] 56) := ⟨_, rfl⟩
  have h3 : Hid (Chg No w w3 ∧ w3.heap[w.heap.size]? = some (.cells #[.int .i64 kd, .slice Ae es.length cape, .slice B ks.length capk] 56 (0, 0)) ∧ LookAt w3 bx A l.length cap fl ∧ w3.heap.size = w.heap.size + 1) := by
    rw [hw3]
    exact ⟨(Chg.refl _ _).alloc _, heap_alloc_new _ _, HB.out.chg (S := No) ((Chg.refl _ _).alloc _) id, by simp⟩
  have HO : Hid (∀ W, Chg (fun k => k = bx) w3 W → W.cell? ⟨w.heap.size, 0, none⟩ = some (.int .i64 kd) ∧ W.cell? ⟨w.heap.size, 1, none⟩ = some (.slice Ae es.length cape) ∧ W.cell? ⟨w.heap.size, 2, none⟩ = some (.slice B ks.length capk)) := fun W hW =>
    obj_3 (hW.obj h3.out.2.1 (fun e => by omega))
  obtain ⟨p0, p1, p2⟩ := HO.out w3 (Chg.refl _ _)
  go_enter Tryz.func38, Tryz.ntmps38
  go_upto_region 1 with fail
  rw [← hw3]
  clear hw3
  go_wp2_with fail
  clear p0 p1 p2
  go_loopw [5, 14] (fun s5 s14 wr => ∃ (k : Nat) (v : Value), v = s5 ∧ s14 = .int .i64 k ∧ k ≤ es.length ∧ Hid (OwnL intV 3 (fun q => w3.heap.size ≤ q) No wr v ((es.take k).map fun e => (exH l m e).1) ∧ Chg (fun q => q = bx) w3 wr ∧ LookAt wr bx A l.length cap (fl || (es.take k).any fun e => (exH l m e).2))) (fun _ s14 _ => es.length - (intOf s14).toNat)
  case atStart => exact ⟨0, _, rfl, rfl, Nat.zero_le _, OwnL.nil _ _ _ _ _, Chg.refl _ _, by simpa using h3.out.2.2.1⟩
  case round =>
    obtain ⟨k, v, rfl, rfl, gk, hst⟩ := hrel
    by_cases hlt : k < es.length
    · have HW : Hid (Chg (fun q => q = bx) w wr) := h3.out.1.no.trans hst.out.2.1 (fun _ h _ => h)
      obtain ⟨b, o, k0, m0, s0, B0, l0, d0, rfl, hv, x0, x1, x2, x3⟩ := exprs_at (HES.out wr HW.out) k hlt
      have i0 : (0 : Int) ≤ (k : Int) := by omega
      have i1 : (k : Int) < (es.length : Int) := by omega
      have hLk : ((es.take k).map fun e => (exH l m e).1).length ≤ es.length := by simp; omega
      have HE1 := Lib.hid (take_map_succ (fun e => (exH l m e).1) hlt)
      have HE2 := Lib.hid (take_any_succ (fun e => (exH l m e).2) hlt)
      have HOW := Lib.hid hst.out.1
      have HCH := Lib.hid hst.out.2.1
      have HLK := Lib.hid hst.out.2.2
      have HVR : Hid (∀ q, v.ownBlock = some q → w3.heap.size ≤ q ∧ q < wr.heap.size) := fun q hq => hst.out.1.mine q hq
      have HEV := Lib.hid (HLE.out es[k])
      have HXO := Lib.hid (HEO.out es[k] (List.getElem_mem hlt))
      clear hst
      generalize ((es.take k).map fun e => (exH l m e).1) = Lk at *
      generalize ((es.take k).any fun e => (exH l m e).2) = gk1 at *
      have HIX := Lib.hid (fun W (hW : Chg No wr W) => HEX.out es[k] HXO.out W _ (fl || gk1) (HW.out.thenNo hW) ((exprV_good m).no hv hW) (HLK.out.chg hW id))
      clear hv HXO
      generalize exH l m es[k] = ek at *
      obtain ⟨va, fa⟩ := ek
      simp only at HE1 HE2 HEV HIX
      go_upto_region 5 with fail
      obtain ⟨w5, hw5⟩ : ∃ w5, w5 = wr.alloc (.cells #[.int .i64 k0, .int .i64 m0, .string s0, .slice B0 l0 d0] 53) := ⟨_, rfl⟩
      rw [← hw5]
      obtain ⟨b5, hb5⟩ : ∃ b5, b5 = wr.heap.size := ⟨_, rfl⟩
      rw [← hb5]
      have C5 : Hid (Chg No wr w5 ∧ w5.heap[b5]? = some (.cells #[.int .i64 k0, .int .i64 m0, .string s0, .slice B0 l0 d0] 53 (0, 0))) := by
        rw [hw5, hb5]; exact ⟨(Chg.refl _ _).alloc _, heap_alloc_new _ _⟩
      clear hw5 hb5 x0 x1 x2 x3
      obtain ⟨q0, q1, q2, q3⟩ := obj_4 C5.out.2
      have HC := Lib.hid (HIX.out w5 C5.out.1)
      have HVB : Hid (∀ q, v.ownBlock = some q → q ≠ bx) := fun q hq e => by have := (HVR.out q hq).1; have := h3.out.2.2.2; omega
      have HG : Hid (∀ w6, Chg (fun q => q = bx) w5 w6 → OwnL intV 3 (fun q => w3.heap.size ≤ q) No w6 v Lk ∧ Chg (fun q => q = bx) w3 w6 ∧ ∀ q, w6.heap.size ≤ q → w3.heap.size ≤ q) := fun w6 h6 => by
        have h56 : Chg (fun q => q = bx) wr w6 := C5.out.1.no.trans h6 (fun _ h _ => h)
        have h36 : Chg (fun q => q = bx) w3 w6 := HCH.out.trans h56 (fun _ h _ => h)
        exact ⟨HOW.out.chg intV_goodH h56 (fun q hq e => HVB.out q hq e) (fun _ h => h.elim), h36, fun q hq => by have := h36.size; omega⟩
      go_wp2_with (first
        | (go_at_call 36; (with_reducible refine HC.out.mono ?_); rintro e w6 ⟨rfl, h6, g6⟩; have H6 := Lib.hid (HG.out w6 h6); have G6 := Lib.hid g6; clear h6 g6)
        | (at_builtin; refine wpList_pushL intV_goodH intsTyH rfl (.tmp 18) (.tmp 22) rfl (M := fun q => w3.heap.size ≤ q) (R := No) (e' := 3) H6.out.2.2 H6.out.1 rfl (x := va) (cs := [.int .i64 va]) ⟨rfl, I64.of (by have := HEV.out.1; omega) (by have := HEV.out.2; omega)⟩ (by simp [Value.oneCell']) rfl (show (Lk.length + 1) * 8 ≤ 140737488355328 by omega) ?_; intro A2 cap2 w7 g1 g2; have G1 := Lib.hid g1; have G2 := Lib.hid g2; clear g1 g2))
      go_roundw
      case rel =>
        refine ⟨k + 1, _, rfl, by go_num, hlt, by rw [HE1.out]; exact G1.out, H6.out.2.1.trans G2.out (fun q hq hlt => absurd (HVR.out q hq).1 (by omega)), ?_⟩
        rw [HE2.out, ← Bool.or_assoc]
        exact G6.out.chg G2.out (fun e => HVB.out _ e rfl)
      case measure => simp [intOf]; omega
    · obtain rfl : k = es.length := by omega
      obtain ⟨wa, hwa⟩ : ∃ wa, wa = wr := ⟨_, rfl⟩
      subst hwa
      have HO1 : Hid (OwnL intV 3 (fun q => w3.heap.size ≤ q) No wa v (es.map fun e => (exH l m e).1) ∧ Chg (fun q => q = bx) w3 wa ∧ LookAt wa bx A l.length cap (fl || es.any fun e => (exH l m e).2)) := by
        have := hst.out
        rwa [List.take_length] at this
      clear hst HEX HES HEO HLE
      generalize hL1 : (es.map fun e => (exH l m e).1) = L1 at *
      generalize hF1 : (es.any fun e => (exH l m e).2) = F1 at *
      have HL1 : Hid (L1.length = es.length) := by rw [← hL1]; simp [Hid]
      clear hL1 hF1
      obtain ⟨p0, p1, p2⟩ := HO.out wa HO1.out.2.1
      go_wp2_with fail
      clear p0 p1 p2
      go_loopw [8, 28] (fun s8 s28 wr => ∃ (k : Nat) (v2 : Value), v2 = s8 ∧ s28 = .int .i64 k ∧ k ≤ ks.length ∧ Hid (OwnL intV 3 (fun q => w3.heap.size ≤ q) No wr v L1 ∧ OwnL boolV 4 (fun q => wa.heap.size ≤ q) No wr v2 ((ks.take k).map fun c => (coH l m n c).1) ∧ Chg (fun q => q = bx) w3 wr ∧ LookAt wr bx A l.length cap (fl || F1 || (ks.take k).any fun c => (coH l m n c).2) ∧ wa.heap.size ≤ wr.heap.size)) (fun _ s28 _ => ks.length - (intOf s28).toNat)
      case atStart => exact ⟨0, _, rfl, rfl, Nat.zero_le _, HO1.out.1, OwnL.nil _ _ _ _ _, HO1.out.2.1, by simpa using HO1.out.2.2, Nat.le_refl _⟩
      case round =>
        obtain ⟨k, v2, rfl, rfl, gk2, hst⟩ := hrel
        have HVA : Hid (∀ q, v.ownBlock = some q → q < wa.heap.size) := fun q hq => (HO1.out.1.mine q hq).2
        by_cases hlt : k < ks.length
        · have HW : Hid (Chg (fun q => q = bx) w wr) := h3.out.1.no.trans hst.out.2.2.1 (fun _ h _ => h)
          obtain ⟨b, o, k0, A0, el0, ce0, B0, l0, d0, rfl, hv, x0, x1, x2⟩ := conds_at (HKS.out wr HW.out) k hlt
          have i0 : (0 : Int) ≤ (k : Int) := by omega
          have i1 : (k : Int) < (ks.length : Int) := by omega
          have hLk : ((ks.take k).map fun c => (coH l m n c).1).length ≤ ks.length := by simp; omega
          have HE1 := Lib.hid (take_map_succ (fun c => (coH l m n c).1) hlt)
          have HE2 := Lib.hid (take_any_succ (fun c => (coH l m n c).2) hlt)
          have HOI := Lib.hid hst.out.1
          have HOW := Lib.hid hst.out.2.1
          have HCH := Lib.hid hst.out.2.2.1
          have HLK := Lib.hid hst.out.2.2.2.1
          have HSZ := Lib.hid hst.out.2.2.2.2
          have HVR : Hid (∀ q, v2.ownBlock = some q → wa.heap.size ≤ q ∧ q < wr.heap.size) := fun q hq => hst.out.2.1.mine q hq
          have HXO := Lib.hid (HKO.out ks[k] (List.getElem_mem hlt))
          clear hst
          generalize ((ks.take k).map fun c => (coH l m n c).1) = Lk at *
          generalize ((ks.take k).any fun c => (coH l m n c).2) = gk1 at *
          have HIX := Lib.hid (fun W (hW : Chg No wr W) => HCO.out ks[k] HXO.out W _ (fl || F1 || gk1) (HW.out.thenNo hW) ((condV_good m n).no hv hW) (HLK.out.chg hW id))
          clear hv HXO
          generalize coH l m n ks[k] = ek at *
          obtain ⟨va, fa⟩ := ek
          simp only at HE1 HE2 HIX
          go_upto_region 11 with fail
          obtain ⟨w5, hw5⟩ : ∃ w5, w5 = wr.alloc (.cells #[.int .i64 k0, .slice A0 el0 ce0, .slice B0 l0 d0] 56) := ⟨_, rfl⟩
          rw [← hw5]
          obtain ⟨b5, hb5⟩ : ∃ b5, b5 = wr.heap.size := ⟨_, rfl⟩
          rw [← hb5]
          have C5 : Hid (Chg No wr w5 ∧ w5.heap[b5]? = some (.cells #[.int .i64 k0, .slice A0 el0 ce0, .slice B0 l0 d0] 56 (0, 0))) := by
            rw [hw5, hb5]; exact ⟨(Chg.refl _ _).alloc _, heap_alloc_new _ _⟩
          clear hw5 hb5 x0 x1 x2
          obtain ⟨q0, q1, q2⟩ := obj_3 C5.out.2
          have HC := Lib.hid (HIX.out w5 C5.out.1)
          have HWZ : Hid (w3.heap.size ≤ wa.heap.size) := HO1.out.2.1.size
          have HVB : Hid (∀ q, v2.ownBlock = some q → q ≠ bx) := fun q hq e => by have := (HVR.out q hq).1; have := HWZ.out; have := h3.out.2.2.2; omega
          have HVB1 : Hid (∀ q, v.ownBlock = some q → q ≠ bx) := fun q hq e => by have := (HOI.out.mine q hq).1; have := h3.out.2.2.2; omega
          have HG : Hid (∀ w6, Chg (fun q => q = bx) w5 w6 → (OwnL intV 3 (fun q => w3.heap.size ≤ q) No w6 v L1 ∧ OwnL boolV 4 (fun q => wa.heap.size ≤ q) No w6 v2 Lk) ∧ (Chg (fun q => q = bx) w3 w6 ∧ wa.heap.size ≤ w6.heap.size) ∧ ∀ q, w6.heap.size ≤ q → wa.heap.size ≤ q) := fun w6 h6 => by
            have h56 : Chg (fun q => q = bx) wr w6 := C5.out.1.no.trans h6 (fun _ h _ => h)
            have h36 : Chg (fun q => q = bx) w3 w6 := HCH.out.trans h56 (fun _ h _ => h)
            have hz := h56.size
            have hz2 := HSZ.out
            exact ⟨⟨HOI.out.chg intV_goodH h56 (fun q hq e => HVB1.out q hq e) (fun _ h => h.elim), HOW.out.chg boolV_goodH h56 (fun q hq e => HVB.out q hq e) (fun _ h => h.elim)⟩, ⟨h36, by omega⟩, fun q hq => by omega⟩
          go_wp2_with (first
            | (go_at_call 38; (with_reducible refine HC.out.mono ?_); rintro e w6 ⟨rfl, h6, g6⟩; have H6 := Lib.hid (HG.out w6 h6); have G6 := Lib.hid g6; clear h6 g6)
            | (at_builtin; refine wpList_pushL boolV_goodH boolsTyH rfl (.tmp 32) (.tmp 36) rfl (M := fun q => wa.heap.size ≤ q) (R := No) (e' := 4) H6.out.2.2 H6.out.1.2 rfl (x := va) (cs := [.bool va]) rfl (by simp [Value.oneCell']) rfl (show (Lk.length + 1) * 1 ≤ 140737488355328 by omega) ?_; intro A2 cap2 w7 g1 g2; have G1 := Lib.hid g1; have G2 := Lib.hid g2; clear g1 g2))
          go_roundw
          case rel =>
            have hfar : ∀ q, v2.ownBlock = some q → w3.heap.size ≤ q := fun q hq => by have := (HVR.out q hq).1; have := HWZ.out; omega
            refine ⟨k + 1, _, rfl, by go_num, hlt, H6.out.1.1.chg intV_goodH G2.out (fun q hq e => by have := HVA.out q hq; have := (HVR.out q e).1; omega) (fun _ h => h.elim), by rw [HE1.out]; exact G1.out, H6.out.2.1.1.trans G2.out (fun q hq hlt => absurd (hfar q hq) (by omega)), ?_, ?_⟩
            · rw [HE2.out, ← Bool.or_assoc]
              exact G6.out.chg G2.out (fun e => HVB.out _ e rfl)
            · have := G2.out.size; have := H6.out.2.1.2; omega
          case measure => simp [intOf]; omega
        · obtain rfl : k = ks.length := by omega
          have HO2 : Hid (OwnL intV 3 (fun q => w3.heap.size ≤ q) No wr v L1 ∧ OwnL boolV 4 (fun q => wa.heap.size ≤ q) No wr v2 (ks.map fun c => (coH l m n c).1) ∧ Chg (fun q => q = bx) w wr ∧ LookAt wr bx A l.length cap (fl || F1 || ks.any fun c => (coH l m n c).2)) := by
            have := hst.out
            rw [List.take_length] at this
            exact ⟨this.1, this.2.1, h3.out.1.no.trans this.2.2.1 (fun _ h _ => h), this.2.2.2.1⟩
          have HOP := Lib.hid (HO.out wr hst.out.2.2.1)
          clear hst HCO HKS HKO HO HVS
          obtain ⟨p0, p1, p2⟩ := HOP.out
          have HL2 : Hid ((ks.map fun c => (coH l m n c).1).length = ks.length) := by simp [Hid]
          have HAN : Hid (∀ W u, Chg No wr W → u = truthH kd L1 (ks.map fun c => (coH l m n c).1) → LkRet bx A l.length cap (fl || ans.2) w (.bool ans.1) (.returned (.bool u)) W) := fun W u hW hu => by
            rw [HA.out]
            exact ⟨by rw [hu], HO2.out.2.2.1.thenNo hW, by rw [← Bool.or_assoc]; exact HO2.out.2.2.2.chg hW id⟩
          have HOI := Lib.hid HO2.out.1
          have HOB := Lib.hid HO2.out.2.1
          clear HO2 HA HO1
          generalize (ks.map fun c => (coH l m n c).1) = L2 at *
          rcases cShape_cases hs with ⟨rfl, _, _⟩ | ⟨rfl, _, _⟩ | ⟨hkd, e1, _⟩ | ⟨rfl, _, e2⟩ | ⟨hkd, _, e2⟩
          · go_wp2_with fail
            go_ret
            exact HAN.out _ _ (Chg.refl _ _) rfl
          · go_wp2_with fail
            go_ret
            exact HAN.out _ _ (Chg.refl _ _) rfl
          · obtain ⟨a, b2, rfl⟩ : ∃ a b2, L1 = [a, b2] := by
              have := HL1.out.trans e1
              match L1, this with
              | [a, b2], _ => exact ⟨a, b2, rfl⟩
            obtain ⟨g, o, c, rfl, y0, y1⟩ := own_int2 HOI.out
            clear HOI HOB HL1 HL2
            rcases hkd with rfl | rfl | rfl | rfl
            · go_wp2_with fail
              go_quiet (fail)
              go_wp2_with fail
              go_ret
              exact HAN.out _ _ ((Chg.refl _ _).drewN _) (by simp [truthH, beqDec])
            · go_wp2_with fail
              go_quiet (fail)
              go_wp2_with fail
              go_ret
              exact HAN.out _ _ ((Chg.refl _ _).drewN _) (by simp [truthH, bne, beqDec])
            · go_wp2_with fail
              go_quiet (fail)
              go_wp2_with fail
              go_ret
              exact HAN.out _ _ ((Chg.refl _ _).drewN _) (by simp [truthH])
            · go_wp2_with fail
              go_quiet (fail)
              go_wp2_with fail
              go_ret
              exact HAN.out _ _ ((Chg.refl _ _).drewN _) (by simp [truthH])
          · obtain ⟨a, rfl⟩ : ∃ a, L2 = [a] := List.length_eq_one_iff.1 (HL2.out.trans e2)
            obtain ⟨g, o, c, rfl, y0⟩ := own_bool1 HOB.out
            clear HOI HOB HL1 HL2
            go_wp2_with fail
            go_ret
            exact HAN.out _ _ (Chg.refl _ _) (by simp [truthH])
          · obtain ⟨a, b2, rfl⟩ : ∃ a b2, L2 = [a, b2] := by
              have := HL2.out.trans e2
              match L2, this with
              | [a, b2], _ => exact ⟨a, b2, rfl⟩
            obtain ⟨g, o, c, rfl, y0, y1⟩ := own_bool2 HOB.out
            clear HOI HOB HL1 HL2
            rcases hkd with rfl | rfl
            · cases a
              · go_wp2_with fail
                go_ret
                exact HAN.out _ _ (Chg.refl _ _) (by simp [truthH])
              · go_wp2_with fail
                go_ret
                exact HAN.out _ _ (Chg.refl _ _) (by simp [truthH])
            · cases a
              · go_wp2_with fail
                go_ret
                exact HAN.out _ _ (Chg.refl _ _) (by simp [truthH])
              · go_wp2_with fail
                go_ret
                exact HAN.out _ _ (Chg.refl _ _) (by simp [truthH])
theorem hco_any (m : Nat) : ∀ n, HCoOk m n
  | 0 => fun _ _ _ _ _ _ _ _ _ _ _ h => h.elim
  | n + 1 => hco_walk m n (Lib.hid (hco_any m n))
end Go.Proofs.YtpmndblakmobdaaGreatDoor
