/-
  What expressions and conditions mean by variables (0 and 'far' where a number is far): plain, no program.
-/
import Derived.Test.YtgofncopoieigaaDoorShA
namespace Go.Proofs.YtgofncopoieigaaDoor
open Go Go.RowKit

/-- A variable: its name, its value. -/
abbrev Vr := ByteArray × Int
def farB (n : Int) : Bool := decide (n < -4294967296) || decide (4294967296 < n)
def numH (n : Int) : Int := if farB n then 0 else n
theorem numH_le (n : Int) : -4294967296 ≤ numH n ∧ numH n ≤ 4294967296 := by
  unfold numH farB
  split
  · omega
  · rename_i h; simp at h; omega
theorem numH_near {n : Int} (h : farB n = false) : numH n = n := by unfold numH; rw [h]; rfl
def ofV (l : List Vr) (s : ByteArray) : Int := match l.find? (fun v => v.1.toList == s.toList) with
  | some v => v.2
  | none => 0
/-- An expression's value; is something of it far? -/
def exH (l : List Vr) : (n : Nat) → ET n → Int × Bool
  | 0, _ => (0, false)
  | n + 1, x =>
    if ENode.kind x = 0 then (numH (ENode.num x), farB (ENode.num x))
    else if ENode.kind x = 1 then (numH (ofV l (ENode.name x)), farB (ofV l (ENode.name x)))
    else if ENode.kind x = 4 then
      (numH (ENode.num x * (((ENode.kids x).map (exH l n)).getD 0 (0, false)).1), (((ENode.kids x).map (exH l n)).getD 0 (0, false)).2 || farB (ENode.num x * (((ENode.kids x).map (exH l n)).getD 0 (0, false)).1))
    else
      (numH ((((ENode.kids x).map (exH l n)).getD 0 (0, false)).1 + (if ENode.kind x = 3 then -(((ENode.kids x).map (exH l n)).getD 1 (0, false)).1 else (((ENode.kids x).map (exH l n)).getD 1 (0, false)).1)),
       (((ENode.kids x).map (exH l n)).getD 0 (0, false)).2 || (((ENode.kids x).map (exH l n)).getD 1 (0, false)).2 || farB ((((ENode.kids x).map (exH l n)).getD 0 (0, false)).1 + (if ENode.kind x = 3 then -(((ENode.kids x).map (exH l n)).getD 1 (0, false)).1 else (((ENode.kids x).map (exH l n)).getD 1 (0, false)).1)))
theorem exH_le (l : List Vr) : ∀ (n : Nat) (x : ET n), -4294967296 ≤ (exH l n x).1 ∧ (exH l n x).1 ≤ 4294967296
  | 0, _ => by unfold exH; exact ⟨by decide, by decide⟩
  | n + 1, x => by
    unfold exH
    split
    · exact numH_le _
    · split
      · exact numH_le _
      · split <;> exact numH_le _
/-- A condition's. -/
def truthH (kd : Int) (e : List Int) (k : List Bool) : Bool :=
  if kd = 0 then true
  else if kd = 2 then decide (e.getD 0 0 = e.getD 1 0)
  else if kd = 3 then decide (e.getD 0 0 ≠ e.getD 1 0)
  else if kd = 4 then decide (e.getD 0 0 < e.getD 1 0)
  else if kd = 5 then decide (e.getD 0 0 ≤ e.getD 1 0)
  else if kd = 6 then !k.getD 0 false
  else if kd = 7 then k.getD 0 false && k.getD 1 false
  else if kd = 8 then k.getD 0 false || k.getD 1 false
  else false
def coH (l : List Vr) (m : Nat) : (n : Nat) → CT m n → Bool × Bool
  | 0, _ => (false, false)
  | n + 1, x => (truthH (CNode.kind x) ((CNode.es x).map fun e => (exH l m e).1) ((CNode.kids x).map fun c => (coH l m n c).1), (CNode.es x).any (fun e => (exH l m e).2) || (CNode.kids x).any (fun c => (coH l m n c).2))
theorem exH_eq (l : List Vr) {n : Nat} (x : ENode (ET n)) : exH l (n + 1) x = (if ENode.kind x = 0 then (numH (ENode.num x), farB (ENode.num x))
    else if ENode.kind x = 1 then (numH (ofV l (ENode.name x)), farB (ofV l (ENode.name x)))
    else if ENode.kind x = 4 then
      (numH (ENode.num x * (((ENode.kids x).map (exH l n)).getD 0 (0, false)).1), (((ENode.kids x).map (exH l n)).getD 0 (0, false)).2 || farB (ENode.num x * (((ENode.kids x).map (exH l n)).getD 0 (0, false)).1))
    else
      (numH ((((ENode.kids x).map (exH l n)).getD 0 (0, false)).1 + (if ENode.kind x = 3 then -(((ENode.kids x).map (exH l n)).getD 1 (0, false)).1 else (((ENode.kids x).map (exH l n)).getD 1 (0, false)).1)),
       (((ENode.kids x).map (exH l n)).getD 0 (0, false)).2 || (((ENode.kids x).map (exH l n)).getD 1 (0, false)).2 || farB ((((ENode.kids x).map (exH l n)).getD 0 (0, false)).1 + (if ENode.kind x = 3 then -(((ENode.kids x).map (exH l n)).getD 1 (0, false)).1 else (((ENode.kids x).map (exH l n)).getD 1 (0, false)).1)))) := rfl
theorem exH_0 {l : List Vr} {n : Nat} {f : ENode (ET n)} (h : f.kind = 0) : exH l (n + 1) f = (numH f.num, farB f.num) := by
  rw [exH_eq, if_pos h]
theorem exH_1 {l : List Vr} {n : Nat} {f : ENode (ET n)} (h : f.kind = 1) : exH l (n + 1) f = (numH (ofV l f.name), farB (ofV l f.name)) := by
  rw [exH_eq, if_neg (by omega), if_pos h]
theorem exH_4 {l : List Vr} {n : Nat} {f : ENode (ET n)} (h : f.kind = 4) {a : ET n} (hk : f.kids = [a]) : exH l (n + 1) f = (numH (f.num * (exH l n a).1), (exH l n a).2 || farB (f.num * (exH l n a).1)) := by
  rw [exH_eq, if_neg (by omega), if_neg (by omega), if_pos h, hk]; rfl
theorem exH_2 {l : List Vr} {n : Nat} {f : ENode (ET n)} (h : f.kind = 2 ∨ f.kind = 3) {a b : ET n} (hk : f.kids = [a, b]) : exH l (n + 1) f = (numH ((exH l n a).1 + (if f.kind = 3 then -(exH l n b).1 else (exH l n b).1)), (exH l n a).2 || (exH l n b).2 || farB ((exH l n a).1 + (if f.kind = 3 then -(exH l n b).1 else (exH l n b).1))) := by
  rw [exH_eq, if_neg (by omega), if_neg (by omega), if_neg (by omega), hk]; rfl
theorem mul_fits {a b : Int} (h1 : -1073741824 ≤ a) (h2 : a ≤ 1073741824) (h3 : -4294967296 ≤ b) (h4 : b ≤ 4294967296) : -4611686018427387904 ≤ a * b ∧ a * b ≤ 4611686018427387904 := by
  have h : (a * b).natAbs ≤ 1073741824 * 4294967296 := by
    rw [Int.natAbs_mul]
    exact Nat.mul_le_mul (by omega) (by omega)
  omega
theorem ok_partsH {n : Nat} {x : ENode (ET n)} (h : okE (n + 1) x = true) : eShape x.kind x.num x.name x.kids.length = true ∧ ∀ k ∈ x.kids, okE n k = true := by
  have h' : (eShape x.kind x.num x.name x.kids.length && x.kids.all (okE n)) = true := h
  rw [Bool.and_eq_true] at h'
  exact ⟨h'.1, List.all_eq_true.1 h'.2⟩
theorem eShape_casesH {kd num : Int} {name : ByteArray} {kl : Nat} (h : eShape kd num name kl = true) :
    (kd = 0 ∧ coefS num = true ∧ kl = 0) ∨ (kd = 1 ∧ kl = 0) ∨ ((kd = 2 ∨ kd = 3) ∧ kl = 2) ∨ (kd = 4 ∧ coefS num = true ∧ kl = 1) := by
  unfold eShape at h
  split at h
  · simp only [Bool.and_eq_true, decide_eq_true_eq] at h
    exact .inl ⟨by assumption, h.1.1, h.2⟩
  split at h
  · simp only [Bool.and_eq_true, decide_eq_true_eq] at h
    exact .inr (.inl ⟨by assumption, h.2⟩)
  split at h
  · simp only [Bool.and_eq_true, decide_eq_true_eq] at h
    exact .inr (.inr (.inl ⟨by assumption, h.2⟩))
  split at h
  · simp only [Bool.and_eq_true, decide_eq_true_eq] at h
    exact .inr (.inr (.inr ⟨by assumption, h.1.1, h.2⟩))
  · cases h
end Go.Proofs.YtgofncopoieigaaDoor
