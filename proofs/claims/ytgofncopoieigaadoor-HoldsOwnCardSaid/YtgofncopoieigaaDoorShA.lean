/-
  What can be shown: depth, shape and names of expressions, conditions and assertions. Plain: no program.
-/
import Derived.Test.YtgofncopoieigaaDoorTree
namespace Go.Proofs.YtgofncopoieigaaDoor
open Go Go.RowKit

/-- Is it deeper than so much? -/
def deepE : (n : Nat) → ET n → Nat → Bool
  | 0, _, _ => true
  | _ + 1, _, 0 => true
  | n + 1, x, b + 1 => (ENode.kids x).any (fun k => deepE n k b)
def deepC (m : Nat) : (n : Nat) → CT m n → Nat → Bool
  | 0, _, _ => true
  | _ + 1, _, 0 => true
  | n + 1, x, b + 1 => (CNode.es x).any (fun k => deepE m k b) || (CNode.kids x).any (fun k => deepC m n k b)
def deepA (m n : Nat) : (k : Nat) → AT m n k → Nat → Bool
  | 0, _, _ => true
  | _ + 1, _, 0 => true
  | k + 1, x, b + 1 => deepC m n (ANode.c x) b || deepE m (ANode.e x) b || deepE m (ANode.v x) b || (ANode.kids x).any (fun q => deepA m n k q b)

theorem deepE_zero (n : Nat) (x : ET n) : deepE n x 0 = true := by cases n <;> rfl
theorem deepC_zero (m n : Nat) (x : CT m n) : deepC m n x 0 = true := by cases n <;> rfl
theorem deepA_zero (m n k : Nat) (x : AT m n k) : deepA m n k x 0 = true := by cases k <;> rfl
theorem deepE_step {n : Nat} {x : ET (n + 1)} {b : Nat} (hb : 1 ≤ b) : deepE (n + 1) x b = (ENode.kids x).any (fun k => deepE n k (b - 1)) := by
  obtain ⟨b, rfl⟩ : ∃ c, b = c + 1 := ⟨b - 1, by omega⟩
  rfl
theorem deepC_step {m n : Nat} {x : CT m (n + 1)} {b : Nat} (hb : 1 ≤ b) : deepC m (n + 1) x b = ((CNode.es x).any (fun k => deepE m k (b - 1)) || (CNode.kids x).any (fun k => deepC m n k (b - 1))) := by
  obtain ⟨b, rfl⟩ : ∃ c, b = c + 1 := ⟨b - 1, by omega⟩
  rfl
theorem deepA_step {m n k : Nat} {x : AT m n (k + 1)} {b : Nat} (hb : 1 ≤ b) : deepA m n (k + 1) x b = (deepC m n (ANode.c x) (b - 1) || deepE m (ANode.e x) (b - 1) || deepE m (ANode.v x) (b - 1) || (ANode.kids x).any (fun q => deepA m n k q (b - 1))) := by
  obtain ⟨b, rfl⟩ : ∃ c, b = c + 1 := ⟨b - 1, by omega⟩
  rfl

/-- A byte that begins a name; a digit. -/
def letB (c : UInt8) : Bool := decide (c = 95) || (decide (97 ≤ c) && decide (c ≤ 122)) || (decide (65 ≤ c) && decide (c ≤ 90))
def digB (c : UInt8) : Bool := decide (48 ≤ c) && decide (c ≤ 57)
/-- The words that mean something. -/
def keyL : List ByteArray := [⟨#[112, 114, 111, 99]⟩, ⟨#[114, 101, 113, 117, 105, 114, 101, 115]⟩, ⟨#[101, 110, 115, 117, 114, 101, 115]⟩, ⟨#[115, 107, 105, 112]⟩, ⟨#[112, 117, 116]⟩, ⟨#[103, 101, 116]⟩, ⟨#[110, 101, 119]⟩, ⟨#[102, 114, 101, 101]⟩, ⟨#[105, 102]⟩, ⟨#[101, 108, 115, 101]⟩, ⟨#[119, 104, 105, 108, 101]⟩, ⟨#[105, 110, 118, 97, 114, 105, 97, 110, 116]⟩, ⟨#[97, 115, 115, 101, 114, 116]⟩, ⟨#[99, 97, 108, 108]⟩, ⟨#[116, 114, 117, 101]⟩, ⟨#[102, 97, 108, 115, 101]⟩, ⟨#[101, 109, 112]⟩, ⟨#[97, 99, 99]⟩, ⟨#[112, 116, 115]⟩]
def keyB (s : ByteArray) : Bool := keyL.any (fun k => s.toList == k.toList)
/-- How many bytes ahead are so. -/
def runN (p : UInt8 → Bool) (l : List UInt8) : Nat := (l.takeWhile p).length
def wrdB (c : UInt8) : Bool := letB c || digB c
/-- Is it a name? -/
def nameB (s : ByteArray) : Bool := decide (s.size ≤ 32) && decide (0 < runN letB s.data.toList) && decide (runN wrdB s.data.toList = s.size) && !keyB s

def coefS (k : Int) : Bool := decide (-1073741824 ≤ k) && decide (k ≤ 1073741824)
/-- May an expression's own parts be so? -/
def eShape (kd num : Int) (name : ByteArray) (kl : Nat) : Bool :=
  if kd = 0 then coefS num && name.toList.isEmpty && decide (kl = 0)
  else if kd = 1 then nameB name && decide (num = 0) && decide (kl = 0)
  else if kd = 2 ∨ kd = 3 then name.toList.isEmpty && decide (num = 0) && decide (kl = 2)
  else if kd = 4 then coefS num && name.toList.isEmpty && decide (kl = 1)
  else false
def okE : (n : Nat) → ET n → Bool
  | 0, _ => false
  | n + 1, x => eShape (ENode.kind x) (ENode.num x) (ENode.name x) (ENode.kids x).length && (ENode.kids x).all (okE n)
def cShape (kd : Int) (el kl : Nat) : Bool :=
  if kd = 0 ∨ kd = 1 then decide (el = 0) && decide (kl = 0)
  else if kd = 2 ∨ kd = 3 ∨ kd = 4 ∨ kd = 5 then decide (el = 2) && decide (kl = 0)
  else if kd = 6 then decide (el = 0) && decide (kl = 1)
  else if kd = 7 ∨ kd = 8 then decide (el = 0) && decide (kl = 2)
  else false
def okC (m : Nat) : (n : Nat) → CT m n → Bool
  | 0, _ => false
  | n + 1, x => cShape (CNode.kind x) (CNode.es x).length (CNode.kids x).length && ((CNode.es x).all (okE m) && (CNode.kids x).all (okC m n))
def hasE : (n : Nat) → ET n → Bool
  | 0, _ => false
  | _ + 1, x => !(decide (ENode.kind x = 0) && decide (ENode.num x = 0) && (ENode.name x).toList.isEmpty && decide ((ENode.kids x).length = 0))
def hasC (m : Nat) : (n : Nat) → CT m n → Bool
  | 0, _ => false
  | _ + 1, x => !(decide (CNode.kind x = 0) && decide ((CNode.es x).length = 0) && decide ((CNode.kids x).length = 0))
/-- May an assertion's own parts be so? (c, hc: its condition may be shown, isn't the empty one; e, v likewise.) -/
def aShape (kd num : Int) (field : ByteArray) (kl : Nat) (c hc e he v hv : Bool) : Bool :=
  if kd = 0 then !hc && (!he && field.toList.isEmpty && decide (num = 0)) && !hv && decide (kl = 0)
  else if kd = 1 then c && (!he && field.toList.isEmpty && decide (num = 0)) && !hv && decide (kl = 0)
  else if kd = 2 then !hc && (e && nameB field && decide (0 ≤ num) && decide (num ≤ 1073741824)) && !hv && decide (kl = 0)
  else if kd = 3 then !hc && (e && nameB field && decide (0 ≤ num) && decide (num ≤ 1073741824)) && v && decide (kl = 0)
  else if kd = 4 then !hc && (!he && field.toList.isEmpty && decide (num = 0)) && !hv && decide (kl = 2)
  else if kd = 5 then c && (!he && field.toList.isEmpty && decide (num = 0)) && !hv && decide (kl = 2)
  else false
def okA (m n : Nat) : (k : Nat) → AT m n k → Bool
  | 0, _ => false
  | k + 1, x => aShape (ANode.kind x) (ANode.num x) (ANode.field x) (ANode.kids x).length (okC m n (ANode.c x)) (hasC m n (ANode.c x)) (okE m (ANode.e x)) (hasE m (ANode.e x)) (okE m (ANode.v x)) (hasE m (ANode.v x)) && (ANode.kids x).all (okA m n k)

theorem coefS_le {k : Int} (h : coefS k = true) : -1073741824 ≤ k ∧ k ≤ 1073741824 := by unfold coefS at h; simpa using h
end Go.Proofs.YtgofncopoieigaaDoor
