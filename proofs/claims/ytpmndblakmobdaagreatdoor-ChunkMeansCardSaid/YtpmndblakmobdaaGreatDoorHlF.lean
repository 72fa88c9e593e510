/-
  holds.Foot, holds.Holds.
-/
import Derived.Test.YtpmndblakmobdaaGreatDoorHlE
import Derived.Test.YtpmndblakmobdaaGreatDoorTP
import Derived.Test.YtpmndblakmobdaaGreatDoorShL
namespace Go.Proofs.YtpmndblakmobdaaGreatDoor
open Go Go.RowKit

theorem list_share0 (cs : List Value) (h : cs.length = 3) : ∃ v0 v1 v2, cs = [v0, v1, v2] := by
  match cs, h with
  | [v0, v1, v2], _ => exact ⟨v0, v1, v2, rfl⟩
theorem chgpastH {S : Nat → Prop} {w w1 w2 : World} (h : Chg No w w1) (g : Chg S w1 w2) (hS : ∀ k, S k → w.heap.size ≤ k) : Chg No w w2 :=
  h.trans g (fun k hk hlt => by have := hS k hk; omega)
def fineA (m n k : Nat) (x : AT m n k) : Bool := !deepA m n k x 100 && okA m n k x
/-- What an assertion takes; what is amiss. -/
def footR (l : List Vr) (m n k : Nat) (x : AT m n k) : List Tri × Int :=
  if fineA m n k x = true then (if (wkH l [] m n k x).2 = true then ([], 3) else ((wkH l [] m n k x).1.1, 0)) else ([], 5)
/-- Whether it holds; what is amiss. -/
def holdsR (l : List Vr) (h : List Tri) (m n k : Nat) (x : AT m n k) : Bool × Int :=
  if fineA m n k x = true ∧ heapB h = true then (if (wkH l h m n k x).2 = true then (false, 3) else ((wkH l h m n k x).1.2 && !(wkH l h m n k x).1.1.any (fun s => decide (64 < s.2.2)), 0)) else (false, 5)
def FootRet (w : World) (r : List Tri × Int) (e : Ending) (w' : World) : Prop :=
  ∃ A cap, e = .returned (.tuple #[.slice A r.1.length cap, errV 83 r.2]) ∧ OTris 40 (fun q => w.heap.size ≤ q) w' (.slice A r.1.length cap) r.1 ∧ Chg No w w'
theorem strict_heap {h : List Tri} (hb : heapB h = true) : Strict h := by
  rw [heapB_eq, Bool.and_eq_true] at hb
  exact of_decide_eq_true hb.1

end Go.Proofs.YtpmndblakmobdaaGreatDoor
