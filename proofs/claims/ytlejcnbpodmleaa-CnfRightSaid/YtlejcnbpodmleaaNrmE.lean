/-
  The reference's Literal.
-/
import Derived.Test.YtlejcnbpodmleaaNrmD
import Derived.Test.YtlejcnbpodmleaaLinE
import Derived.Deep.RegionHeldLaw
import Derived.Deep.RegionLaw
namespace Go.Proofs.Ytlejcnbpodmleaa
open Go Go.RowKit

def leaf2 (kd : Int) : FT 2 := ⟨kd, (0, []), []⟩
def le2 (l : Lin) : FT 2 := ⟨2, l, []⟩
def le1 (l : Lin) : FT 1 := ⟨2, l, []⟩
def not2 (l : Lin) : FT 2 := ⟨4, (0, []), [le1 l]⟩
def litErr (c : Int) (t : List Mono) : Int :=
  if linB c t = true then (if t.length = 0 then 0 else if 0 < ((divT t (gcdN t)).getD 0 (0, 0)).2 then 0 else if coefB (1 - upI c (gcdN t)) = true then 0 else 3) else 5
def litForm (c : Int) (t : List Mono) : FT 2 :=
  if linB c t = true then (if t.length = 0 then (if c ≤ 0 then leaf2 0 else leaf2 1) else if 0 < ((divT t (gcdN t)).getD 0 (0, 0)).2 then le2 (upI c (gcdN t), divT t (gcdN t))
    else if coefB (1 - upI c (gcdN t)) = true then not2 (1 - upI c (gcdN t), scale (-1) (divT t (gcdN t))) else leaf2 0) else leaf2 0
/-- What Literal answers; E: its second answer. -/
def LitRet (w : World) (f : FT 2) (E : Value) (e : Ending) (w' : World) : Prop :=
  ∃ cs', e = .returned (.tuple #[.agg cs'.toArray, E]) ∧ (formV 2) (fun k => w.heap.size ≤ k) w' cs' f ∧ Chg No w w'
theorem leaf2_ret {w w' : World} (kd : Int) (E : Value) (hk : I64 kd) (h : Chg No w w') : LitRet w (leaf2 kd) E (.returned (.tuple #[.agg #[.int .i64 kd, .int .i64 0, .slice none 0 0, .slice none 0 0], E])) w' :=
  ⟨[.int .i64 kd, .int .i64 0, .slice none 0 0, .slice none 0 0], rfl, ⟨none, 0, none, 0, rfl, hk, by show I64 0; unfold I64; decide, Sl.empty, Sl.empty⟩, h⟩
theorem set4_chg (p : Nat) (w : World) (u0 u1 u2 u3 : Value) : Chg (fun k => k = p) w ((((w.setCell ⟨p, 0, none⟩ u0).setCell ⟨p, 1, none⟩ u1).setCell ⟨p, 2, none⟩ u2).setCell ⟨p, 3, none⟩ u3) :=
  ((((Chg.refl (fun k => k = p) _).setCell _ _ (fun _ => rfl)).setCell _ _ (fun _ => rfl)).setCell _ _ (fun _ => rfl)).setCell _ _ (fun _ => rfl)
theorem obj_frm {w : World} {b : Nat} {x y z u : Value} {t : TypeId} (h : w.heap[b]? = some (.cells #[x, y, z, u] t (0, 0))) :
    (w.cell? ⟨b, 0, none⟩ = some x ∧ w.cell? ⟨b, 1, none⟩ = some y ∧ w.cell? ⟨b, 2, none⟩ = some z ∧ w.cell? ⟨b, 3, none⟩ = some u) ∧ (w.frozen? ⟨b, 0, none⟩ = false ∧ w.frozen? ⟨b, 1, none⟩ = false ∧ w.frozen? ⟨b, 2, none⟩ = false ∧ w.frozen? ⟨b, 3, none⟩ = false) := by
  simp [World.cell?, World.frozen?, h]

end Go.Proofs.Ytlejcnbpodmleaa
