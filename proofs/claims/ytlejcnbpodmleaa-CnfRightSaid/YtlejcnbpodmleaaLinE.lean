/-
  The reference's Times and Add.
-/
import Derived.Test.YtlejcnbpodmleaaLinD
import Derived.Test.YtlejcnbpodmleaaLater
import Derived.Deep.RegionLaw
namespace Go.Proofs.Ytlejcnbpodmleaa
open Go Go.RowKit

/-- A call returns a slice of terms in new memory. -/
def MonosRet (w : World) (l : List Mono) (e : Ending) (w' : World) : Prop :=
  ∃ v, e = .returned v ∧ OMonos (fun k => w.heap.size ≤ k) w' v l ∧ Chg No w w'

end Go.Proofs.Ytlejcnbpodmleaa
