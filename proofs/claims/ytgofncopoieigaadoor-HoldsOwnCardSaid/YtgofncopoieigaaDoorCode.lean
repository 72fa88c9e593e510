/-
  Errors that are codes: the walk over the statements' Code.
-/
import Derived.Test.YtgofncopoieigaaDoorRows
import Derived.Test.YtgofncopoieigaaDoorBase
import Derived.LaidEql
namespace Go.Proofs.YtgofncopoieigaaDoor
open Go Go.RowKit
section
variable {P : Program} (w : World)

theorem run_equalIn_iface_ints (d : Nat) {ti tn : TypeId} {ms : Array (String × TypeId)} {i : TypeInfo} {k : IntKind} (a b : Int)
    (hi : P.underlying ti = some (.interface ms)) (hn : P.underlying tn = some (.int k)) (hinfo : P.info? tn = some i) (hcomp : i.comparable = true) :
    (Op.equalIn (d + 2) ti (.iface tn (.int k a)) (.iface tn (.int k b))).run P w = .ok (a == b) w := by
  simp [Op.equalIn, run_underlying hi, run_underlying hn, typeInfo, hinfo, hcomp]

theorem run_eql_iface_ints {ti tn : TypeId} {ms : Array (String × TypeId)} {i : TypeInfo} {k : IntKind} (a b : Int)
    (hi : P.underlying ti = some (.interface ms)) (hn : P.underlying tn = some (.int k)) (hinfo : P.info? tn = some i) (hcomp : i.comparable = true) :
    (binOp .eql ti (.iface tn (.int k a)) (.iface tn (.int k b))).run P w = .ok (.bool (a == b)) w := by
  simp only [binOp]
  simp [Op.equal, Op.maxDepth, run_equalIn_iface_ints w 9998 a b hi hn hinfo hcomp]
theorem run_neq_iface_ints {ti tn : TypeId} {ms : Array (String × TypeId)} {i : TypeInfo} {k : IntKind} (a b : Int)
    (hi : P.underlying ti = some (.interface ms)) (hn : P.underlying tn = some (.int k)) (hinfo : P.info? tn = some i) (hcomp : i.comparable = true) :
    (binOp .neq ti (.iface tn (.int k a)) (.iface tn (.int k b))).run P w = .ok (.bool (!(a == b))) w := by
  simp only [binOp]
  simp [Op.equal, Op.maxDepth, run_equalIn_iface_ints w 9998 a b hi hn hinfo hcomp]
end

theorem errInfo : ∃ i, Tryd.prog.info? 53 = some i ∧ i.comparable = true :=
  Option.map_eq_some_iff.1 (show (Tryd.prog.info? 53).map (·.comparable) = some true by kernel_rfl)

end Go.Proofs.YtgofncopoieigaaDoor
