/-
  Arguments that are variables, read as data.
-/
import Derived.Test.YtgofncopoieigaaGreatDoorMH
namespace Go.Proofs.YtgofncopoieigaaGreatDoor
open Go Go.RowKit
section
variable {H : Type} {enc : TypeId × Value → H}
theorem opensV_var : OpensV enc Tryz.prog 52 varV :=
  opensV_struct2 (by decide) Tryz.underlying52 rfl rfl (by kernel_rfl) (by kernel_rfl) (opensV_string Tryz.underlying9 (by kernel_rfl) (by kernel_rfl)) (opensV_int Tryz.underlying3 (by kernel_rfl) (by kernel_rfl))
theorem opensE_var : OpensE enc Tryz.prog 52 2 varV.mem := opensE_of opensV_var
end
end Go.Proofs.YtgofncopoieigaaGreatDoor
