/-
  Arguments that are forms and terms, read as data.
-/
import Derived.Test.YtpmndblakmobdaaDoorLin1
namespace Go.Proofs.YtpmndblakmobdaaDoor
open Go Go.RowKit
section
variable {H : Type} {enc : TypeId × Value → H}
theorem opensV_mono : OpensV enc Tryd.prog 55 monoV :=
  opensV_struct2 (by decide) Tryd.underlying55 rfl rfl (by kernel_rfl) (by kernel_rfl) (opensV_int Tryd.underlying3 (by kernel_rfl) (by kernel_rfl)) (opensV_int Tryd.underlying3 (by kernel_rfl) (by kernel_rfl))
theorem opensE_mono : OpensE enc Tryd.prog 55 2 MonoE := opensE_of opensV_mono
theorem opensV_lin : OpensV enc Tryd.prog 36 linV :=
  opensV_struct2 (by decide) Tryd.underlying36 rfl rfl (by kernel_rfl) (by kernel_rfl) (opensV_int Tryd.underlying3 (by kernel_rfl) (by kernel_rfl)) (opensV_sl Tryd.underlying34 (by decide) (by kernel_rfl) (by kernel_rfl) opensE_mono)
end
end Go.Proofs.YtpmndblakmobdaaDoor
