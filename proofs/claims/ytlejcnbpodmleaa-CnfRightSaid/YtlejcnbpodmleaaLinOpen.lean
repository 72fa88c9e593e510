/-
  Arguments that are forms and terms, read as data.
-/
import Derived.Test.YtlejcnbpodmleaaLin1
namespace Go.Proofs.Ytlejcnbpodmleaa
open Go Go.RowKit
section
variable {H : Type} {enc : TypeId × Value → H}
theorem opensV_mono : OpensV enc Try.prog 49 monoV :=
  opensV_struct2 (by decide) Try.underlying49 rfl rfl (by kernel_rfl) (by kernel_rfl) (opensV_int Try.underlying3 (by kernel_rfl) (by kernel_rfl)) (opensV_int Try.underlying3 (by kernel_rfl) (by kernel_rfl))
theorem opensE_mono : OpensE enc Try.prog 49 2 MonoE := opensE_of opensV_mono
theorem opensV_lin : OpensV enc Try.prog 24 linV :=
  opensV_struct2 (by decide) Try.underlying24 rfl rfl (by kernel_rfl) (by kernel_rfl) (opensV_int Try.underlying3 (by kernel_rfl) (by kernel_rfl)) (opensV_sl Try.underlying22 (by decide) (by kernel_rfl) (by kernel_rfl) opensE_mono)
end
end Go.Proofs.Ytlejcnbpodmleaa
