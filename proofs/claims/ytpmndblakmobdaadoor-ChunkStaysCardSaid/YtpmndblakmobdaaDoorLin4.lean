/-
  lin.Gcd and the reference's; lin.Value and the reference's.
-/
import Derived.Test.YtpmndblakmobdaaDoorLin3
namespace Go.Proofs.YtpmndblakmobdaaDoor
open Go Go.RowKit

end Go.Proofs.YtpmndblakmobdaaDoor
