/-
  The reference's Value.
-/
import Derived.Test.YtpmndblakmobdaaDoorLin5
namespace Go.Proofs.YtpmndblakmobdaaDoor
open Go Go.RowKit

end Go.Proofs.YtpmndblakmobdaaDoor
