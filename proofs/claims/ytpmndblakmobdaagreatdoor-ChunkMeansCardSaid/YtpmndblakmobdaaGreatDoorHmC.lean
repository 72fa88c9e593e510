/-
  How deep an assertion is: the reference's.
-/
import Derived.Test.YtpmndblakmobdaaGreatDoorHlE
import Derived.Test.YtpmndblakmobdaaGreatDoorHmB
namespace Go.Proofs.YtpmndblakmobdaaGreatDoor
open Go Go.RowKit

end Go.Proofs.YtpmndblakmobdaaGreatDoor
