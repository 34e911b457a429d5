/-
  The claim's own texts, packed. Conditions: those typed in each theorem.
-/
import Derived.Test.YtcklofamaooegaaGreatDoorZKaaj
import Derived.Test.YtcklofamaooegaaGreatDoorZKaai
import Derived.Test.YtcklofamaooegaaGreatDoorShelf
set_option maxHeartbeats 4000000
set_option maxRecDepth 10000
set_option linter.unusedVariables false
namespace Go.Proofs.YtcklofamaooegaaGreatDoor
open Go.RowKit
end Go.Proofs.YtcklofamaooegaaGreatDoor
