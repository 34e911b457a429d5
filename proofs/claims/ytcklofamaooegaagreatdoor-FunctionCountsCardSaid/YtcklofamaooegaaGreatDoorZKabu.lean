/-
  The claim's own texts, packed. Conditions: those typed in each theorem.
-/
import Derived.Test.YtcklofamaooegaaGreatDoorZKabt
import Derived.Test.YtcklofamaooegaaGreatDoorZKaae
import Derived.Laws.MakeOwn
import Derived.Laws.OwnMore
set_option maxHeartbeats 4000000
set_option maxRecDepth 10000
set_option linter.unusedVariables false
namespace Go.Proofs.YtcklofamaooegaaGreatDoor
open Go.RowKit
attribute [local go_sem ↓] Go.wp_at_zero Go.wp_at_succ
end Go.Proofs.YtcklofamaooegaaGreatDoor
