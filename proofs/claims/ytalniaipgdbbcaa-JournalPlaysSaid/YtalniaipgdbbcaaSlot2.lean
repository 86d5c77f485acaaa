/-
  Slots as the document has them, over data.
-/
import Derived.Test.YtalniaipgdbbcaaSlot1
set_option linter.unusedSimpArgs false
set_option linter.unusedVariables false
namespace Go.Proofs.Ytalniaipgdbbcaa
open Go Go.Gp Go.Ga Go.Th
end Go.Proofs.Ytalniaipgdbbcaa
