/-
  Keys and rows over data: what compares, finds, puts and deletes (the document's answer, and the program's own).
-/
import Derived.Test.YtalniaipgdbbcaaDrow
import Derived.Test.YtalniaipgdbbcaaKd
import Derived.Test.YtalniaipgdbbcaaKt
set_option linter.unusedSimpArgs false
set_option linter.unusedVariables false
namespace Go.Proofs.Ytalniaipgdbbcaa
open Go Go.Gp Go.Ga Go.Th
end Go.Proofs.Ytalniaipgdbbcaa
