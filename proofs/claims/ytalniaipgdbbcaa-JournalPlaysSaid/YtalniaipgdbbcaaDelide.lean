/-
  WRITTEN BY mka.py (a program of ours): of each function named below: its formula over data, and that the kernel reckons this very formula out of the function's code.
-/
import Derived.Test.YtalniaipgdbbcaaProg
import Derived.Test.YtalniaipgdbbcaaDak
namespace Go.Proofs.Ytalniaipgdbbcaa
open Go Go.Gp Go.Ga
set_option linter.unusedVariables false
set_option maxRecDepth 100000
set_option maxHeartbeats 0
end Go.Proofs.Ytalniaipgdbbcaa
