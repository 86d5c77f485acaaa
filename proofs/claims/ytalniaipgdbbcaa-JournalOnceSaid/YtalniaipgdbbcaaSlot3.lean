/-
  Slots: the two laws' walks, over data.
-/
import Derived.Test.YtalniaipgdbbcaaDslaw
import Derived.Test.YtalniaipgdbbcaaSlot2
import Derived.Test.YtalniaipgdbbcaaElide1
set_option linter.unusedSimpArgs false
set_option linter.unusedVariables false
namespace Go.Proofs.Ytalniaipgdbbcaa
open Go Go.Gp Go.Ga Go.Th
theorem smallQ_short {r : Req} (h : smallQ r = true) : shortQ r := by
  unfold smallQ at h
  simp only [Bool.and_eq_true, decide_eq_true_eq] at h
  exact ⟨by omega, by omega, by omega, by omega⟩
end Go.Proofs.Ytalniaipgdbbcaa
