/-
  A group's run, over data.
-/
import Derived.Test.YtalniaipgdbbcaaDelide
import Derived.Test.YtalniaipgdbbcaaOmap2
set_option linter.unusedSimpArgs false
set_option linter.unusedVariables false
namespace Go.Proofs.Ytalniaipgdbbcaa
open Go Go.Gp Go.Ga Go.Th
theorem JoinA_w {V : Type} {B : V → HP → Prop} {A : (V → HP → Prop) → Prop} (P : V → HP → Prop) (hB : ∀ v H, P v H → B v H) (h : ∀ C : V → HP → Prop, (∀ v H, P v H → C v H) → A C) : JoinA B A := h B hB
theorem allN_snoc (n : Nat) (f : Nat → Bool) : allN (n + 1) f = (allN n f && f n) := by
  unfold allN
  rw [List.range_succ, List.all_append]
  simp
end Go.Proofs.Ytalniaipgdbbcaa
