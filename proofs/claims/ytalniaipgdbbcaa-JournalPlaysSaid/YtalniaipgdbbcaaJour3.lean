/-
  JournalOnce.
-/
import Derived.Test.YtalniaipgdbbcaaJour2
set_option linter.unusedSimpArgs false
set_option linter.unusedVariables false
namespace Go.Proofs.Ytalniaipgdbbcaa
open Go Go.Gp Go.Ga Go.Th
theorem c_janswered' {H : HP} {n b be : Nat} {s se : Sl} {gs : List (List Itm)} {ap an : Nat} (h : JAt H n b be s se gs ap an) (K : HT [(false, .one .any)] → HP → Prop) (h10 : dnG gs ap ≤ an → K (er 10, ()) H)
    (yes : an < dnG gs ap → ∀ H', ((an + 1 ≠ gs.flatten.length ∧ JAt H' n b be s se gs ap (an + 1)) ∨ (an + 1 = gs.flatten.length ∧ JAt H' n 0 0 ⟨none, 0, 0⟩ ⟨none, 0, 0⟩ [] 0 0)) → FrJ H H' → K (er 0, ()) H') : C55 (some n) H K :=
  c_janswered h K h10 (fun a b' H' h' f => yes a H' (.inl ⟨b', h'⟩) f) fun a b' H' h' f => yes a H' (.inr ⟨b', h'⟩) f
end Go.Proofs.Ytalniaipgdbbcaa
