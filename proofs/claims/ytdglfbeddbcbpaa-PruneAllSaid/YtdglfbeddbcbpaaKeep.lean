/-
  Trees that stay as they are where all that was there stays.
-/
import Derived.Test.YtdglfbeddbcbpaaKy
set_option linter.unusedSimpArgs false
set_option linter.unusedVariables false
namespace Go.Proofs.Ytdglfbeddbcbpaa
open Go Go.Gp Go.Ga Go.Th
def FmN (H H' : HP) : Prop := ∀ m, (H m).isSome → H' m = H m
theorem FmN.refl (H : HP) : FmN H H := fun _ _ => rfl
theorem FmN.trans {H H' H'' : HP} (h : FmN H H') (k : FmN H' H'') : FmN H H'' := fun m hm => (k m (by rw [h m hm]; exact hm)).trans (h m hm)
theorem FmN.none {H H' : HP} (h : FmN H H') {m : Nat} (hm : H' m = none) : H m = none := by
  cases hh : H m with
  | none => rfl
  | some x => rw [h m (by rw [hh]; rfl), hh] at hm; cases hm
theorem TreeIs.keep {H H' : HP} {t n o : Nat} {ps : List Pr} {many : Int} (h : TreeIs H t n o ps many) (hf : FmN H H') : TreeIs H' t n o ps many := by
  obtain ⟨hh, T, v, f, u, ⟨a, b, c, d, e⟩, g⟩ := h
  exact ⟨hh, T, v, f, u, ⟨by rw [hf t (by rw [a]; rfl)]; exact a, by rw [hf n (by rw [b]; rfl)]; exact b, c, d, e⟩, g⟩
theorem TreeIs.some {H : HP} {t n o : Nat} {ps : List Pr} {many : Int} (h : TreeIs H t n o ps many) : (H t).isSome ∧ (H n).isSome := by
  obtain ⟨hh, T, v, f, u, ⟨a, b, c, d, e⟩, g⟩ := h
  exact ⟨by rw [a]; rfl, by rw [b]; rfl⟩
end Go.Proofs.Ytdglfbeddbcbpaa
