/-
  Slots: the two laws' walks, over data.
-/
import Derived.Test.YtalniaipgdbbcaaDslaw
import Derived.Test.YtalniaipgdbbcaaSlot2
import Derived.Test.YtalniaipgdbbcaaElide1
set_option linter.unusedSimpArgs false
set_option linter.unusedVariables false
namespace Go.Proofs.Ytalniaipgdbbcaa
open Go Go.Gp Go.Ga Go.Th
theorem c_code (c : Int) (h0 : 0 ≤ c) (h1 : c ≤ 11) : S29 (er c) (c, ()) := pure29 _ fun H K hk => by
  unfold A29
  refine ⟨er_ifc c, ?_⟩
  rw [er_nil]
  by_cases hc : c = 0
  · subst hc; exact hk
  · refine ifF (decide_eq_false hc) ?_
    refine loop_n 11 (fun i => ((er c, (i : Int) + 1, ()), ())) (fun i => (i : Int) < c) rfl (by omega) fun i C hi hP hC => ?_
    dsimp only at hC ⊢
    refine ifD (fun h2 => er_eq (by omega) (ifD (fun h => by rw [← h]; exact hk) fun h => ?_)) fun h2 => ?_
    · have h : ¬ c = (i : Int) + 1 := h
      rw [wI (by omega) (by omega)]
      have := hC (by omega) (by omega)
      rw [show ((i + 1 : Nat) : Int) + 1 = (i : Int) + 1 + 1 from by omega] at this
      exact this
    · have h2 : ¬ (i : Int) + 1 ≤ 11 := h2
      omega
def pickW (c n : Int) : Int := Int.tmod (if c < 0 then IntKind.i64.wrap (0 - IntKind.i64.wrap (c + 1)) else c) n
theorem smallQ_short {r : Req} (h : smallQ r = true) : shortQ r := by
  unfold smallQ at h
  simp only [Bool.and_eq_true, decide_eq_true_eq] at h
  exact ⟨by omega, by omega, by omega, by omega⟩
theorem c_asked12 (a : Req) : S32 a a (true, ()) := pure32 a a fun H K hk => by
  unfold A32
  refine ifT (by simp) (ifT (by simp) (ifT (by simp) (ifT (by simp) (ifT (by simp) (ifT (by simp) (ifT (by simp) ?_))))))
  rw [beq_self_eq_true]; exact hk
end Go.Proofs.Ytalniaipgdbbcaa
