/-
  Errors, and what they tell.
-/
import Derived.Test.YtbaclnddcobdmaaDerr
import Derived.Test.YtbaclnddcobdmaaGk5
set_option linter.unusedSimpArgs false
set_option linter.unusedVariables false
namespace Go.Proofs.Ytbaclnddcobdmaa
open Go Go.Gp

/-- An error: none, or a number of api's. -/
def er (c : Int) : Value := if c = 0 then .nilIface else .iface 29 (.int .i64 c)
theorem er_zero : er 0 = .nilIface := rfl
theorem er_ifc (c : Int) : isIfc (er c) = true := by unfold er; split <;> rfl
theorem er_nil (c : Int) : isNilV (er c) = decide (c = 0) := by unfold er; split <;> rename_i h <;> simp [isNilV, h]
theorem er_of {c : Int} (h : c ≠ 0) : (Value.iface 29 (.int .i64 c)) = er c := by rw [er, if_neg h]
theorem undC : Try.prog.underlying 29 = some (.int .i64) := by kernel_rfl
theorem infC : (Try.prog.info? 29).map (·.comparable) = some true := by kernel_rfl
theorem er_eq {a b : Int} {K : Bool → Prop} (hb : b ≠ 0) (hk : K (decide (a = b))) : ifcEq Try.prog (er a) (.iface 29 (.int .i64 b)) K := by
  have hi := infC
  cases hh : Try.prog.info? 29 with
  | none => rw [hh] at hi; cases hi
  | some i =>
    rw [hh] at hi
    simp only [Option.map_some, Option.some.injEq] at hi
    by_cases ha : a = 0
    · refine ⟨decide (a = b), .inr (.inr (.inl ⟨29, .int .i64 b, by rw [ha]; rfl, rfl, ?_⟩)), hk⟩
      simp only [decide_eq_false_iff_not]; omega
    · refine ⟨decide (a = b), .inl ⟨29, .i64, a, b, i, by rw [er, if_neg ha], rfl, undC, hh, hi, ?_⟩, hk⟩
      rw [Bool.eq_iff_iff]; simp

/-- Code of an error. -/
theorem code_spec {W : World} {c : Int} (h0 : 0 ≤ c) (h1 : c ≤ 11) {K : Int × Unit → World → Prop} (hk : K (c, ()) W) : callG Try.prog 22 [er c] [.one (.int .i64)] W K := by
  apply call22
  unfold G22
  refine ⟨er_ifc c, ?_⟩
  rw [er_nil]
  by_cases hc : c = 0
  · subst hc; exact hk
  · simp only [hc, decide_false, ifB_false]
    refine LoopG.rule (fun x w => w = W ∧ ∃ i : Int, 1 ≤ i ∧ i ≤ c ∧ x = (er c, i, ())) (fun x _ => (12 - x.2.1).toNat) ⟨rfl, 1, by omega, by omega, rfl⟩ ?_
    rintro x w ⟨rfl, i, hi0, hi1, rfl⟩ C hC j
    simp only [ifB_dec]
    refine ⟨fun _ => ?_, fun h => absurd h (by omega)⟩
    refine er_eq (by omega) ?_
    rw [ifB_dec]
    refine ⟨fun h => by rw [← h]; exact hk, fun h => ?_⟩
    rw [w64 (by omega) (by omega)]
    exact hC _ _ ⟨rfl, i + 1, by omega, by omega, rfl⟩ (by simp only; omega)

/-- pick: one of n. -/
def pickN (c n : Int) : Int := if c < 0 then Int.tmod (-c - 1) n else Int.tmod c n
theorem pickN_lt {c n : Int} (hn : 0 < n) : 0 ≤ pickN c n ∧ pickN c n < n := by
  unfold pickN
  split
  · exact ⟨Int.tmod_nonneg _ (by omega), Int.tmod_lt_of_pos _ hn⟩
  · exact ⟨Int.tmod_nonneg _ (by omega), Int.tmod_lt_of_pos _ hn⟩
theorem addr0 (b n : Nat) : (Addr.mk b 0 none).add n = Addr.mk b n none := by rw [addr_add, Nat.zero_add]
end Go.Proofs.Ytbaclnddcobdmaa
