/-
  Keys and rows over data: the program's own functions.
-/
import Derived.Test.YtalniaipgdbbcaaRow1
import Derived.Test.YtalniaipgdbbcaaLib1
set_option linter.unusedSimpArgs false
set_option linter.unusedVariables false
namespace Go.Proofs.Ytalniaipgdbbcaa
open Go Go.Gp Go.Ga Go.Th
theorem c_kmay (a : Key) : S88 a (mayB a, ()) := pure88 a fun H K hk => by
  unfold A88
  refine lenA_i fun _ => ifD (fun h => lenA_i fun _ => ?_) fun h => ?_
  · have : mayB a = decide ((a.length : Int) ≤ 16) := by unfold mayB; rw [Bool.eq_iff_iff]; simp; omega
    rw [← this]; exact hk
  · have : mayB a = false := by unfold mayB; simp; omega
    rw [← this]; exact hk
theorem c_kfair (a : Key) : S87 a (fairB a, ()) := pure87 a fun H K hk => by
  unfold A87
  refine lenA_i fun _ => ?_
  have : fairB a = decide ((a.length : Int) ≤ 32) := by unfold fairB; rw [decide_eq_decide]; omega
  rw [← this]; exact hk
theorem c_kcmp (a b : Key) : S106 a b (cmpL a b, ()) := pure106 a b fun H K hk => by
  unfold A106
  exact retA_i _ (c_bcompare a b) hk
theorem c_ksound (r : Key × Key) : S89 r (soundR r.1 r.2, ()) := pure89 r fun H K hk => by
  unfold A89
  refine lenA_i fun _ => ifD (fun h1 => lenA_i fun _ => ifD (fun h2 => lenA_i fun _ => ifE (fun h0 => ?_) fun h0 => retA_i _ (c_kcmp _ _) ?_) fun h2 => ?_) fun h1 => ?_ <;> unfold soundR at hk
  · rw [decide_eq_true (p := r.1.length ≤ 16) (by omega), decide_eq_true (p := r.2.length ≤ 16) (by omega), decide_eq_true (p := r.2.length = 0) (by omega)] at hk; exact hk
  · rw [decide_eq_true (p := r.1.length ≤ 16) (by omega), decide_eq_true (p := r.2.length ≤ 16) (by omega), decide_eq_false (p := r.2.length = 0) (by omega)] at hk; rw [cmpL_neg']; exact hk
  · rw [decide_eq_true (p := r.1.length ≤ 16) (by omega), decide_eq_false (p := r.2.length ≤ 16) (by omega)] at hk; exact hk
  · rw [decide_eq_false (p := r.1.length ≤ 16) (by omega)] at hk; exact hk
end Go.Proofs.Ytalniaipgdbbcaa
