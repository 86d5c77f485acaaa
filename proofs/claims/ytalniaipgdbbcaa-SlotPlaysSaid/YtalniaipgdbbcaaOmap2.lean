/-
  Requests over a row: all of them, and the laws' walks.
-/
import Derived.Test.YtalniaipgdbbcaaOmap1
set_option linter.unusedSimpArgs false
set_option linter.unusedVariables false
namespace Go.Proofs.Ytalniaipgdbbcaa
open Go Go.Gp Go.Ga Go.Th
theorem c_qsame (a : Res) : S22 a a (true, ()) := pure22 a a fun H K hk => by
  unfold A22
  refine retA_i _ (c_pairs _ _) (ifT (by simp) (ifT (by simp) (ifT (by simp) ?_)))
  rw [decide_eq_true rfl]; exact hk
def smallQ (r : Req) : Bool := decide ((r.key.length : Int) ≤ 100) && (decide ((r.val.length : Int) ≤ 100) && (decide ((r.old.length : Int) ≤ 100) && decide ((r.to.length : Int) ≤ 100)))
theorem c_small (r : Req) : S15 r (smallQ r, ()) := pure15 r fun H K hk => by
  unfold A15
  unfold smallQ at hk
  refine lenA_i fun _ => ifD (fun h1 => ?_) fun h1 => ?_
  · rw [decide_eq_true (show (r.key.length : Int) ≤ 100 from h1), Bool.true_and] at hk
    refine lenA_i fun _ => ifD (fun h2 => ?_) fun h2 => ?_
    · rw [decide_eq_true (show (r.val.length : Int) ≤ 100 from h2), Bool.true_and] at hk
      refine lenA_i fun _ => ifD (fun h3 => ?_) fun h3 => ?_
      · rw [decide_eq_true (show (r.old.length : Int) ≤ 100 from h3), Bool.true_and] at hk
        exact lenA_i fun _ => hk
      · rw [decide_eq_false (show ¬ (r.old.length : Int) ≤ 100 from h3), Bool.false_and] at hk; exact hk
    · rw [decide_eq_false (show ¬ (r.val.length : Int) ≤ 100 from h2), Bool.false_and] at hk; exact hk
  · rw [decide_eq_false (show ¬ (r.key.length : Int) ≤ 100 from h1), Bool.false_and] at hk; exact hk
end Go.Proofs.Ytalniaipgdbbcaa
