/-
  Requests over a row: all of them, and the laws' walks.
-/
import Derived.Test.YteljallgjmhkdaaOmap1
set_option linter.unusedSimpArgs false
set_option linter.unusedVariables false
namespace Go.Proofs.Yteljallgjmhkdaa
open Go Go.Gp Go.Ga Go.Th
theorem c_all (l : List Pr) (reqs : List Req) (most : Int) (hr : IsRow l) (hl : l.length ≤ 1000) (hq : reqs.length ≤ 1000) : S36 l reqs most ((allQ most l reqs).1, (allQ most l reqs).2, ()) := pure36 l reqs most fun H K hk => by
  unfold A36
  refine retA_i _ (c_merge0 l (by omega) hr.short) fun n hn => lenA_i fun _ => ?_
  refine loop_h reqs.length (fun i x H' => x = ((n, (allQ most l (reqs.take i)).2, reqs, (reqs.length : Int), (i : Int), ()), ()) ∧ H' = H.set n STk ((allQ most l (reqs.take i)).1, most)) ⟨by simp [allQ], by simp [allQ]⟩ ?_
  rintro i x H' C hi ⟨rfl, rfl⟩ hC
  dsimp only at hC ⊢
  refine ifLt (fun h1 => atA_lt h1 (retA_i _ (c_omay reqs[i]) ?_)) fun h1 => ?_
  · have hC := hC h1
    obtain ⟨g1, g2⟩ := allQ_row most (reqs.take i) hr
    have gl := allQ_len most l (reqs.take i)
    rw [List.length_take] at g2 gl
    have e := allQ_snoc most l (reqs.take i) reqs[i]
    rw [← take_snoc h1] at e
    refine ifNot (fun hm => appA_i (by omega) ?_) fun hm => ?_
    · rw [w1 (by omega)]
      have hm : mayQ reqs[i] = false := hm
      have e2 : doQ (allQ most l (reqs.take i)).1 reqs[i] most = ((allQ most l (reqs.take i)).1, codeQ 1) := if_neg (by rw [hm]; simp)
      exact hC _ _ ⟨by rw [e, e2]; rfl, by rw [e, e2]⟩
    · have hm : mayQ reqs[i] = true := hm
      have e2 : doQ (allQ most l (reqs.take i)).1 reqs[i] most = doM (allQ most l (reqs.take i)).1 reqs[i] most := if_pos hm
      refine c_do (set_at _ _ _ _) g1 (by omega) reqs[i] hm _ (appA_i (by omega) ?_)
      rw [set_set, w1 (by omega)]
      exact hC _ _ ⟨by rw [e, e2], by rw [e, e2]⟩
  · obtain rfl : i = reqs.length := by omega
    refine ldO_i (set_at _ _ _ _) ?_
    rw [set_del hn, List.take_length]; exact hk
theorem c_odo (l : List Pr) (r : Req) (most : Int) (hr : IsRow l) (hl : l.length ≤ 1000) : S32 l r most ((doQ l r most).1, (doQ l r most).2, ()) := pure32 l r most fun H K hk => by
  unfold A32
  exact retA_i _ (c_all l [r] most hr hl (by simp)) (atA_g (i := 0) rfl rfl hk)
def smallQ (r : Req) : Bool := decide ((r.key.length : Int) ≤ 100) && (decide ((r.val.length : Int) ≤ 100) && (decide ((r.old.length : Int) ≤ 100) && decide ((r.to.length : Int) ≤ 100)))
theorem c_small (r : Req) : S13 r (smallQ r, ()) := pure13 r fun H K hk => by
  unfold A13
  unfold smallQ at hk
  refine lenA_i fun _ => ifD (fun h1 => ?_) fun h1 => ?_
  · rw [decide_eq_true (show (r.key.length : Int) ≤ 100 from h1), Bool.true_and] at hk
    refine lenA_i fun _ => ifD (fun h2 => ?_) fun h2 => ?_
    · rw [decide_eq_true (show (r.val.length : Int) ≤ 100 from h2), Bool.true_and] at hk
      refine lenA_i fun _ => ifD (fun h3 => ?_) fun h3 => ?_
      · rw [decide_eq_true (show (r.old.length : Int) ≤ 100 from h3), Bool.true_and] at hk
        exact lenA_i fun _ => hk
      · rw [decide_eq_false (show ¬ (r.old.length : Int) ≤ 100 from h3), Bool.false_and] at hk; exact hk
    · rw [decide_eq_false (show ¬ (r.val.length : Int) ≤ 100 from h2), Bool.false_and] at hk; exact hk
  · rw [decide_eq_false (show ¬ (r.key.length : Int) ≤ 100 from h1), Bool.false_and] at hk; exact hk
end Go.Proofs.Yteljallgjmhkdaa
