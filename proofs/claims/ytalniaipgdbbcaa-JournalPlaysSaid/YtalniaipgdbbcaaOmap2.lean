/-
  Requests over a row: all of them, and the laws' walks.
-/
import Derived.Test.YtalniaipgdbbcaaOmap1
set_option linter.unusedSimpArgs false
set_option linter.unusedVariables false
namespace Go.Proofs.Ytalniaipgdbbcaa
open Go Go.Gp Go.Ga Go.Th
def smallQ (r : Req) : Bool := decide ((r.key.length : Int) ≤ 100) && (decide ((r.val.length : Int) ≤ 100) && (decide ((r.old.length : Int) ≤ 100) && decide ((r.to.length : Int) ≤ 100)))
theorem c_small (r : Req) : S15 r (smallQ r, ()) := pure15 r fun H K hk => by
  unfold A15
  unfold smallQ at hk
  refine lenA_i fun _ => ifD (fun h1 => ?_) fun h1 => ?_
  · rw [decide_eq_true (show (r.key.length : Int) ≤ 100 from h1), Bool.true_and] at hk
    refine lenA_i fun _ => ifD (fun h2 => ?_) fun h2 => ?_
    · rw [decide_eq_true (show (r.val.length : Int) ≤ 100 from h2), Bool.true_and] at hk
      refine lenA_i fun _ => ifD (fun h3 => ?_) fun h3 => ?_
      · rw [decide_eq_true (show (r.old.length : Int) ≤ 100 from h3), Bool.true_and] at hk
        exact lenA_i fun _ => hk
      · rw [decide_eq_false (show ¬ (r.old.length : Int) ≤ 100 from h3), Bool.false_and] at hk; exact hk
    · rw [decide_eq_false (show ¬ (r.val.length : Int) ≤ 100 from h2), Bool.false_and] at hk; exact hk
  · rw [decide_eq_false (show ¬ (r.key.length : Int) ≤ 100 from h1), Bool.false_and] at hk; exact hk
def fewQ (l : List Req) (n : Int) : Bool := allN l.length (fun j => match l[j]? with | some p => smallQ p | none => true) && decide ((l.length : Int) ≤ n)
theorem fewQ_len {l : List Req} {n : Int} (h : fewQ l n = true) : (l.length : Int) ≤ n := by
  unfold fewQ at h
  simp only [Bool.and_eq_true, decide_eq_true_eq] at h
  exact h.2
theorem c_qfew (l : List Req) (n : Int) : S39 l n (fewQ l n, ()) := pure39 l n fun H K hk => by
  unfold A39
  refine loop_n l.length (fun i => ((l, n, (i : Int), ()), ())) (fun i => ∀ j p, j < i → l[j]? = some p → smallQ p = true) rfl (fun j p h => absurd h (Nat.not_lt_zero _)) fun i C hi hP hC => ?_
  dsimp only at hC ⊢
  refine lenA_i fun _ => ifLt (fun h1 => ?_) fun h1 => ?_
  · refine atA_lt h1 (retA_i _ (c_small l[i]) (ifNot (fun h => ?_) fun h => ?_))
    · have h : smallQ l[i] = false := h
      have : fewQ l n = false := by
        unfold fewQ
        rw [allN_false h1 (by simp only [List.getElem?_eq_getElem h1]; exact h)]
        rfl
      rw [this] at hk; exact hk
    · rw [w1 (by omega)]
      refine hC h1 fun j p hj hp => ?_
      rcases Nat.lt_or_ge j i with h3 | h3
      · exact hP j p h3 hp
      · obtain rfl : j = i := by omega
        rw [List.getElem?_eq_getElem h1] at hp
        injection hp with hp
        subst hp
        exact h
  · refine lenA_i fun _ => ?_
    have : fewQ l n = decide ((l.length : Int) ≤ n) := by
      unfold fewQ
      rw [allN_true fun j hj => ?_, Bool.true_and]
      have := hP j _ (by omega) (List.getElem?_eq_getElem hj)
      simp [hj, this]
    rw [← this]; exact hk
end Go.Proofs.Ytalniaipgdbbcaa
