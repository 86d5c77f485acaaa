/-
  Keys and rows over data: what compares, finds, puts and deletes (the document's answer, and the program's own).
-/
import Derived.Test.YtalniaipgdbbcaaDrow
import Derived.Test.YtalniaipgdbbcaaKd
import Derived.Test.YtalniaipgdbbcaaKt
set_option linter.unusedSimpArgs false
set_option linter.unusedVariables false
namespace Go.Proofs.Ytalniaipgdbbcaa
open Go Go.Gp Go.Ga Go.Th
theorem c_may (a : Key) : S83 a (mayB a, ()) := pure83 a fun H K hk => (by
  unfold A83
  refine lenA_i fun _ => ifD (fun h => lenA_i fun _ => ?_) fun h => ?_
  · have : mayB a = decide ((a.length : Int) ≤ 16) := by unfold mayB; rw [Bool.eq_iff_iff]; simp; omega
    rw [← this]; exact hk
  · have : mayB a = false := by unfold mayB; simp; omega
    rw [← this]; exact hk)
theorem c_less (a b : Key) : S94 a b (lessL a b, ()) := pure94 a b fun H K hk => (by
  unfold A94
  refine loop_n a.length (fun i => ((a, b, (i : Int), ()), ())) (fun i => ∀ j, j < i → a[j]? = b[j]?) rfl (fun j h => absurd h (Nat.not_lt_zero _)) fun i C hi hP hC => ?_
  dsimp only at hC ⊢
  have fin : ∀ {A : Prop}, (a.length ≤ i ∨ b.length ≤ i) → (K (decide ((a.length : Int) < (b.length : Int)), ()) H → A) → A := fun h hA => hA (by
    have : lessL a b = decide (a.length < b.length) := lessL_len a b fun j h1 h2 => hP j (by omega)
    have e : decide ((a.length : Int) < (b.length : Int)) = decide (a.length < b.length) := by rw [decide_eq_decide]; omega
    rw [e, ← this]; exact hk)
  refine lenA_i fun _ => ifLt (fun h1 => ?_) fun h1 => fin (.inl h1) fun h => lenA_i fun _ => lenA_i fun _ => h
  refine lenA_i fun _ => ifLt (fun h2 => ?_) fun h2 => fin (.inr h2) fun h => lenA_i fun _ => lenA_i fun _ => h
  refine atA_lt h1 (atA_lt h2 (ifN (fun h => ?_) fun h => ?_))
  · refine atA_lt h1 (atA_lt h2 ?_)
    rw [u8_lt, ← lessL_diff i a b a[i] b[i] hP (List.getElem?_eq_getElem h1) (List.getElem?_eq_getElem h2) (u8_ne.1 h)]
    exact hk
  · rw [w1 (by omega)]
    refine hC h1 fun j hj => ?_
    rcases Nat.lt_or_ge j i with h3 | h3
    · exact hP j h3
    · have : j = i := by omega
      subst this
      rw [List.getElem?_eq_getElem h1, List.getElem?_eq_getElem h2]
      congr 1
      exact UInt8.toNat_inj.1 (by omega))
theorem c_rsound (r : Key × Key) : S90 r (soundR r.1 r.2, ()) := pure90 r fun H K hk => by
  unfold A90
  refine retA_i _ (c_less _ _) (lenA_i fun _ => ifD (fun h1 => lenA_i fun _ => ifD (fun h2 => lenA_i fun _ => ifE (fun h0 => ?_) fun h0 => ?_) fun h2 => ?_) fun h1 => ?_) <;> unfold soundR at hk
  · rw [decide_eq_true (p := r.1.length ≤ 16) (by omega), decide_eq_true (p := r.2.length ≤ 16) (by omega), decide_eq_true (p := r.2.length = 0) (by omega)] at hk; exact hk
  · rw [decide_eq_true (p := r.1.length ≤ 16) (by omega), decide_eq_true (p := r.2.length ≤ 16) (by omega), decide_eq_false (p := r.2.length = 0) (by omega)] at hk; exact hk
  · rw [decide_eq_true (p := r.1.length ≤ 16) (by omega), decide_eq_false (p := r.2.length ≤ 16) (by omega)] at hk; exact hk
  · rw [decide_eq_false (p := r.1.length ≤ 16) (by omega)] at hk; exact hk
end Go.Proofs.Ytalniaipgdbbcaa
