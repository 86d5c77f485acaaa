/-
  Keys and rows over data: what compares, finds, puts and deletes (the document's answer, and the program's own).
-/
import Derived.Test.YtalniaipgdbbcaaDrow
import Derived.Test.YtalniaipgdbbcaaKd
import Derived.Test.YtalniaipgdbbcaaKt
set_option linter.unusedSimpArgs false
set_option linter.unusedVariables false
namespace Go.Proofs.Ytalniaipgdbbcaa
open Go Go.Gp Go.Ga Go.Th
theorem c_may (a : Key) : S83 a (mayB a, ()) := pure83 a fun H K hk => (by
  unfold A83
  refine lenA_i fun _ => ifD (fun h => lenA_i fun _ => ?_) fun h => ?_
  · have : mayB a = decide ((a.length : Int) ≤ 16) := by unfold mayB; rw [Bool.eq_iff_iff]; simp; omega
    rw [← this]; exact hk
  · have : mayB a = false := by unfold mayB; simp; omega
    rw [← this]; exact hk)
theorem c_less (a b : Key) : S94 a b (lessL a b, ()) := pure94 a b fun H K hk => (by
  unfold A94
  refine loop_n a.length (fun i => ((a, b, (i : Int), ()), ())) (fun i => ∀ j, j < i → a[j]? = b[j]?) rfl (fun j h => absurd h (Nat.not_lt_zero _)) fun i C hi hP hC => ?_
  dsimp only at hC ⊢
  have fin : ∀ {A : Prop}, (a.length ≤ i ∨ b.length ≤ i) → (K (decide ((a.length : Int) < (b.length : Int)), ()) H → A) → A := fun h hA => hA (by
    have : lessL a b = decide (a.length < b.length) := lessL_len a b fun j h1 h2 => hP j (by omega)
    have e : decide ((a.length : Int) < (b.length : Int)) = decide (a.length < b.length) := by rw [decide_eq_decide]; omega
    rw [e, ← this]; exact hk)
  refine lenA_i fun _ => ifLt (fun h1 => ?_) fun h1 => fin (.inl h1) fun h => lenA_i fun _ => lenA_i fun _ => h
  refine lenA_i fun _ => ifLt (fun h2 => ?_) fun h2 => fin (.inr h2) fun h => lenA_i fun _ => lenA_i fun _ => h
  refine atA_lt h1 (atA_lt h2 (ifN (fun h => ?_) fun h => ?_))
  · refine atA_lt h1 (atA_lt h2 ?_)
    rw [u8_lt, ← lessL_diff i a b a[i] b[i] hP (List.getElem?_eq_getElem h1) (List.getElem?_eq_getElem h2) (u8_ne.1 h)]
    exact hk
  · rw [w1 (by omega)]
    refine hC h1 fun j hj => ?_
    rcases Nat.lt_or_ge j i with h3 | h3
    · exact hP j h3
    · have : j = i := by omega
      subst this
      rw [List.getElem?_eq_getElem h1, List.getElem?_eq_getElem h2]
      congr 1
      exact UInt8.toNat_inj.1 (by omega))
theorem c_few (l : List Pr) (n : Int) : S35 l n (fewB l n, ()) := pure35 l n fun H K hk => by
  unfold A35
  have bad : ∀ {i : Nat} (hi : i < l.length), (100 < l[i].1.length ∨ 100 < l[i].2.length) → K (false, ()) H := fun {i} hi h => by
    have : fewB l n = false := by
      unfold fewB
      rw [allN_false hi (by simp only [List.getElem?_eq_getElem hi]; rcases h with h | h <;> simp <;> omega)]
      rfl
    rw [← this]; exact hk
  refine loop_n l.length (fun i => ((l, n, (i : Int), ()), ())) (fun i => ∀ j p, j < i → l[j]? = some p → p.1.length ≤ 100 ∧ p.2.length ≤ 100) rfl (fun j p h => absurd h (Nat.not_lt_zero _)) fun i C hi hP hC => ?_
  dsimp only at hC ⊢
  refine lenA_i fun _ => ifLt (fun h1 => ?_) fun h1 => ?_
  · refine atA_lt h1 (lenA_i fun _ => ifD (fun h => bad h1 (.inl (by omega))) fun h => atA_lt h1 (lenA_i fun _ => ifD (fun h' => bad h1 (.inr (by omega))) fun h' => ?_))
    rw [w1 (by omega)]
    refine hC h1 fun j p hj hp => ?_
    rcases Nat.lt_or_ge j i with h3 | h3
    · exact hP j p h3 hp
    · obtain rfl : j = i := by omega
      rw [List.getElem?_eq_getElem h1] at hp
      injection hp with hp
      subst hp
      exact ⟨by omega, by omega⟩
  · refine lenA_i fun _ => ?_
    have : fewB l n = decide ((l.length : Int) ≤ n) := by
      unfold fewB
      rw [allN_true fun j hj => ?_, Bool.true_and]
      have := hP j _ (by omega) (List.getElem?_eq_getElem hj)
      simp [hj, this.1, this.2]
    rw [← this]; exact hk
theorem c_pairs (a b : List Pr) : S38 a b (decide (a = b), ()) := pure38 a b fun H K hk => by
  unfold A38
  refine lenA_i fun _ => lenA_i fun _ => ifN (fun h => ?_) fun h => ?_
  · have : decide (a = b) = false := by rw [decide_eq_false_iff_not]; rintro rfl; exact h rfl
    rw [this] at hk; exact hk
  have hlen : a.length = b.length := by omega
  have bad : a ≠ b → K (false, ()) H := fun h => by
    rw [decide_eq_false h] at hk; exact hk
  refine loop_n a.length (fun i => ((a, b, (i : Int), ()), ())) (fun i => ∀ j, j < i → a[j]? = b[j]?) rfl (fun j h => absurd h (Nat.not_lt_zero _)) fun i C hi hP hC => ?_
  dsimp only at hC ⊢
  refine lenA_i fun _ => ifLt (fun h1 => ?_) fun h1 => ?_
  · have h2 : i < b.length := by omega
    refine atA_lt h1 (atA_lt h2 ?_)
    rw [strB_eq]
    refine ifNot (fun hne => bad fun e => ?_) fun he => atA_lt h1 (atA_lt h2 ?_)
    · rw [decide_eq_false_iff_not] at hne; exact hne (by subst e; rfl)
    rw [strB_eq]
    refine ifNot (fun hne => bad fun e => ?_) fun he' => ?_
    · rw [decide_eq_false_iff_not] at hne; exact hne (by subst e; rfl)
    · rw [decide_eq_true_eq] at he he'
      rw [w1 (by omega)]
      refine hC h1 fun j hj => ?_
      rcases Nat.lt_or_ge j i with h3 | h3
      · exact hP j h3
      · obtain rfl : j = i := by omega
        rw [List.getElem?_eq_getElem h1, List.getElem?_eq_getElem h2]
        exact congrArg some (Prod.ext he he')
  · have : a = b := List.ext_getElem? fun j => by
      rcases Nat.lt_or_ge j i with h3 | h3
      · exact hP j h3
      · rw [List.getElem?_eq_none (by omega), List.getElem?_eq_none (by omega)]
    rw [decide_eq_true this] at hk; exact hk
theorem c_rsound (r : Key × Key) : S90 r (soundR r.1 r.2, ()) := pure90 r fun H K hk => by
  unfold A90
  refine retA_i _ (c_less _ _) (lenA_i fun _ => ifD (fun h1 => lenA_i fun _ => ifD (fun h2 => lenA_i fun _ => ifE (fun h0 => ?_) fun h0 => ?_) fun h2 => ?_) fun h1 => ?_) <;> unfold soundR at hk
  · rw [decide_eq_true (p := r.1.length ≤ 16) (by omega), decide_eq_true (p := r.2.length ≤ 16) (by omega), decide_eq_true (p := r.2.length = 0) (by omega)] at hk; exact hk
  · rw [decide_eq_true (p := r.1.length ≤ 16) (by omega), decide_eq_true (p := r.2.length ≤ 16) (by omega), decide_eq_false (p := r.2.length = 0) (by omega)] at hk; exact hk
  · rw [decide_eq_true (p := r.1.length ≤ 16) (by omega), decide_eq_false (p := r.2.length ≤ 16) (by omega)] at hk; exact hk
  · rw [decide_eq_false (p := r.1.length ≤ 16) (by omega)] at hk; exact hk
end Go.Proofs.Ytalniaipgdbbcaa
