/-
  Requests over a row, over data: the program's own functions, and the document's.
-/
import Derived.Test.YtalniaipgdbbcaaDomap
import Derived.Test.YtalniaipgdbbcaaRow2
import Derived.Test.YtalniaipgdbbcaaKt
set_option linter.unusedSimpArgs false
set_option linter.unusedVariables false
namespace Go.Proofs.Ytalniaipgdbbcaa
open Go Go.Gp Go.Ga Go.Th
theorem set_same {H : HP} {n : Nat} {k : AK} {x : k.T} (h : H n = some ⟨k, x⟩) : H.set n k x = H := by
  funext m
  unfold HP.set
  split
  · rename_i e; subst e; exact h.symm
  · rfl
theorem set_set (H : HP) (n : Nat) (k : AK) (x y : k.T) : (H.set n k x).set n k y = H.set n k y := by
  funext m
  unfold HP.set
  split <;> rfl
theorem uStr9 : Try.prog.underlying 9 = some .string := by kernel_rfl
theorem c_bequal (a b : List UInt8) : PureA Try.prog 101 [(false, .row .byte), (false, .row .byte)] (a, b, ()) [(false, .one .bool)] (decide (a = b), ()) := pure_bb rfl fun W x y hx hy => by
  apply call101
  unfold G101
  refine conv_str uBytes (by kernel_rfl) uStr9 hx (conv_str uBytes (by kernel_rfl) uStr9 hy ?_)
  rw [str_eq]
  exact ⟨rfl, rfl⟩
theorem c_omay (r : Req) : S42 r (mayQ r, ()) := pure42 r fun H K hk => by
  unfold A42
  refine JoinA_i ?_
  have fin : ∀ b : Bool, b = fairQ r → (JoinA (V := (Unit × Bool × Int × Bool × Unit) × (Int × Int × Int × List UInt8 × List UInt8 × List UInt8 × List UInt8 × Int × Unit) × Unit) (fun x3 H4 => ifB x3.1.2.2.2.1 (ifB x3.1.2.1 (retA Try.prog 88 [(false, .row .byte)] (x3.2.1.2.2.2.1, ()) [(false, .one .bool)] fun x5 => K (x5.1, ()) H4) (K (false, ()) H4)) (ifB ((x3.1.2.2.1 : Int) == 6) (ifB x3.1.2.1 (retA Try.prog 89 [(true, .cons (.row .byte) (.row .byte))] ((x3.2.1.2.2.2.1, x3.2.1.2.2.2.2.2.2.1), ()) [(false, .one .bool)] fun x6 => ifB x6.1 (ifB (decide (x3.2.1.2.2.2.2.2.2.2.1 ≥ 1)) (K (decide (x3.2.1.2.2.2.2.2.2.2.1 ≤ 100), ()) H4) (K (false, ()) H4)) (K (false, ()) H4)) (K (false, ()) H4)) (K (false, ()) H4))) fun B7 => ifB ((r.2.2.1 : Int) == 1) (B7 (((), b, r.2.2.1, (r.2.2.1 : Int) == 1, ()), (r.1, r.2.1, r.2.2.1, r.2.2.2.1, r.2.2.2.2.1, r.2.2.2.2.2.1, r.2.2.2.2.2.2.1, r.2.2.2.2.2.2.2, ()), ()) H) (ifB ((r.2.2.1 : Int) == 2) (B7 (((), b, r.2.2.1, (r.2.2.1 : Int) == 2, ()), (r.1, r.2.1, r.2.2.1, r.2.2.2.1, r.2.2.2.2.1, r.2.2.2.2.2.1, r.2.2.2.2.2.2.1, r.2.2.2.2.2.2.2, ()), ()) H) (ifB ((r.2.2.1 : Int) == 3) (B7 (((), b, r.2.2.1, (r.2.2.1 : Int) == 3, ()), (r.1, r.2.1, r.2.2.1, r.2.2.2.1, r.2.2.2.2.1, r.2.2.2.2.2.1, r.2.2.2.2.2.2.1, r.2.2.2.2.2.2.2, ()), ()) H) (ifB ((r.2.2.1 : Int) == 4) (B7 (((), b, r.2.2.1, (r.2.2.1 : Int) == 4, ()), (r.1, r.2.1, r.2.2.1, r.2.2.2.1, r.2.2.2.2.1, r.2.2.2.2.2.1, r.2.2.2.2.2.2.1, r.2.2.2.2.2.2.2, ()), ()) H) (B7 (((), b, r.2.2.1, (r.2.2.1 : Int) == 5, ()), (r.1, r.2.1, r.2.2.1, r.2.2.2.1, r.2.2.2.2.1, r.2.2.2.2.2.1, r.2.2.2.2.2.2.1, r.2.2.2.2.2.2.2, ()), ()) H))))) := fun b hb => by
    refine JoinA_i ?_
    unfold mayQ at hk
    rw [← hb] at hk
    have tail : ∀ c : Bool, c = (decide (1 ≤ r.kind) && decide (r.kind ≤ 5)) → ifB c (ifB b (retA Try.prog 88 [(false, .row .byte)] (r.key, ()) [(false, .one .bool)] fun x5 => K (x5.1, ()) H) (K (false, ()) H)) (ifB ((r.kind : Int) == 6) (ifB b (retA Try.prog 89 [(true, .cons (.row .byte) (.row .byte))] ((r.key, r.to), ()) [(false, .one .bool)] fun x6 => ifB x6.1 (ifB (decide (r.limit ≥ 1)) (K (decide (r.limit ≤ 100), ()) H) (K (false, ()) H)) (K (false, ()) H)) (K (false, ()) H)) (K (false, ()) H)) := fun c hc => by
      refine ifB_i (fun h => ?_) fun h => ?_
      · rw [h] at hc
        have hc' := hc.symm
        rw [Bool.and_eq_true, decide_eq_true_eq, decide_eq_true_eq] at hc'
        rw [if_neg (by omega), ← hc, Bool.true_and] at hk
        refine ifB_i (fun h2 => retA_i _ (c_kmay _) ?_) fun h2 => ?_
        · rw [h2, Bool.true_and] at hk; exact hk
        · rw [h2, Bool.false_and] at hk; exact hk
      · rw [h] at hc
        refine ifE (fun h6 => ?_) fun h6 => ?_
        · rw [if_pos h6] at hk
          refine ifB_i (fun h2 => retA_i _ (c_ksound _) (ifB_i (fun h3 => ifD (fun h4 => ?_) fun h4 => ?_) fun h3 => ?_)) fun h2 => ?_
          · have h3 : soundR r.key r.to = true := h3
            rw [h2, h3, decide_eq_true (show 1 ≤ r.limit from h4)] at hk; exact hk
          · have h3 : soundR r.key r.to = true := h3
            rw [h2, h3, decide_eq_false (show ¬ 1 ≤ r.limit from h4)] at hk; exact hk
          · have h3 : soundR r.key r.to = false := h3
            rw [h2, h3] at hk; exact hk
          · rw [h2, Bool.false_and] at hk; exact hk
        · rw [if_neg h6, ← hc, Bool.false_and, Bool.and_false] at hk; exact hk
    have kd : ∀ q : Int, 1 ≤ q → q ≤ 5 → r.kind = q → ((r.kind : Int) == q) = (decide (1 ≤ r.kind) && decide (r.kind ≤ 5)) := fun q h1 h2 h => by
      rw [h, decide_eq_true h1, decide_eq_true h2]; simp
    refine ifE (fun h => tail _ (kd 1 (by omega) (by omega) h)) fun n1 => ifE (fun h => tail _ (kd 2 (by omega) (by omega) h)) fun n2 => ifE (fun h => tail _ (kd 3 (by omega) (by omega) h)) fun n3 => ifE (fun h => tail _ (kd 4 (by omega) (by omega) h)) fun n4 => tail _ ?_
    show ((r.kind : Int) == 5) = _
    have n1 : r.kind ≠ 1 := n1
    have n2 : r.kind ≠ 2 := n2
    have n3 : r.kind ≠ 3 := n3
    have n4 : r.kind ≠ 4 := n4
    rw [Bool.eq_iff_iff]
    simp only [beq_iff_eq, Bool.and_eq_true, decide_eq_true_eq]
    omega
  refine ifD (fun h1 => ifD (fun h2 => retA_i _ (c_kfair _) (ifB_i (fun h3 => retA_i _ (c_kfair _) (fin _ ?_)) fun h3 => fin _ ?_)) fun h2 => fin _ ?_) fun h1 => fin _ ?_
  · have h3 : fairB r.val = true := h3
    show fairB r.old = fairQ r
    unfold fairQ
    rw [h3, decide_eq_true (show (0 : Int) ≤ r.1 from h1), decide_eq_true (show (0 : Int) ≤ r.2.1 from h2)]; rfl
  · have h3 : fairB r.val = false := h3
    unfold fairQ
    rw [h3]; simp
  · unfold fairQ
    rw [decide_eq_false (show ¬ (0 : Int) ≤ r.2.1 from h2)]; simp
  · unfold fairQ
    rw [decide_eq_false (show ¬ (0 : Int) ≤ r.1 from h1)]; simp
theorem c_qmay (r : Req) : S43 r (mayQ r, ()) := pure43 r fun H K hk => by
  unfold A43
  have no : mayQ r = false → K (false, ()) H := fun h => by rw [h] at hk; exact hk
  refine ifD (fun h1 => no ?_) fun h1 => ifD (fun h2 => no ?_) fun h2 => lenA_i fun _ => ifD (fun h3 => no ?_) fun h3 => lenA_i fun _ => ifD (fun h4 => no ?_) fun h4 => ifD (fun h5 => no ?_) fun h5 => ifD (fun h6 => no ?_) fun h6 => ?_
  · have h1 : r.1 < (0 : Int) := h1
    unfold mayQ fairQ; rw [decide_eq_false (show ¬ (0 : Int) ≤ r.1 by omega)]; simp
  · have h2 : r.2.1 < (0 : Int) := h2
    unfold mayQ fairQ; rw [decide_eq_false (show ¬ (0 : Int) ≤ r.2.1 by omega)]; simp
  · have h3 : (r.val.length : Int) > 32 := h3
    unfold mayQ fairQ; rw [show fairB r.val = false from decide_eq_false (by omega)]; simp
  · have h4 : (r.old.length : Int) > 32 := h4
    unfold mayQ fairQ; rw [show fairB r.old = false from decide_eq_false (by omega)]; simp
  · unfold mayQ
    have h5 : r.kind < 1 := h5
    rw [if_neg (by omega), decide_eq_false (show ¬ 1 ≤ r.kind by omega)]; simp
  · unfold mayQ
    have h6 : r.kind > 6 := h6
    rw [if_neg (by omega), decide_eq_false (show ¬ r.kind ≤ 5 by omega)]; simp
  have h5 : ¬ r.kind < 1 := h5
  have h6 : ¬ r.kind > 6 := h6
  have h1 : ¬ r.1 < (0 : Int) := h1
  have h2 : ¬ r.2.1 < (0 : Int) := h2
  have h3 : ¬ (r.val.length : Int) > 32 := h3
  have h4 : ¬ (r.old.length : Int) > 32 := h4
  have hf : fairQ r = true := by
    unfold fairQ
    rw [decide_eq_true (show (0 : Int) ≤ r.1 by omega), decide_eq_true (show (0 : Int) ≤ r.2.1 by omega), show fairB r.val = true from decide_eq_true (by omega), show fairB r.old = true from decide_eq_true (by omega)]; rfl
  unfold mayQ at hk
  rw [hf, Bool.true_and] at hk
  refine ifE (fun h7 => retA_i _ (c_rsound _) (ifB_i (fun h8 => ifD (fun h9 => ?_) fun h9 => ?_) fun h8 => ?_)) fun h7 => retA_i _ (c_may _) ?_
  · have h8 : soundR r.key r.to = true := h8
    rw [if_pos (show r.kind = 6 from h7), h8, decide_eq_true (show 1 ≤ r.limit from h9)] at hk; exact hk
  · have h8 : soundR r.key r.to = true := h8
    rw [if_pos (show r.kind = 6 from h7), h8, decide_eq_false (show ¬ 1 ≤ r.limit from h9)] at hk; exact hk
  · have h8 : soundR r.key r.to = false := h8
    rw [if_pos (show r.kind = 6 from h7), h8] at hk; exact hk
  · have h7 : r.kind ≠ 6 := h7
    rw [if_neg h7, decide_eq_true (show 1 ≤ r.kind by omega), decide_eq_true (show r.kind ≤ 5 by omega)] at hk; exact hk
end Go.Proofs.Ytalniaipgdbbcaa
