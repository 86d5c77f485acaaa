/-
  Keys and rows over data: what compares, finds, puts and deletes (the document's answer, and the program's own).
-/
import Derived.Test.YteljallgjmhkdaaDrow
import Derived.Test.YteljallgjmhkdaaKd
import Derived.Test.YteljallgjmhkdaaKt
set_option linter.unusedSimpArgs false
set_option linter.unusedVariables false
namespace Go.Proofs.Yteljallgjmhkdaa
open Go Go.Gp Go.Ga Go.Th
theorem c_same (a b : Key) : S27 a b (decide (a = b), ()) := pure27 a b fun H K hk => by unfold A27; rw [strB_eq]; exact hk
theorem c_may (a : Key) : S14 a (mayB a, ()) := pure14 a fun H K hk => (by
  unfold A14
  refine lenA_i fun _ => ifD (fun h => lenA_i fun _ => ?_) fun h => ?_
  · have : mayB a = decide ((a.length : Int) ≤ 16) := by unfold mayB; rw [Bool.eq_iff_iff]; simp; omega
    rw [← this]; exact hk
  · have : mayB a = false := by unfold mayB; simp; omega
    rw [← this]; exact hk)
theorem c_less (a b : Key) : S28 a b (lessL a b, ()) := pure28 a b fun H K hk => (by
  unfold A28
  refine loop_n a.length (fun i => ((a, b, (i : Int), ()), ())) (fun i => ∀ j, j < i → a[j]? = b[j]?) rfl (fun j h => absurd h (Nat.not_lt_zero _)) fun i C hi hP hC => ?_
  dsimp only at hC ⊢
  have fin : ∀ {A : Prop}, (a.length ≤ i ∨ b.length ≤ i) → (K (decide ((a.length : Int) < (b.length : Int)), ()) H → A) → A := fun h hA => hA (by
    have : lessL a b = decide (a.length < b.length) := lessL_len a b fun j h1 h2 => hP j (by omega)
    have e : decide ((a.length : Int) < (b.length : Int)) = decide (a.length < b.length) := by rw [decide_eq_decide]; omega
    rw [e, ← this]; exact hk)
  refine lenA_i fun _ => ifLt (fun h1 => ?_) fun h1 => fin (.inl h1) fun h => lenA_i fun _ => lenA_i fun _ => h
  refine lenA_i fun _ => ifLt (fun h2 => ?_) fun h2 => fin (.inr h2) fun h => lenA_i fun _ => lenA_i fun _ => h
  refine atA_lt h1 (atA_lt h2 (ifN (fun h => ?_) fun h => ?_))
  · refine atA_lt h1 (atA_lt h2 ?_)
    rw [u8_lt, ← lessL_diff i a b a[i] b[i] hP (List.getElem?_eq_getElem h1) (List.getElem?_eq_getElem h2) (u8_ne.1 h)]
    exact hk
  · rw [w1 (by omega)]
    refine hC h1 fun j hj => ?_
    rcases Nat.lt_or_ge j i with h3 | h3
    · exact hP j h3
    · have : j = i := by omega
      subst this
      rw [List.getElem?_eq_getElem h1, List.getElem?_eq_getElem h2]
      congr 1
      exact UInt8.toNat_inj.1 (by omega))
theorem c_few (l : List Pr) (n : Int) : S5 l n (fewB l n, ()) := pure5 l n fun H K hk => by
  unfold A5
  have bad : ∀ {i : Nat} (hi : i < l.length), (100 < l[i].1.length ∨ 100 < l[i].2.length) → K (false, ()) H := fun {i} hi h => by
    have : fewB l n = false := by
      unfold fewB
      rw [allN_false hi (by simp only [List.getElem?_eq_getElem hi]; rcases h with h | h <;> simp <;> omega)]
      rfl
    rw [← this]; exact hk
  refine loop_n l.length (fun i => ((l, n, (i : Int), ()), ())) (fun i => ∀ j p, j < i → l[j]? = some p → p.1.length ≤ 100 ∧ p.2.length ≤ 100) rfl (fun j p h => absurd h (Nat.not_lt_zero _)) fun i C hi hP hC => ?_
  dsimp only at hC ⊢
  refine lenA_i fun _ => ifLt (fun h1 => ?_) fun h1 => ?_
  · refine atA_lt h1 (lenA_i fun _ => ifD (fun h => bad h1 (.inl (by omega))) fun h => atA_lt h1 (lenA_i fun _ => ifD (fun h' => bad h1 (.inr (by omega))) fun h' => ?_))
    rw [w1 (by omega)]
    refine hC h1 fun j p hj hp => ?_
    rcases Nat.lt_or_ge j i with h3 | h3
    · exact hP j p h3 hp
    · obtain rfl : j = i := by omega
      rw [List.getElem?_eq_getElem h1] at hp
      injection hp with hp
      subst hp
      exact ⟨by omega, by omega⟩
  · refine lenA_i fun _ => ?_
    have : fewB l n = decide ((l.length : Int) ≤ n) := by
      unfold fewB
      rw [allN_true fun j hj => ?_, Bool.true_and]
      have := hP j _ (by omega) (List.getElem?_eq_getElem hj)
      simp [hj, this.1, this.2]
    rw [← this]; exact hk
theorem c_rfind (l : List Pr) (k : Key) : S20 l k ((fr l k l.length : Nat), atB l (fr l k l.length) k, ()) := pure20 l k fun H K hk => by
  unfold A20
  refine loop_n l.length (fun i => ((l, k, (fr l k i : Nat), (i : Int), ()), ())) (fun _ => True) rfl trivial fun i C hi _ hC => ?_
  dsimp only at hC ⊢
  refine lenA_i fun _ => ifLt (fun h1 => ?_) fun h1 => ?_
  · have e : fr l k (i + 1) = if lessL l[i].1 k = true then i + 1 else fr l k i := by
      show (match l[i]? with | some p => if lessL p.1 k = true then i + 1 else fr l k i | none => fr l k i) = _
      rw [List.getElem?_eq_getElem h1]
    refine atA_lt h1 (retA_i _ (c_less _ _) (ifB_i (fun hl => ?_) fun hl => ?_))
    · simp only at hl
      rw [w1 (by omega)]
      have := hC h1 trivial
      rwa [e, if_pos hl] at this
    · simp only at hl
      rw [w1 (by omega)]
      have := hC h1 trivial
      rwa [e, if_neg (by rw [hl]; simp)] at this
  · obtain rfl : i = l.length := by omega
    refine lenA_i fun _ => ifE (fun he => ?_) fun he => ?_
    · have hn : l[fr l k l.length]? = none := List.getElem?_eq_none (by omega)
      unfold atB at hk
      rw [hn] at hk
      exact hk
    · have hlt : fr l k l.length < l.length := by have := fr_le l k l.length; omega
      refine atA_lt hlt (retA_i _ (c_same _ _) ?_)
      unfold atB at hk
      rw [List.getElem?_eq_getElem hlt] at hk
      exact hk
theorem c_rdelete (l : List Pr) (k : Key) (hl : l.length ≤ 1000000) : S19 l k (delR l k, ()) := pure19 l k fun H K hk => by
  unfold A19
  refine loop_n l.length (fun i => ((l, k, delR (l.take i) k, (i : Int), ()), ())) (fun _ => True) (by simp [delR]) trivial fun i C hi _ hC => ?_
  dsimp only at hC ⊢
  refine lenA_i fun _ => ifLt (fun h1 => ?_) fun h1 => ?_
  · have e := delR_take (k := k) h1
    refine atA_lt h1 (retA_i _ (c_same _ _) (ifNot (fun hs => atA_lt h1 (appA_i ?_ ?_)) fun hs => ?_))
    · have : (delR (l.take i) k).length ≤ i := by
        have := List.length_filter_le (fun p : Pr => p.1 != k) (l.take i)
        unfold delR; rw [List.length_take] at this; omega
      first | omega | (simp only [List.length_singleton]; omega)
    · simp only [decide_eq_false_iff_not] at hs
      rw [w1 (by omega)]
      have := hC h1 trivial
      rwa [e, if_neg hs] at this
    · simp only [decide_eq_true_eq] at hs
      rw [w1 (by omega)]
      have := hC h1 trivial
      rwa [e, if_pos hs, List.append_nil] at this
  · obtain rfl : i = l.length := by omega
    rw [List.take_length]; exact hk
theorem c_rput (l : List Pr) (k v : Key) (hs : SortK (keys l)) (hl : l.length ≤ 1000000) : S15 l k v (putR l k v, ()) := pure15 l k v fun H K hk => by
  unfold A15
  have hdl : (delR l k).length ≤ 1000000 := Nat.le_trans (List.length_filter_le _ _) hl
  have hb := lb_le (delR l k) k
  refine retA_i _ (c_rdelete l k hl) (retA_i _ (c_rfind _ k) ?_)
  rw [fr_all (sort_del hs k)]
  simp only
  refine slcA_z (a := 0) (b := lb (delR l k) k) rfl rfl (Nat.zero_le _) hb (appA_i (by simp [sub]; omega) (appA_i (by simp [sub]; omega) (slcA_z (a := lb (delR l k) k) (b := (delR l k).length) rfl rfl hb (Nat.le_refl _) (appA_i (by simp [sub]; omega) ?_))))
  rw [sub_zero, sub_to_end, Nat.sub_zero, List.nil_append, put_rest hs]
  exact hk
theorem c_rrow (l : List Pr) (hl : l.length ≤ 1000000) : S7 l (rowOf l, ()) := pure7 l fun H K hk => by
  unfold A7
  refine loop_n l.length (fun i => ((l, rowOf (l.take i), (i : Int), ()), ())) (fun _ => True) (by simp [rowOf]) trivial fun i C hi _ hC => ?_
  dsimp only at hC ⊢
  refine lenA_i fun _ => ifLt (fun h1 => ?_) fun h1 => ?_
  · have hC := hC h1 trivial
    have e := rowOf_take h1
    have hlen := rowOf_len (l.take i)
    rw [List.length_take] at hlen
    refine atA_lt h1 (retA_i _ (c_may _) (JoinA_i ?_))
    have fin : ∀ b : Bool, b = (mayB l[i].1 && fairB l[i].2) → ifB b (atA l (i : Int) fun l9 => atA l (i : Int) fun l10 => retA Try.prog 15 [(false, .row (.cons (.row .byte) (.row .byte))), (false, .row .byte), (false, .row .byte)] (rowOf (l.take i), l9.1, l10.2, ()) [(false, .row (.cons (.row .byte) (.row .byte)))] fun x11 => C ((l, x11.1, IntKind.i64.wrap ((i : Int) + 1), ()), ()) H) (C ((l, rowOf (l.take i), IntKind.i64.wrap ((i : Int) + 1), ()), ()) H) := fun b hb => by
      rw [w1 (by omega)]
      refine ifB_i (fun h => ?_) fun h => ?_
      · refine atA_lt h1 (atA_lt h1 (retA_i _ (c_rput _ _ _ (rowOf_row _).sort (by omega)) ?_))
        rw [e] at hC
        unfold rowStep at hC
        rwa [if_pos (by rw [← hb]; exact h)] at hC
      · rw [e] at hC
        unfold rowStep at hC
        rwa [if_neg (by rw [← hb, h]; simp)] at hC
    refine ifB_i (fun hm => atA_lt h1 (lenA_i fun _ => fin _ ?_)) fun hm => fin _ ?_
    · simp only at hm
      rw [hm]
      unfold fairB
      rw [Bool.true_and, decide_eq_decide]; omega
    · simp only at hm
      rw [hm]; rfl
  · obtain rfl : i = l.length := by omega
    rw [List.take_length]; exact hk
end Go.Proofs.Yteljallgjmhkdaa
