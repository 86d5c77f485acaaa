/-
  Shares, over data.
-/
import Derived.Test.YtjbpgebjcehfkaaWeigh1
set_option linter.unusedSimpArgs false
set_option linter.unusedVariables false
namespace Go.Proofs.Ytjbpgebjcehfkaa
open Go Go.Gp Go.Ga Go.Th
/-- What a sum of what is more than nought may come to. -/
def SumN (h : List Int) : Nat → Nat → Prop
  | 0, r => r = 0
  | i + 1, r => ∃ a, SumN h i a ∧ (match h[i]? with | some n => (if 0 < n then FltR .add a (fInt .f64 n) r else r = a) | none => r = a)
theorem SumN.like {h : List Int} : ∀ {i a b : Nat}, SumN h i a → SumN h i b → Like a b
  | 0, a, b, ha, hb => .inl (Eq.trans (b := 0) ha (Eq.symm hb))
  | i + 1, a, b, ⟨a', h1, h2⟩, ⟨b', h3, h4⟩ => by
    have hl := SumN.like h1 h3
    cases hh : h[i]? with
    | none => rw [hh] at h2 h4; simp only at h2 h4; subst h2 h4; exact hl
    | some n =>
      rw [hh] at h2 h4
      simp only at h2 h4
      by_cases hn : 0 < n
      · rw [if_pos hn] at h2 h4
        exact FltR.like (.inl rfl) h2 h4 hl (.inl rfl)
      · rw [if_neg hn] at h2 h4
        subst h2 h4; exact hl
def DivR (n : Int) (all r : Nat) : Prop := if 0 < n then FltR .quo (fInt .f64 n) all r else if n = 0 then r = 0 else nanB r = true
theorem DivR.like {n : Int} {a b r s : Nat} (h : DivR n a r) (h' : DivR n b s) (hl : Like a b) : Like r s := by
  unfold DivR at h h'
  by_cases h1 : 0 < n
  · rw [if_pos h1] at h h'
    exact FltR.like (.inr rfl) h h' (.inl rfl) hl
  · rw [if_neg h1] at h h'
    by_cases h2 : n = 0
    · rw [if_pos h2] at h h'; exact .inl (h.trans h'.symm)
    · rw [if_neg h2] at h h'; exact .inr ⟨h, h'⟩
theorem nan9 : nanB 9221120237041090561 = true := by kernel_rfl
theorem c_share (l : List Int) (hl : l.length ≤ 300) (H : HP) (K : HT [(false, .row (.one (.flt .f64)))] → HP → Prop) (hk : ∀ (m : List Nat) (all : Nat), m.length = l.length → SumN l l.length all → (∀ (j : Nat) n r, l[j]? = some n → m[j]? = some r → DivR n all r) → K (m, ()) H) : C10 l H K := callA10 l H K (by
  unfold A10
  refine lenA_i fun _ => ?_
  refine loop_h l.length (fun i x H' => H' = H ∧ ∃ a, SumN l i a ∧ x = ((l, a, l, (l.length : Int), (i : Int), ()), ())) ⟨rfl, 0, rfl, rfl⟩ ?_
  rintro i x H' C hi ⟨rfl, a, ha, rfl⟩ hC
  dsimp only at hC ⊢
  refine ifLt (fun h1 => atA_lt h1 (ifD (fun hp => ?_) fun hp => ?_)) fun h1 => ?_
  · intro r hr
    rw [w1 (by omega)]
    exact hC h1 _ _ ⟨rfl, r, ⟨a, ha, by rw [List.getElem?_eq_getElem h1]; simp only; rw [if_pos (show 0 < l[i] from hp)]; exact hr⟩, rfl⟩
  · rw [w1 (by omega)]
    exact hC h1 _ _ ⟨rfl, a, ⟨a, ha, by rw [List.getElem?_eq_getElem h1]; simp only; rw [if_neg (show ¬ 0 < l[i] from hp)]; trivial⟩, rfl⟩
  obtain rfl : i = l.length := by omega
  refine lenA_i fun _ => ?_
  clear hC
  refine loop_h l.length (fun i x H'' => H'' = H' ∧ ∃ m : List Nat, m.length = i ∧ (∀ (j : Nat) n r, l[j]? = some n → m[j]? = some r → DivR n a r) ∧ x = ((a, m, l, (l.length : Int), (i : Int), ()), ())) ⟨rfl, [], rfl, fun j n r _ h => by simp at h, rfl⟩ ?_
  rintro i x H'' C hi' ⟨rfl, m, hm, hd, rfl⟩ hC
  dsimp only at hC ⊢
  refine ifLt (fun h1 => ?_) fun h1 => ?_
  · have step : ∀ r, DivR l[i] a r → C ((a, m ++ [r], l, (l.length : Int), IntKind.i64.wrap ((i : Int) + 1), ()), ()) H'' := fun r hr => by
      rw [w1 (by omega)]
      refine hC h1 _ _ ⟨rfl, m ++ [r], by simp [hm], fun j n r' hj hr' => ?_, rfl⟩
      rcases Nat.lt_or_ge j m.length with h3 | h3
      · rw [List.getElem?_append_left h3] at hr'
        exact hd j n r' hj hr'
      · rw [List.getElem?_append_right h3] at hr'
        have hj0 : j - m.length = 0 := by
          rcases Nat.eq_zero_or_pos (j - m.length) with h | h
          · exact h
          · rw [List.getElem?_eq_none (by simp only [List.length_cons, List.length_nil]; omega)] at hr'; cases hr'
        rw [hj0] at hr'
        have : r = r' := by simpa using hr'
        subst this
        obtain rfl : j = i := by omega
        rw [List.getElem?_eq_getElem h1] at hj
        injection hj with hj
        rw [← hj]; exact hr
    refine atA_lt h1 (ifD (fun hp => fun r hr => appA_i (by omega) (step r ?_)) fun hp => ifE (fun h0 => appA_i (by omega) (step 0 ?_)) fun h0 => retA_i _ c_nan (appA_i (by omega) (step _ ?_)))
    · unfold DivR; rw [if_pos (show 0 < l[i] from hp)]; exact hr
    · unfold DivR; rw [if_neg (show ¬ 0 < l[i] from hp), if_pos (show l[i] = 0 from h0)]
    · unfold DivR; rw [if_neg (show ¬ 0 < l[i] from hp), if_neg (show ¬ l[i] = 0 from h0)]; exact nan9
  · obtain rfl : i = l.length := by omega
    exact hk m a hm ha hd)
theorem c_refLike (a b : Nat) (h : Like a b) : S8 a b (0, ()) := pure8 a b fun H K hk => by
  unfold A8
  rw [fEq_self, fEq_self, Bool.not_not, Bool.not_not]
  cases hn : nanB a with
  | true =>
    have hb : nanB b = true := by
      rcases h with rfl | h
      · exact hn
      · exact h.2
    exact ifT rfl (ifF rfl (ifF (by rw [hb]; rfl) hk))
  | false =>
    have e : a = b := by
      rcases h with h | h
      · exact h
      · rw [hn] at h; cases h.1
    subst e
    refine ifF rfl (ifF hn (ifF (fLt_self a) (ifF (fGt_self a) (ifNot (fun _ => hk) fun _ => fun r hr => fun r' hr' => ?_))))
    have hl : Like r r' := FltR.like (op := .quo) (.inr rfl) hr hr' (.inl rfl) (.inl rfl)
    have h2 : fLt .f64 r r' = false ∧ fGt .f64 r r' = false := by
      rcases hl with rfl | hl
      · exact ⟨fLt_self r, fGt_self r⟩
      · exact (f_nan (.inl hl.1)).2
    exact ifF h2.1 (ifF h2.2 hk)
theorem c_sameF (a b : Nat) (h : Like a b) : S11 a b (true, ()) := pure11 a b fun H K hk => by
  unfold A11
  exact retA_i _ (c_refLike a b h) hk
theorem weighShares_walk (l : List Int) (H : HP) (K : HT [(false, .one .bool)] → HP → Prop) (hk : K (true, ()) H) : A4 l H K := by
  unfold A4
  refine retA_i _ c_up03 (lenA_i fun _ => ifD (fun _ => hk) fun hlen => c_share l (by omega) _ _ fun m all hm hs hd => ?_)
  dsimp only
  refine loop_h l.length (fun i x H' => H' = H ∧ ∃ a, SumN l i a ∧ x = ((l, true, m, a, (i : Int), ()), ())) ⟨rfl, 0, rfl, rfl⟩ ?_
  rintro i x H C hi ⟨rfl, a, ha, rfl⟩ hC
  dsimp only at hC ⊢
  refine lenA_i fun _ => ifLt (fun h1 => atA_lt h1 (ifD (fun hp => atA_lt h1 ?_) fun hp => ?_)) fun h1 => ?_
  · intro r hr
    rw [w1 (by omega)]
    exact hC h1 _ _ ⟨rfl, r, ⟨a, ha, by rw [List.getElem?_eq_getElem h1]; simp only; rw [if_pos (show 0 < l[i] from hp)]; exact hr⟩, rfl⟩
  · rw [w1 (by omega)]
    exact hC h1 _ _ ⟨rfl, a, ⟨a, ha, by rw [List.getElem?_eq_getElem h1]; simp only; rw [if_neg (show ¬ 0 < l[i] from hp)]; trivial⟩, rfl⟩
  obtain rfl : i = l.length := by omega
  have hall := SumN.like hs ha
  refine lenA_i fun _ => lenA_i fun _ => ifF (by rw [hm]; simp) ?_
  clear hC
  refine loop_n l.length (fun i => ((l, true, m, a, (i : Int), ()), ())) (fun _ => True) rfl trivial fun i C hi' _ hC => ?_
  dsimp only at hC ⊢
  refine lenA_i fun _ => ifLt (fun h1 => ?_) fun h1 => hk
  have hC := hC h1 trivial
  have h2 : i < m.length := by omega
  have hdi := hd i _ _ (List.getElem?_eq_getElem h1) (List.getElem?_eq_getElem h2)
  rw [← w1 (by omega)] at hC
  have fin : ∀ r, DivR l[i] a r → Like m[i] r := fun r hr => hdi.like hr hall
  refine JoinA_i (atA_lt h1 (ifD (fun hp => atA_lt h1 fun r hr => ?_) fun hp => ?_))
  · refine JoinA_i (atA_lt h1 (ifD (fun hn => ?_) fun hn => atA_lt h2 (retA_i _ (c_sameF _ _ (fin r ?_)) (ifF rfl hC))))
    · exfalso
      have hp : l[i] > 0 := hp
      have hn : l[i] < 0 := hn
      omega
    · unfold DivR; rw [if_pos (show 0 < l[i] from hp)]; exact hr
  · refine JoinA_i (atA_lt h1 (ifD (fun hn => c_none _ _ fun r hr _ => atA_lt h2 (retA_i _ (c_sameF _ _ (fin r ?_)) (ifF rfl hC))) fun hn => atA_lt h2 (retA_i _ (c_sameF _ _ (fin 0 ?_)) (ifF rfl hC))))
    · have hn : l[i] < 0 := hn
      unfold DivR; rw [if_neg (show ¬ 0 < l[i] from hp), if_neg (by omega)]; exact hr
    · have hn : ¬ l[i] < 0 := hn
      have hp : ¬ l[i] > 0 := hp
      unfold DivR; rw [if_neg (show ¬ 0 < l[i] from hp), if_pos (by omega)]
theorem fitInts : fitT Try.prog 9 (.row (.one (.int .i64))) 27 = true := by kernel_rfl
theorem weighShares_row (W : World) (a : Sl) (n0 : Nat) (h0 : RdT Try.prog W n0 27 [.slice a.a a.len a.cap]) :
    callG Try.prog 4 [.slice a.a a.len a.cap] [.one .bool] W fun x W' => x = (true, ()) ∧ Keeps [] W W' := by
  obtain ⟨x, hx, _⟩ := fit_dat _ fitInts h0
  exact callG_of (callA4 x _ _ (weighShares_walk x _ _ rfl)) (arg_cons rfl rfl hx rfl arg_nil)
end Go.Proofs.Ytjbpgebjcehfkaa
