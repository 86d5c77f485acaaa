/-
  Requests over a row: all of them, and the laws' walks.
-/
import Derived.Test.YtalniaipgdbbcaaOmap1
set_option linter.unusedSimpArgs false
set_option linter.unusedVariables false
namespace Go.Proofs.Ytalniaipgdbbcaa
open Go Go.Gp Go.Ga Go.Th
theorem c_all (l : List Pr) (reqs : List Req) (most : Int) (hr : IsRow l) (hl : l.length ≤ 1000) (hq : reqs.length ≤ 1000) : S37 l reqs most ((allQ most l reqs).1, (allQ most l reqs).2, ()) := pure37 l reqs most fun H K hk => by
  unfold A37
  refine retA_i _ (c_merge0 l (by omega) hr.short) fun n hn => lenA_i fun _ => ?_
  refine loop_h reqs.length (fun i x H' => x = ((n, (allQ most l (reqs.take i)).2, reqs, (reqs.length : Int), (i : Int), ()), ()) ∧ H' = H.set n STk ((allQ most l (reqs.take i)).1, most)) ⟨by simp [allQ], by simp [allQ]⟩ ?_
  rintro i x H' C hi ⟨rfl, rfl⟩ hC
  dsimp only at hC ⊢
  refine ifLt (fun h1 => atA_lt h1 (retA_i _ (c_omay reqs[i]) ?_)) fun h1 => ?_
  · have hC := hC h1
    obtain ⟨g1, g2⟩ := allQ_row most (reqs.take i) hr
    have gl := allQ_len most l (reqs.take i)
    rw [List.length_take] at g2 gl
    have e := allQ_snoc most l (reqs.take i) reqs[i]
    rw [← take_snoc h1] at e
    refine ifNot (fun hm => appA_i (by omega) ?_) fun hm => ?_
    · rw [w1 (by omega)]
      have hm : mayQ reqs[i] = false := hm
      have e2 : doQ (allQ most l (reqs.take i)).1 reqs[i] most = ((allQ most l (reqs.take i)).1, codeQ 1) := if_neg (by rw [hm]; simp)
      exact hC _ _ ⟨by rw [e, e2]; rfl, by rw [e, e2]⟩
    · have hm : mayQ reqs[i] = true := hm
      have e2 : doQ (allQ most l (reqs.take i)).1 reqs[i] most = doM (allQ most l (reqs.take i)).1 reqs[i] most := if_pos hm
      refine c_do (set_at _ _ _ _) g1 (by omega) reqs[i] hm _ (appA_i (by omega) ?_)
      rw [set_set, w1 (by omega)]
      exact hC _ _ ⟨by rw [e, e2], by rw [e, e2]⟩
  · obtain rfl : i = reqs.length := by omega
    refine ldO_i (set_at _ _ _ _) ?_
    rw [set_del hn, List.take_length]; exact hk
theorem c_odo (l : List Pr) (r : Req) (most : Int) (hr : IsRow l) (hl : l.length ≤ 1000) : S45 l r most ((doQ l r most).1, (doQ l r most).2, ()) := pure45 l r most fun H K hk => by
  unfold A45
  exact retA_i _ (c_all l [r] most hr hl (by simp)) (atA_g (i := 0) rfl rfl hk)
def readsQ (r : Req) : Bool := ((r.kind : Int) == 1) || ((r.kind : Int) == 6)
theorem c_reads (r : Req) : S44 r (readsQ r, ()) := pure44 r fun H K hk => by
  unfold A44
  unfold readsQ at hk
  refine ifB_i (fun h => ?_) fun h => ?_
  · have h : ((r.kind : Int) == 1) = true := h
    rw [h] at hk; exact hk
  · have h : ((r.kind : Int) == 1) = false := h
    rw [h] at hk; exact hk
theorem c_qdo (l : List Pr) (r : Req) (most : Int) (hs : SortK (keys l)) (hl : l.length ≤ 1000000) : S46 l r most ((doQ l r most).1, (doQ l r most).2, ()) := pure46 l r most fun H K hk => by
  unfold A46
  have tail : K ((putQ l r most).1, (putQ l r most).2, ()) H → ifB (! (hasR l r.key)) (lenA l.length fun (n6 : Int) => ifB (decide (n6 ≥ most)) (K (l, (5, false, [], [], 0), ()) H) (retA Try.prog 84 [(false, .row (.cons (.row .byte) (.row .byte))), (false, .row .byte), (false, .row .byte)] (l, r.key, r.val, ()) [(false, .row (.cons (.row .byte) (.row .byte)))] fun x7 => K (x7.1, foundQ l r.key, ()) H)) (retA Try.prog 84 [(false, .row (.cons (.row .byte) (.row .byte))), (false, .row .byte), (false, .row .byte)] (l, r.key, r.val, ()) [(false, .row (.cons (.row .byte) (.row .byte)))] fun x8 => K (x8.1, foundQ l r.key, ()) H) := fun hp => by
    unfold putQ at hp
    refine ifNot (fun h => lenA_i fun _ => ifD (fun hge => ?_) fun hlt => retA_i _ (c_rput l r.key r.val hs hl) ?_) fun h => retA_i _ (c_rput l r.key r.val hs hl) ?_
    · rw [if_pos ⟨h, by omega⟩] at hp; exact hp
    · rw [if_neg (fun hc => hlt hc.2)] at hp; exact hp
    · rw [if_neg (fun hc => by rw [h] at hc; cases hc.1)] at hp; exact hp
  refine retA_i _ (c_qmay r) (ifNot (fun hm => ?_) fun hm => ?_)
  · have hm : mayQ r = false := hm
    unfold doQ at hk
    rw [if_neg (by rw [hm]; simp)] at hk
    exact hk
  have hm : mayQ r = true := hm
  unfold doQ at hk
  rw [if_pos hm] at hk
  unfold doM at hk
  refine ifE (fun h6 => retA_i _ (c_rslice l (r.key, r.to) r.limit hl) ?_) fun h6 => retA_i _ (c_rget l r.key hs) (JoinA_i ?_)
  · rw [if_pos (show r.kind = 6 from h6)] at hk; exact hk
  rw [if_neg (show ¬ r.kind = 6 from h6)] at hk
  refine ifE (fun h1 => ?_) fun h1 => ifE (fun h3 => retA_i _ (c_rdelete l r.key hl) ?_) fun h3 => ifE (fun h4 => ifB_i (fun hh => ?_) fun hh => tail ?_) fun h4 => ifE (fun h5 => ifNot (fun hh => ?_) fun hh => ?_) fun h5 => tail ?_
  · rw [if_pos (show r.kind = 1 from h1)] at hk; exact hk
  · rw [if_neg (show ¬ r.kind = 1 from h1), if_pos (show r.kind = 3 from h3)] at hk; exact hk
  · rw [if_neg (show ¬ r.kind = 1 from h1), if_neg (show ¬ r.kind = 3 from h3), if_pos (show r.kind = 4 from h4), if_pos (show hasR l r.key = true from hh)] at hk; exact hk
  · have hh : hasR l r.key = false := hh
    rw [if_neg (show ¬ r.kind = 1 from h1), if_neg (show ¬ r.kind = 3 from h3), if_pos (show r.kind = 4 from h4), if_neg (by rw [hh]; simp)] at hk; exact hk
  · rw [if_neg (show ¬ r.kind = 1 from h1), if_neg (show ¬ r.kind = 3 from h3), if_neg (show ¬ r.kind = 4 from h4), if_pos (show r.kind = 5 from h5), if_pos (show hasR l r.key = false from hh)] at hk; exact hk
  · have hh : hasR l r.key = true := hh
    rw [if_neg (show ¬ r.kind = 1 from h1), if_neg (show ¬ r.kind = 3 from h3), if_neg (show ¬ r.kind = 4 from h4), if_pos (show r.kind = 5 from h5), if_neg (by rw [hh]; simp)] at hk
    rw [strB_eq]
    refine ifNot (fun he => ?_) fun he => tail ?_
    · rw [if_pos (of_decide_eq_false he)] at hk; exact hk
    · rw [if_neg (fun h => h (of_decide_eq_true he))] at hk; exact hk
  · rw [if_neg (show ¬ r.kind = 1 from h1), if_neg (show ¬ r.kind = 3 from h3), if_neg (show ¬ r.kind = 4 from h4), if_neg (show ¬ r.kind = 5 from h5)] at hk; exact hk
theorem c_qall (l : List Pr) (reqs : List Req) (most : Int) (hr : IsRow l) (hl : l.length ≤ 1000) (hq : reqs.length ≤ 1000) : S40 l reqs most ((allQ most l reqs).1, (allQ most l reqs).2, ()) := pure40 l reqs most fun H K hk => by
  unfold A40
  refine loop_n reqs.length (fun i => (((allQ most l (reqs.take i)).1, reqs, most, (allQ most l (reqs.take i)).2, (i : Int), ()), ())) (fun _ => True) (by simp [allQ]) trivial fun i C hi _ hC => ?_
  dsimp only at hC ⊢
  refine lenA_i fun _ => ifLt (fun h1 => ?_) fun h1 => ?_
  · have hC := hC h1 trivial
    obtain ⟨g1, g2⟩ := allQ_row most (reqs.take i) hr
    have gl := allQ_len most l (reqs.take i)
    rw [List.length_take] at g2 gl
    have e := allQ_snoc most l (reqs.take i) reqs[i]
    rw [← take_snoc h1] at e
    refine atA_lt h1 (retA_i _ (c_qdo _ reqs[i] most g1.sort (by omega)) (appA_i (by omega) ?_))
    rw [w1 (by omega)]
    rw [e] at hC
    exact hC
  · obtain rfl : i = reqs.length := by omega
    rw [List.take_length]; exact hk
theorem c_qsame (a : Res) : S22 a a (true, ()) := pure22 a a fun H K hk => by
  unfold A22
  refine retA_i _ (c_pairs _ _) (ifT (by simp) (ifT (by simp) (ifT (by simp) ?_)))
  rw [decide_eq_true rfl]; exact hk
theorem c_answers (a : List Res) : S41 a a (true, ()) := pure41 a a fun H K hk => by
  unfold A41
  refine lenA_i fun _ => lenA_i fun _ => ifF (by simp) ?_
  refine loop_n a.length (fun i => ((a, a, (i : Int), ()), ())) (fun _ => True) rfl trivial fun i C hi _ hC => ?_
  dsimp only at hC ⊢
  refine lenA_i fun _ => ifLt (fun h1 => atA_lt h1 (atA_lt h1 (retA_i _ (c_qsame a[i]) (ifF rfl ?_)))) fun h1 => hk
  rw [w1 (by omega)]
  exact hC h1 trivial
def smallQ (r : Req) : Bool := decide ((r.key.length : Int) ≤ 100) && (decide ((r.val.length : Int) ≤ 100) && (decide ((r.old.length : Int) ≤ 100) && decide ((r.to.length : Int) ≤ 100)))
theorem c_small (r : Req) : S15 r (smallQ r, ()) := pure15 r fun H K hk => by
  unfold A15
  unfold smallQ at hk
  refine lenA_i fun _ => ifD (fun h1 => ?_) fun h1 => ?_
  · rw [decide_eq_true (show (r.key.length : Int) ≤ 100 from h1), Bool.true_and] at hk
    refine lenA_i fun _ => ifD (fun h2 => ?_) fun h2 => ?_
    · rw [decide_eq_true (show (r.val.length : Int) ≤ 100 from h2), Bool.true_and] at hk
      refine lenA_i fun _ => ifD (fun h3 => ?_) fun h3 => ?_
      · rw [decide_eq_true (show (r.old.length : Int) ≤ 100 from h3), Bool.true_and] at hk
        exact lenA_i fun _ => hk
      · rw [decide_eq_false (show ¬ (r.old.length : Int) ≤ 100 from h3), Bool.false_and] at hk; exact hk
    · rw [decide_eq_false (show ¬ (r.val.length : Int) ≤ 100 from h2), Bool.false_and] at hk; exact hk
  · rw [decide_eq_false (show ¬ (r.key.length : Int) ≤ 100 from h1), Bool.false_and] at hk; exact hk
def fewQ (l : List Req) (n : Int) : Bool := allN l.length (fun j => match l[j]? with | some p => smallQ p | none => true) && decide ((l.length : Int) ≤ n)
theorem fewQ_len {l : List Req} {n : Int} (h : fewQ l n = true) : (l.length : Int) ≤ n := by
  unfold fewQ at h
  simp only [Bool.and_eq_true, decide_eq_true_eq] at h
  exact h.2
theorem c_qfew (l : List Req) (n : Int) : S39 l n (fewQ l n, ()) := pure39 l n fun H K hk => by
  unfold A39
  refine loop_n l.length (fun i => ((l, n, (i : Int), ()), ())) (fun i => ∀ j p, j < i → l[j]? = some p → smallQ p = true) rfl (fun j p h => absurd h (Nat.not_lt_zero _)) fun i C hi hP hC => ?_
  dsimp only at hC ⊢
  refine lenA_i fun _ => ifLt (fun h1 => ?_) fun h1 => ?_
  · refine atA_lt h1 (retA_i _ (c_small l[i]) (ifNot (fun h => ?_) fun h => ?_))
    · have h : smallQ l[i] = false := h
      have : fewQ l n = false := by
        unfold fewQ
        rw [allN_false h1 (by simp only [List.getElem?_eq_getElem h1]; exact h)]
        rfl
      rw [this] at hk; exact hk
    · rw [w1 (by omega)]
      refine hC h1 fun j p hj hp => ?_
      rcases Nat.lt_or_ge j i with h3 | h3
      · exact hP j p h3 hp
      · obtain rfl : j = i := by omega
        rw [List.getElem?_eq_getElem h1] at hp
        injection hp with hp
        subst hp
        exact h
  · refine lenA_i fun _ => ?_
    have : fewQ l n = decide ((l.length : Int) ≤ n) := by
      unfold fewQ
      rw [allN_true fun j hj => ?_, Bool.true_and]
      have := hP j _ (by omega) (List.getElem?_eq_getElem hj)
      simp [hj, this]
    rw [← this]; exact hk
theorem c_up12 : S34 (true, ()) := pure34 fun H K hk => by
  unfold A34
  refine ⟨by decide, by decide, ?_⟩
  have e : allQ 9 [] [((0, 0, 4, [97], [], [], [], 0) : Req), (0, 0, 4, [97], [], [], [], 0)] = ([([97], [])], [(0, false, [], [], 0), (0, true, [], [], 0)]) := by kernel_rfl
  refine retA_i _ (c_all [] [(0, 0, 4, [97], [], [], [], 0), (0, 0, 4, [97], [], [], [], 0)] 9 IsRow.nil (by simp) (by simp)) ?_
  rw [e]
  refine lenA_i fun _ => ifT rfl (lenA_i fun _ => ifT rfl (atA_g (i := 0) rfl rfl (ifT rfl (atA_g (i := 1) rfl rfl (ifT rfl (retA_i _ (c_omay _) ?_))))))
  have : mayQ (0, 0, 4, [97], [], [], [], 0) = true := by kernel_rfl
  rw [show mayQ (0, 0, 4, [UInt8.ofNat (97 : Int).toNat], [], [], [], 0) = true from this]; exact hk
theorem omapDoes_walk (raw : List Pr) (q : List Req) (most : Int) (H : HP) (K : HT [(false, .one .bool)] → HP → Prop) (hk : K (true, ()) H) : A6 raw q most H K := by
  unfold A6
  refine retA_i _ c_up12 (retA_i _ (c_few raw 100) (retA_i _ (c_qfew q 100) (ifNot (fun _ => hk) fun hf => ifNot (fun _ => hk) fun hs => ?_)))
  have hlen := fewB_len hf
  have hql := fewQ_len hs
  have hrow := rowOf_row raw
  have hrl := rowOf_len raw
  refine retA_i _ (c_rrow raw (by omega)) ?_
  dsimp only
  generalize rowOf raw = l at hrow hrl
  refine retA_i _ (c_all l q most hrow (by omega) (by omega)) (retA_i _ (c_qall l q most hrow (by omega) (by omega)) (retA_i _ (c_pairs _ _) (ifF (by simp) (retA_i _ (c_answers _) (ifF rfl ?_)))))
  refine loop_n q.length (fun i => ((q, most, true, l, (i : Int), ()), ())) (fun _ => True) rfl trivial fun i C hi _ hC => ?_
  dsimp only at hC ⊢
  refine lenA_i fun _ => ifLt (fun h1 => ?_) fun h1 => hk
  have hC := hC h1 trivial
  rw [← w1 (by omega)] at hC
  refine atA_lt h1 (retA_i _ (c_omay q[i]) (atA_lt h1 (retA_i _ (c_qmay q[i]) (ifF (by simp) (atA_lt h1 (retA_i _ (c_reads q[i]) (atA_lt h1 (ifE (fun h => ifF ?_ ?_) fun h => atA_lt h1 (ifF ?_ ?_)))))))))
  · have h : q[i].kind = 1 := h
    unfold readsQ; rw [h]; rfl
  · exact atA_lt h1 (retA_i _ (c_odo l q[i] most hrow (by omega)) (atA_lt h1 (retA_i _ (c_qdo l q[i] most hrow.sort (by omega)) (retA_i _ (c_pairs _ _) (ifF (by simp) (retA_i _ (c_qsame _) (ifF rfl hC)))))))
  · have h : q[i].kind ≠ 1 := h
    unfold readsQ; rw [show ((q[i].kind : Int) == 1) = false from beq_eq_false_iff_ne.2 h]; simp
  · exact atA_lt h1 (retA_i _ (c_odo l q[i] most hrow (by omega)) (atA_lt h1 (retA_i _ (c_qdo l q[i] most hrow.sort (by omega)) (retA_i _ (c_pairs _ _) (ifF (by simp) (retA_i _ (c_qsame _) (ifF rfl hC)))))))
theorem omapErrs_walk (raw : List Pr) (r : Req) (most : Int) (H : HP) (K : HT [(false, .one .bool)] → HP → Prop) (hk : K (true, ()) H) : A7 raw r most H K := by
  unfold A7
  refine retA_i _ c_up12 (retA_i _ (c_few raw 100) (retA_i _ (c_small r) (ifNot (fun _ => hk) fun hf => ifNot (fun _ => hk) fun hs => ?_)))
  have hlen := fewB_len hf
  have hrow := rowOf_row raw
  have hrl := rowOf_len raw
  refine retA_i _ (c_rrow raw (by omega)) ?_
  dsimp only
  generalize rowOf raw = l at hrow hrl
  refine retA_i _ (c_odo l r most hrow (by omega)) (retA_i _ (c_ris _) ?_)
  dsimp only
  obtain ⟨g1, g2⟩ := doQ_row hrow r most
  have g3 := doQ_room hrow r most
  have fin : ifB true (ifB (isRowB (doQ l r most).1) (lenA (doQ l r most).1.length fun (n8 : Int) => ifB (decide (n8 ≤ most)) (K (true, ()) H) (lenA (doQ l r most).1.length fun (n9 : Int) => lenA l.length fun (n10 : Int) => K (decide (n9 ≤ n10), ()) H)) (K (false, ()) H)) (K (false, ()) H) := by
    refine ifT rfl (ifT (isRowB_iff.2 g1) (lenA_i fun _ => ifD (fun _ => hk) fun h => lenA_i fun _ => lenA_i fun _ => ?_))
    rw [decide_eq_true (by rcases g3 with g | g <;> omega)]; exact hk
  refine ifN (fun h => retA_i _ (c_pairs _ _) (ifF ?_ fin)) fun h => retA_i _ (c_reads r) (ifB_i (fun h' => retA_i _ (c_pairs _ _) (ifF ?_ fin)) fun h' => fin)
  · rw [doQ_err (.inl h)]; simp
  · have h' : readsQ r = true := h'
    unfold readsQ at h'
    simp only [Bool.or_eq_true, beq_iff_eq] at h'
    rw [doQ_err (.inr h')]; simp
theorem omapTurns_walk (raw : List Pr) (a b : Req) (H : HP) (K : HT [(false, .one .bool)] → HP → Prop) (hk : K (true, ()) H) : A5 raw a b H K := by
  unfold A5
  refine retA_i _ c_up12 (retA_i _ (c_few raw 100) (retA_i _ (c_small a) (retA_i _ (c_small b) (ifNot (fun _ => hk) fun hf => ifNot (fun _ => hk) fun hs => ifNot (fun _ => hk) fun hs' => ifE (fun _ => hk) fun ha => ifE (fun _ => hk) fun hb => ?_))))
  rw [strB_eq]
  refine ifD (fun _ => hk) fun hne => ?_
  have hlen := fewB_len hf
  have hrow := rowOf_row raw
  have hrl := rowOf_len raw
  refine retA_i _ (c_rrow raw (by omega)) ?_
  dsimp only
  generalize rowOf raw = l at hrow hrl
  obtain ⟨t1, x, y, t2, t3⟩ := turns hrow (a := a) (b := b) ha hb hne (most := 1000) (by omega)
  refine retA_i _ (c_all l [a, b] 1000 hrow (by omega) (by simp)) (retA_i _ (c_all l [b, a] 1000 hrow (by omega) (by simp)) ?_)
  rw [t2, t3, t1]
  refine lenA_i fun _ => ifF rfl (lenA_i fun _ => ifF rfl (ifT rfl (retA_i _ (c_pairs _ _) (ifT (by simp) (atA_g (i := 0) rfl rfl (atA_g (i := 1) rfl rfl (retA_i _ (c_qsame _) (ifT rfl (atA_g (i := 1) rfl rfl (atA_g (i := 0) rfl rfl (retA_i _ (c_qsame _) hk)))))))))))
end Go.Proofs.Ytalniaipgdbbcaa
