/-
  Requests over a row, over data: the program's own functions, and the document's.
-/
import Derived.Test.YteljallgjmhkdaaDomap
import Derived.Test.YteljallgjmhkdaaRow2
import Derived.Test.YteljallgjmhkdaaKt
set_option linter.unusedSimpArgs false
set_option linter.unusedVariables false
namespace Go.Proofs.Yteljallgjmhkdaa
open Go Go.Gp Go.Ga Go.Th
theorem ldO_i {k : AK} {n : Nat} {H : HP} {x : k.T} {K : k.T → Prop} (hn : H n = some ⟨k, x⟩) (h : K x) : ldO k n H K := ⟨x, hn, h⟩
theorem refA_i {n : Nat} {K : Nat → Prop} (h : K n) : refA (some n) K := ⟨n, rfl, h⟩
theorem retH_i {P : Program} {f : FuncId} {ps : List (Bool × AK)} {xs : HT ps} {rs : List (Bool × AK)} {H : HP} {K : HT rs → Prop} (r : HT rs) (h : ∀ K' : HT rs → HP → Prop, K' r H → callA P f ps xs rs H K') (hk : K r) : retH P f ps xs rs H K := ⟨r, h, hk⟩
theorem set_at (H : HP) (n : Nat) (k : AK) (x : k.T) : (H.set n k x) n = some ⟨k, x⟩ := if_pos rfl
theorem set_same {H : HP} {n : Nat} {k : AK} {x : k.T} (h : H n = some ⟨k, x⟩) : H.set n k x = H := by
  funext m
  unfold HP.set
  split
  · rename_i e; subst e; exact h.symm
  · rfl
theorem set_set (H : HP) (n : Nat) (k : AK) (x y : k.T) : (H.set n k x).set n k y = H.set n k y := by
  funext m
  unfold HP.set
  split <;> rfl
theorem set_del {H : HP} {n : Nat} (h : H n = none) (k : AK) (x : k.T) : (H.set n k x).del n = H := by
  funext m
  unfold HP.set HP.del
  split
  · rename_i e; subst e; exact h.symm
  · rename_i e
    show (if m = n then _ else H m) = H m
    rw [if_neg e]
theorem uStr9 : Try.prog.underlying 9 = some .string := by kernel_rfl
theorem c_bequal (a b : List UInt8) : PureA Try.prog 34 [(false, .row .byte), (false, .row .byte)] (a, b, ()) [(false, .one .bool)] (decide (a = b), ()) := pure_bb rfl fun W x y hx hy => by
  apply call34
  unfold G34
  refine conv_str uBytes (by kernel_rfl) uStr9 hx (conv_str uBytes (by kernel_rfl) uStr9 hy ?_)
  rw [str_eq]
  exact ⟨rfl, rfl⟩
abbrev STk : AK := .cons (.row (.cons (.row .byte) (.row .byte))) (.one (.int .i64))
theorem getR_len {l : List Pr} (h : IsRow l) {k v : Key} (hv : getR l k = some v) : v.length ≤ 32 := by
  have := h.fair _ (find_mem hv)
  unfold fairB at this
  simpa using this
theorem c_found {H : HP} {n : Nat} {l : List Pr} {m : Int} (hn : H n = some ⟨STk, (l, m)⟩) (hr : IsRow l) (hl : l.length ≤ 100000) (k : Key) (K : HT [(true, .cons (.one (.int .i64)) (.cons (.one .bool) (.cons (.row .byte) (.cons (.row (.cons (.row .byte) (.row .byte))) (.one (.int .u64))))))] → HP → Prop) (hk : K (foundQ l k, ()) H) : C47 (some n) k H K := callA47 _ _ _ _ (by
  unfold A47
  refine refA_i (ldO_i hn (retA_i _ (c_find l k hr.sort (by omega)) (ifNot (fun h => ?_) fun h => refA_i (ldO_i hn ?_))))
  · unfold foundQ at hk
    simp only at h
    rw [h, hasR_no h] at hk
    exact hk
  · simp only at h
    obtain ⟨p, hp, he⟩ := hasR_at hr.sort h
    have hg : getR l k = some p.2 := by rw [get_lb hr.sort k, hp]; simp [he]
    have := getR_len hr hg
    refine atA_i hp (retA_i _ (c_bclone p.2 (by omega)) ?_)
    unfold foundQ at hk
    rw [h, hg] at hk
    exact hk)
theorem c_sput {H : HP} {n : Nat} {l : List Pr} {m : Int} (hn : H n = some ⟨STk, (l, m)⟩) (hr : IsRow l) (hl : l.length ≤ 100000) (r : Req) (hm : mayB r.key = true) (hf : fairB r.val = true) (K : HT [(true, .cons (.one (.int .i64)) (.cons (.one .bool) (.cons (.row .byte) (.cons (.row (.cons (.row .byte) (.row .byte))) (.one (.int .u64))))))] → HP → Prop) (hk : K ((putQ l r m).2, ()) (H.set n STk ((putQ l r m).1, m))) : C44 (some n) r H K := callA44 _ _ _ _ (by
  unfold A44
  have hkl : r.key.length ≤ 140737488355328 := by unfold mayB at hm; simp at hm; omega
  have hvl : r.val.length ≤ 140737488355328 := by unfold fairB at hf; simp at hf; omega
  have put : (hasR l r.key = false ∧ m ≤ (l.length : Int) → False) →
      refA (some n) fun i10 => ldO STk i10 H fun x11 => retA Try.prog 49 [(false, .row (.cons (.row .byte) (.row .byte))), (false, .row .byte), (false, .row .byte)] (x11.1, r.key, r.val, ()) [(false, .row (.cons (.row .byte) (.row .byte))), (false, .one .bool), (false, .one .any)] fun x12 => ((isIfc x12.2.2.1 : Bool) = true) ∧ (ifB (isNilV x12.2.2.1) (refA (some n) fun i13 => ldO STk i13 H fun x14 => K (foundQ l r.key, ()) (H.set i13 STk (x12.1, x14.2))) (K (foundQ l r.key, ()) H)) := fun hno => by
    refine refA_i (ldO_i hn (retA_i _ (c_put l r.key r.val hr.sort (by omega) hr.short hkl hvl) ?_))
    rw [putA_yes (by rw [hm, hf]; rfl)]
    refine ⟨rfl, ifT rfl (refA_i (ldO_i hn ?_))⟩
    unfold putQ at hk
    rw [if_neg hno] at hk
    exact hk
  refine retH_i _ (c_found hn hr hl r.key) (ifNot (fun h => refA_i (ldO_i hn (lenA_i fun _ => refA_i (ldO_i hn (ifD (fun hge => ?_) fun hlt => JoinA_i ?_))))) fun h => JoinA_i ?_)
  · have h : hasR l r.key = false := h
    unfold putQ at hk
    rw [if_pos ⟨h, by omega⟩] at hk
    simp only at hk
    rw [set_same hn] at hk
    exact hk
  · exact put fun hc => (hlt : ¬ ((l.length : Int) ≥ m)) hc.2
  · have h : hasR l r.key = true := h
    exact put fun hc => by rw [h] at hc; cases hc.1)
theorem c_swap {H : HP} {n : Nat} {l : List Pr} {m : Int} (hn : H n = some ⟨STk, (l, m)⟩) (hr : IsRow l) (hl : l.length ≤ 100000) (r : Req) (h5 : r.kind = 5) (hm : mayB r.key = true) (hf : fairB r.val = true) (K : HT [(true, .cons (.one (.int .i64)) (.cons (.one .bool) (.cons (.row .byte) (.cons (.row (.cons (.row .byte) (.row .byte))) (.one (.int .u64))))))] → HP → Prop) (hk : K ((doM l r m).2, ()) (H.set n STk ((doM l r m).1, m))) : C45 (some n) r H K := callA45 _ _ _ _ (by
  unfold A45
  unfold doM at hk
  rw [if_neg (by omega), if_neg (by omega), if_neg (by omega), if_neg (by omega), if_pos h5] at hk
  refine retH_i _ (c_found hn hr hl r.key) (ifNot (fun h => ?_) fun h => retA_i _ (c_bequal _ _) (ifNot (fun he => ?_) fun he => ?_))
  · have h : hasR l r.key = false := h
    rw [if_pos h] at hk
    simp only at hk
    rw [set_same hn] at hk
    exact hk
  · have h : hasR l r.key = true := h
    have he : (getR l r.key).getD [] ≠ r.old := of_decide_eq_false he
    rw [if_neg (by rw [h]; simp), if_pos he] at hk
    simp only at hk
    rw [set_same hn] at hk
    exact hk
  · have h : hasR l r.key = true := h
    have he : (getR l r.key).getD [] = r.old := of_decide_eq_true he
    rw [if_neg (by rw [h]; simp), if_neg (by simpa using he)] at hk
    exact c_sput hn hr hl r hm hf _ hk)
theorem c_slice (l : List Pr) (r : Key × Key) (n : Int) (hl : l.length ≤ 1000000) (hs : Short l) : S46 l r n (sliceR l r.1 r.2 n, ()) := pure46 l r n fun H K hk => by
  unfold A46
  refine lenA_i fun _ => ?_
  refine loop_n l.length (fun i => ((n, (), sliceR (l.take i) r.1 r.2 n, l, (l.length : Int), (i : Int), ()), (r.1, r.2, ()), ())) (fun _ => True) (by simp [sliceR]) trivial fun i C hi _ hC => ?_
  dsimp only at hC ⊢
  refine ifLt (fun h1 => ?_) fun h1 => ?_
  · have hC := hC h1 trivial
    have hp := hs _ (List.getElem_mem h1)
    have e := slice_step (lo := r.1) (hi := r.2) (n := n) h1
    have hlen := slice_len (l.take i) r.1 r.2 n
    rw [List.length_take] at hlen
    refine atA_lt h1 (JoinA_i ?_)
    refine retA_i _ (c_kin r l[i].1) (ifB_i (fun hin => lenA_i fun _ => ?_) fun hin => ?_)
    · have hin : inR r.1 r.2 l[i].1 = true := hin
      refine ifD (fun hlt => retA_i _ (c_one _ _ hp.1 hp.2) (appA_i (by dsimp only; omega) ?_)) fun hge => ?_
      · rw [w1 (by omega)]
        rw [e, if_pos ⟨hin, hlt⟩] at hC
        exact hC
      · rw [w1 (by omega)]
        rw [e, if_neg (fun h => hge h.2)] at hC
        exact hC
    · have hin : inR r.1 r.2 l[i].1 = false := hin
      refine ifF rfl ?_
      rw [w1 (by omega)]
      rw [e, if_neg (fun h => by rw [hin] at h; cases h.1)] at hC
      exact hC
  · obtain rfl : i = l.length := by omega
    rw [List.take_length]; exact hk
theorem c_merge0 (l : List Pr) (hl : l.length ≤ 1000000) (hs : Short l) : S16 l [] (l, ()) := pure16 l [] fun H K hk => by
  unfold A16
  refine loop_n l.length (fun i => ((l.drop i, [], l.take i, ()), ())) (fun _ => True) (by simp) trivial fun i C hi _ hC => ?_
  dsimp only at hC ⊢
  refine lenA_i fun _ => ifD (fun h => ?_) fun h => ?_
  · have h1 : i < l.length := by rw [List.length_drop] at h; omega
    have hC := hC h1 trivial
    have hp := hs _ (List.getElem_mem h1)
    have hd : (l.drop i)[0]? = some l[i] := by rw [List.getElem?_drop]; exact List.getElem?_eq_getElem h1
    refine JoinA_i (lenA_i fun _ => ifF (by rw [List.length_drop, beq_eq_false_iff_ne]; omega) (lenA_i fun _ => ifF rfl ?_))
    refine ifT rfl (atA_g (i := 0) rfl hd (atA_g (i := 0) rfl hd (retA_i _ (c_one _ _ hp.1 hp.2) (slcA_z (a := 1) (b := (l.drop i).length) rfl rfl (by rw [List.length_drop]; omega) (Nat.le_refl _) (appA_i (by rw [List.length_take]; omega) ?_)))))
    rw [sub_to_end, List.drop_drop]
    rw [take_snoc h1] at hC
    exact hC
  · have : i = l.length := by rw [List.length_drop] at h; omega
    subst this
    refine lenA_i fun _ => ifF rfl ?_
    rw [List.take_length]; exact hk
theorem c_do {H : HP} {n : Nat} {l : List Pr} {m : Int} (hn : H n = some ⟨STk, (l, m)⟩) (hr : IsRow l) (hl : l.length ≤ 100000) (r : Req) (hm : mayQ r = true) (K : HT [(true, .cons (.one (.int .i64)) (.cons (.one .bool) (.cons (.row .byte) (.cons (.row (.cons (.row .byte) (.row .byte))) (.one (.int .u64))))))] → HP → Prop) (hk : K ((doM l r m).2, ()) (H.set n STk ((doM l r m).1, m))) : C40 (some n) r H K := callA40 _ _ _ _ (by
  unfold A40
  have hmk : r.kind ≠ 6 → mayB r.key = true ∧ fairB r.val = true := fun h => may_key hm h
  refine ifE (fun h2 => ?_) fun h2 => ifE (fun h5 => ?_) fun h5 => ifE (fun h6 => ?_) fun h6 => ?_
  · have h2 : r.kind = 2 := h2
    obtain ⟨g1, g2⟩ := hmk (by omega)
    unfold doM at hk
    rw [if_neg (by omega), if_neg (by omega), if_neg (by omega), if_neg (by omega), if_neg (by omega)] at hk
    exact c_sput hn hr hl r g1 g2 _ hk
  · have h5 : r.kind = 5 := h5
    obtain ⟨g1, g2⟩ := hmk (by omega)
    exact c_swap hn hr hl r h5 g1 g2 _ hk
  · have h6 : r.kind = 6 := h6
    unfold doM at hk
    rw [if_pos h6] at hk
    simp only at hk
    rw [set_same hn] at hk
    exact refA_i (ldO_i hn (retA_i _ (c_slice l (r.key, r.to) r.limit (by omega) hr.short) hk))
  · have h2 : r.kind ≠ 2 := h2
    have h5 : r.kind ≠ 5 := h5
    have h6 : r.kind ≠ 6 := h6
    obtain ⟨g1, g2⟩ := hmk h6
    unfold doM at hk
    rw [if_neg h6] at hk
    refine retH_i _ (c_found hn hr hl r.key) (JoinA_i (ifE (fun h3 => ?_) fun h3 => ifE (fun h4 => ?_) fun h4 => ?_))
    · have h3 : r.kind = 3 := h3
      rw [if_neg (by omega), if_pos h3] at hk
      exact refA_i (ldO_i hn (retA_i _ (c_delete l r.key hr.sort (by omega) hr.short) (refA_i (ldO_i hn hk))))
    · have h4 : r.kind = 4 := h4
      rw [if_neg (by omega), if_neg (by omega), if_pos h4] at hk
      refine ifNot (fun hh => ?_) fun hh => ?_
      · have hh : hasR l r.key = false := hh
        rw [if_neg (by rw [hh]; simp)] at hk
        exact c_sput hn hr hl r g1 g2 _ hk
      · have hh : hasR l r.key = true := hh
        rw [if_pos hh] at hk
        simp only at hk
        rw [set_same hn] at hk
        exact hk
    · have h3 : r.kind ≠ 3 := h3
      have h4 : r.kind ≠ 4 := h4
      have h1 : r.kind = 1 := by
        unfold mayQ at hm
        rw [if_neg h6] at hm
        simp only [Bool.and_eq_true, decide_eq_true_eq] at hm
        omega
      rw [if_pos h1] at hk
      simp only at hk
      rw [set_same hn] at hk
      exact hk)
theorem c_omay (r : Req) : S39 r (mayQ r, ()) := pure39 r fun H K hk => by
  unfold A39
  refine JoinA_i ?_
  have fin : ∀ b : Bool, b = fairQ r → (JoinA (V := (Unit × Bool × Int × Bool × Unit) × (Int × Int × Int × List UInt8 × List UInt8 × List UInt8 × List UInt8 × Int × Unit) × Unit) (fun x3 H4 => ifB x3.1.2.2.2.1 (ifB x3.1.2.1 (retA Try.prog 42 [(false, .row .byte)] (x3.2.1.2.2.2.1, ()) [(false, .one .bool)] fun x5 => K (x5.1, ()) H4) (K (false, ()) H4)) (ifB ((x3.1.2.2.1 : Int) == 6) (ifB x3.1.2.1 (retA Try.prog 43 [(true, .cons (.row .byte) (.row .byte))] ((x3.2.1.2.2.2.1, x3.2.1.2.2.2.2.2.2.1), ()) [(false, .one .bool)] fun x6 => ifB x6.1 (ifB (decide (x3.2.1.2.2.2.2.2.2.2.1 ≥ 1)) (K (decide (x3.2.1.2.2.2.2.2.2.2.1 ≤ 100), ()) H4) (K (false, ()) H4)) (K (false, ()) H4)) (K (false, ()) H4)) (K (false, ()) H4))) fun B7 => ifB ((r.2.2.1 : Int) == 1) (B7 (((), b, r.2.2.1, (r.2.2.1 : Int) == 1, ()), (r.1, r.2.1, r.2.2.1, r.2.2.2.1, r.2.2.2.2.1, r.2.2.2.2.2.1, r.2.2.2.2.2.2.1, r.2.2.2.2.2.2.2, ()), ()) H) (ifB ((r.2.2.1 : Int) == 2) (B7 (((), b, r.2.2.1, (r.2.2.1 : Int) == 2, ()), (r.1, r.2.1, r.2.2.1, r.2.2.2.1, r.2.2.2.2.1, r.2.2.2.2.2.1, r.2.2.2.2.2.2.1, r.2.2.2.2.2.2.2, ()), ()) H) (ifB ((r.2.2.1 : Int) == 3) (B7 (((), b, r.2.2.1, (r.2.2.1 : Int) == 3, ()), (r.1, r.2.1, r.2.2.1, r.2.2.2.1, r.2.2.2.2.1, r.2.2.2.2.2.1, r.2.2.2.2.2.2.1, r.2.2.2.2.2.2.2, ()), ()) H) (ifB ((r.2.2.1 : Int) == 4) (B7 (((), b, r.2.2.1, (r.2.2.1 : Int) == 4, ()), (r.1, r.2.1, r.2.2.1, r.2.2.2.1, r.2.2.2.2.1, r.2.2.2.2.2.1, r.2.2.2.2.2.2.1, r.2.2.2.2.2.2.2, ()), ()) H) (B7 (((), b, r.2.2.1, (r.2.2.1 : Int) == 5, ()), (r.1, r.2.1, r.2.2.1, r.2.2.2.1, r.2.2.2.2.1, r.2.2.2.2.2.1, r.2.2.2.2.2.2.1, r.2.2.2.2.2.2.2, ()), ()) H))))) := fun b hb => by
    refine JoinA_i ?_
    unfold mayQ at hk
    rw [← hb] at hk
    have tail : ∀ c : Bool, c = (decide (1 ≤ r.kind) && decide (r.kind ≤ 5)) → ifB c (ifB b (retA Try.prog 42 [(false, .row .byte)] (r.key, ()) [(false, .one .bool)] fun x5 => K (x5.1, ()) H) (K (false, ()) H)) (ifB ((r.kind : Int) == 6) (ifB b (retA Try.prog 43 [(true, .cons (.row .byte) (.row .byte))] ((r.key, r.to), ()) [(false, .one .bool)] fun x6 => ifB x6.1 (ifB (decide (r.limit ≥ 1)) (K (decide (r.limit ≤ 100), ()) H) (K (false, ()) H)) (K (false, ()) H)) (K (false, ()) H)) (K (false, ()) H)) := fun c hc => by
      refine ifB_i (fun h => ?_) fun h => ?_
      · rw [h] at hc
        have hc' := hc.symm
        rw [Bool.and_eq_true, decide_eq_true_eq, decide_eq_true_eq] at hc'
        rw [if_neg (by omega), ← hc, Bool.true_and] at hk
        refine ifB_i (fun h2 => retA_i _ (c_kmay _) ?_) fun h2 => ?_
        · rw [h2, Bool.true_and] at hk; exact hk
        · rw [h2, Bool.false_and] at hk; exact hk
      · rw [h] at hc
        refine ifE (fun h6 => ?_) fun h6 => ?_
        · rw [if_pos h6] at hk
          refine ifB_i (fun h2 => retA_i _ (c_ksound _) (ifB_i (fun h3 => ifD (fun h4 => ?_) fun h4 => ?_) fun h3 => ?_)) fun h2 => ?_
          · have h3 : soundR r.key r.to = true := h3
            rw [h2, h3, decide_eq_true (show 1 ≤ r.limit from h4)] at hk; exact hk
          · have h3 : soundR r.key r.to = true := h3
            rw [h2, h3, decide_eq_false (show ¬ 1 ≤ r.limit from h4)] at hk; exact hk
          · have h3 : soundR r.key r.to = false := h3
            rw [h2, h3] at hk; exact hk
          · rw [h2, Bool.false_and] at hk; exact hk
        · rw [if_neg h6, ← hc, Bool.false_and, Bool.and_false] at hk; exact hk
    have kd : ∀ q : Int, 1 ≤ q → q ≤ 5 → r.kind = q → ((r.kind : Int) == q) = (decide (1 ≤ r.kind) && decide (r.kind ≤ 5)) := fun q h1 h2 h => by
      rw [h, decide_eq_true h1, decide_eq_true h2]; simp
    refine ifE (fun h => tail _ (kd 1 (by omega) (by omega) h)) fun n1 => ifE (fun h => tail _ (kd 2 (by omega) (by omega) h)) fun n2 => ifE (fun h => tail _ (kd 3 (by omega) (by omega) h)) fun n3 => ifE (fun h => tail _ (kd 4 (by omega) (by omega) h)) fun n4 => tail _ ?_
    show ((r.kind : Int) == 5) = _
    have n1 : r.kind ≠ 1 := n1
    have n2 : r.kind ≠ 2 := n2
    have n3 : r.kind ≠ 3 := n3
    have n4 : r.kind ≠ 4 := n4
    rw [Bool.eq_iff_iff]
    simp only [beq_iff_eq, Bool.and_eq_true, decide_eq_true_eq]
    omega
  refine ifD (fun h1 => ifD (fun h2 => retA_i _ (c_kfair _) (ifB_i (fun h3 => retA_i _ (c_kfair _) (fin _ ?_)) fun h3 => fin _ ?_)) fun h2 => fin _ ?_) fun h1 => fin _ ?_
  · have h3 : fairB r.val = true := h3
    show fairB r.old = fairQ r
    unfold fairQ
    rw [h3, decide_eq_true (show (0 : Int) ≤ r.1 from h1), decide_eq_true (show (0 : Int) ≤ r.2.1 from h2)]; rfl
  · have h3 : fairB r.val = false := h3
    unfold fairQ
    rw [h3]; simp
  · unfold fairQ
    rw [decide_eq_false (show ¬ (0 : Int) ≤ r.2.1 from h2)]; simp
  · unfold fairQ
    rw [decide_eq_false (show ¬ (0 : Int) ≤ r.1 from h1)]; simp
end Go.Proofs.Yteljallgjmhkdaa
