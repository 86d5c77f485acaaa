/-
  A batch's order: the program's, and the document's.
-/
import Derived.Test.YtalniaipgdbbcaaDgr1
import Derived.Test.YtalniaipgdbbcaaDgr3
import Derived.Test.YtalniaipgdbbcaaKt
import Derived.Test.YtalniaipgdbbcaaSort4
import Derived.Test.YtalniaipgdbbcaaElide1
set_option linter.unusedSimpArgs false
set_option linter.unusedVariables false
namespace Go.Proofs.Ytalniaipgdbbcaa
open Go Go.Gp Go.Ga Go.Th
theorem c_late (r : Req) : S102 r (lateI r, ()) := pure102 r fun H K hk => by
  unfold A102
  unfold lateI at hk
  by_cases h : r.kind = 6
  · rw [if_pos h] at hk; exact ifT (by rw [beq_iff_eq]; exact h) hk
  · rw [if_neg h] at hk; exact ifF (by rw [beq_eq_false_iff_ne]; exact h) hk
theorem c_or (a b : Int) : S105 [a, b] ((if a ≠ 0 then a else b), ()) := pure105 [a, b] fun H K hk => by
  unfold A105
  refine lenA_i fun _ => ?_
  refine loop_n 2 (fun i => ((0, [a, b], ((2 : Nat) : Int), (i : Int), ()), ())) (fun i => (1 ≤ i → a = 0) ∧ (2 ≤ i → b = 0)) rfl ⟨by omega, by omega⟩ ?_
  intro i C hi hp hC
  dsimp only
  refine ifLt (fun h => ?_) fun h => ?_
  · rw [w1 (by omega)]
    match i, h with
    | 0, _ =>
      refine atA_g (i := 0) rfl rfl ?_
      by_cases ha : a = 0
      · exact ifF (by simp [ha]) (hC (by omega) ⟨fun _ => ha, by omega⟩)
      · rw [if_pos ha] at hk; exact ifT (by simpa using ha) hk
    | 1, _ =>
      have ha := hp.1 (Nat.le_refl _)
      rw [if_neg (by rw [ha]; simp)] at hk
      refine atA_g (i := 1) rfl rfl ?_
      by_cases hb : b = 0
      · exact ifF (by simp [hb]) (hC (by omega) ⟨fun _ => ha, fun _ => hb⟩)
      · exact ifT (by simpa using hb) hk
  · obtain rfl : i = 2 := by omega
    rw [if_neg (by rw [hp.1 (by omega)]; simp), hp.2 (Nat.le_refl _)] at hk
    exact hk
theorem c_ahead (a b : Req) : S107 a b (bfR a b, ()) := pure107 a b fun H K hk => by
  unfold A107
  refine retA_i _ (c_less _ _) (retA_i _ (c_less _ _) ?_)
  unfold bfR at hk
  dsimp only at hk ⊢
  cases h1 : lessL a.key b.key with
  | true => rw [h1] at hk; exact ifT rfl hk
  | false =>
    refine ifF rfl ?_
    cases h2 : lessL b.key a.key with
    | true => rw [h1, h2] at hk; exact ifF rfl hk
    | false =>
      rw [h1, h2] at hk
      refine ifT rfl ?_
      by_cases h3 : a.kind = 6
      · refine ifF (by simpa using h3) ?_
        rw [decide_eq_false (by simpa using h3)] at hk; exact hk
      · refine ifT (by simpa using h3) ?_
        rw [decide_eq_true h3] at hk
        have e : ((b.2.2.1 : Int) == 6) = decide (b.kind = 6) := by
          by_cases h4 : b.kind = 6
          · rw [decide_eq_true h4, beq_iff_eq]; exact h4
          · rw [decide_eq_false h4, beq_eq_false_iff_ne]; exact h4
        rw [e]
        exact hk
theorem late_le (r : Req) : 0 ≤ lateI r ∧ lateI r ≤ 1 := by unfold lateI; split <;> omega
theorem c_cmp1 {l : List Req} {H : HP} {c : Nat} (hc : H c = some ⟨.row kRQ, l⟩) {y x : Int} (hy : inQ l y) (hx : inQ l x) (K : HT [(false, .one (.int .i64))] → HP → Prop) (hk : K (cmQ l y x, ()) H) : C104 y x (some c) H K := callA104 _ _ _ _ _ (by
  unfold A104
  have ry := rq_at hy
  have rx := rq_at hx
  have ey : y = ((y.toNat : Nat) : Int) := by have := hy.1; omega
  have ex : x = ((x.toNat : Nat) : Int) := by have := hx.1; omega
  refine refA_r (ldO_r hc (atA_g ey ry (ldO_r hc (atA_g ex rx (retA_i _ (c_kcmp _ _) (ldO_r hc (atA_g ey ry (retA_i _ (c_late _) (ldO_r hc (atA_g ex rx (retA_i _ (c_late _) (retA_i _ (c_or _ _) ?_))))))))))))
  have h1 := late_le (rq l y)
  have h2 := late_le (rq l x)
  rw [wI (x := lateI (rq l y) - lateI (rq l x)) (by omega) (by omega)]
  exact hk)
theorem c_sort0 {H : HP} {s : Sl} {c : Nat} (h0 : s.len = 0) (K : HT [] → HP → Prop) (hk : K () H) : C103 s [c] H K := callA103 _ _ _ _ (by
  unfold A103
  rw [h0]
  refine callA124 _ _ _ _ _ ?_
  unfold A124
  refine LoopA_i (fun v H' => v = ((s, ((0 : Nat) : Int), [c], 20, 0, 20, ()), ()) ∧ H' = H) (fun _ _ => 0) ⟨rfl, rfl⟩ ?_
  rintro v H' ⟨rfl, rfl⟩
  refine ifF rfl (callA136 _ _ _ _ _ _ ?_)
  unfold A136
  refine LoopA_i (fun v H'' => v = ((s, 0, ((0 : Nat) : Int), [c], 1, ()), ()) ∧ H'' = H') (fun _ _ => 0) ⟨rfl, rfl⟩ ?_
  rintro v H'' ⟨rfl, rfl⟩
  refine ifF rfl ?_
  refine LoopA_i (fun v H3 => v = ((s, ((0 : Nat) : Int), [c], 20, ()), ()) ∧ H3 = H'') (fun _ _ => 0) ⟨rfl, rfl⟩ ?_
  rintro v H3 ⟨rfl, rfl⟩
  exact ifF rfl hk)
theorem c_order (l : List Req) (hl : l.length ≤ 1000) (H : HP) (K : HT [(false, .one .sl)] → HP → Prop) (hk : pubA IK 3 (ordL l) H fun s H' => K (s, ()) H') : C70 l H K := callA_sub rfl (callA70 _ _ _ (by
  unfold A70
  intro c hcn
  have hat : (H.set c (.row kRQ) l) c = some ⟨.row kRQ, l⟩ := hp_at _ _ _ _
  refine ldO_r hat (lenA_i fun _ => ?_)
  refine loop_n l.length (fun i => ((c, upTo i, (l.length : Int), (i : Int), ()), ())) (fun _ => True) rfl trivial ?_
  intro i C hi _ hC
  dsimp only
  refine ifLt (fun h => ?_) fun h => ?_
  · refine appA_i (by rw [upTo_len]; omega) ?_
    rw [w1 (by omega), ← upTo_succ]
    exact hC h trivial
  · obtain rfl : i = l.length := by omega
    intro s H' hp
    obtain ⟨h1, h2, h3, h4⟩ := hp
    rw [upTo_len] at h1
    rcases h4 with ⟨h5, h6, rfl⟩ | ⟨n, h5, h6, rfl⟩
    · have h0 : l.length = 0 := by rw [← upTo_len l.length, h6]; rfl
      refine c_sort0 (by rw [h5]) _ ?_
      refine ⟨H, hp_le_new hcn, hk s H ⟨?_, h2, h3, .inl ⟨h5, ?_, rfl⟩⟩⟩
      · rw [ordL, ordN_len]; exact h1
      · exact List.eq_nil_of_length_eq_zero (by rw [ordL, ordN_len]; exact h0)
    · have hne : n ≠ c := fun e => by subst e; rw [hat] at h6; cases h6
      have hHn : H n = none := by rw [hp_ne hne] at h6; exact h6
      have g : Srt (H.set c (.row kRQ) l) n 3 s l.length c (cmQ l) (ltQ l) := ⟨h5, h1, by omega, fun xs y x K' hlt hk' => by
        have hyx : inQ l y ∧ inQ l x := by rcases hlt with h | h <;> exact ⟨by first | exact h.2.1 | exact h.1, by first | exact h.1 | exact h.2.1⟩
        exact c_cmp1 (l := l) ((hp_ne (Ne.symm hne)).trans hat) hyx.1 hyx.2 K' hk'⟩
      refine c_sortst g (upTo l.length) (upTo_len _) (upTo_ord l) _ fun C' hp' hr => ?_
      obtain rfl := ordL_uniq hp' hr
      refine ⟨H.set n (.arr IK 3) (s, ordL l), ?_, hk s _ ⟨by rw [ordL, ordN_len]; exact h1, h2, h3, .inr ⟨n, h5, hHn, rfl⟩⟩⟩
      exact HP.le.set (hp_le_new hcn)))
theorem c_rorder (l : List Req) (hl : l.length ≤ 1000) : S71 l (ordL l, ()) := pure71 l fun H K hk => by
  unfold A71
  refine loop_n l.length (fun i => ((l, ordN l i, (i : Int), ()), ())) (fun _ => True) rfl trivial ?_
  intro i C hi _ hC
  dsimp only
  refine lenA_i fun _ => ifLt (fun h => ?_) fun h => ?_
  · have hlen := ordN_len l i
    refine lenA_i fun _ => lenA_i fun _ => ?_
    have hqi : inQ l (i : Int) := ⟨by omega, by omega⟩
    have hri : l[i]? = some (rq l i) := by have := rq_at hqi; rwa [Int.toNat_natCast] at this
    refine loop_n i (fun j => ((l, ordN l i, (i : Int), ((atQ l i (ordN l i) (i - j) : Nat) : Int), ((i : Int) - (j : Int) - 1), ()), ())) (fun _ => True) ?_ trivial ?_
    · rw [Nat.sub_zero]
      have : atQ l i (ordN l i) i = i := by have := atQ_end l i (ordN l i); rw [hlen] at this; exact this
      rw [this, hlen, wI (by omega) (by omega)]
      simp
    intro j C' hj _ hC'
    dsimp only
    refine ifD (fun h2 => ?_) fun h2 => ?_
    · have hk1 : i - j - 1 < (ordN l i).length := by rw [hlen]; omega
      have ek : (i : Int) - (j : Int) - 1 = ((i - j - 1 : Nat) : Int) := by omega
      have hx : (ordN l i)[i - j - 1]? = some ((ordN l i)[i - j - 1]) := List.getElem?_eq_getElem hk1
      have hm := (ordN_mem l).1 (List.getElem_mem hk1)
      generalize (ordN l i)[i - j - 1] = x at hx hm
      have hqx : inQ l x := ⟨hm.1, by omega⟩
      refine atA_g rfl hri ⟨by omega, by omega, ?_⟩
      have et : ((i : Int) - (j : Int) - 1).toNat = i - j - 1 := by omega
      rw [et]
      refine elA_i hx (atA_g (show x = ((x.toNat : Nat) : Int) from by omega) (rq_at hqx) (retA_i _ (c_ahead _ _) ?_))
      have st := atQ_step (l := l) (i := (i : Int)) hx
      rw [show i - j - 1 + 1 = i - j from by omega] at st
      have nx := hC' (by omega) trivial
      rw [show i - (j + 1) = i - j - 1 from by omega, st] at nx
      rw [wI (x := (i : Int) - (j : Int) - 1 - 1) (by omega) (by omega), show (i : Int) - (j : Int) - 1 - 1 = (i : Int) - ((j + 1 : Nat) : Int) - 1 from by omega]
      show ifB (bfR (rq l i) (rq l x)) _ _
      cases hb : bfR (rq l i) (rq l x) with
      | true => rw [hb, if_pos rfl] at nx; rw [ek]; exact ifT rfl nx
      | false => rw [hb, if_neg (by simp)] at nx; exact ifF rfl nx
    · have h2 : ¬ (i : Int) - (j : Int) - 1 ≥ 0 := h2
      obtain rfl : j = i := by omega
      rw [Nat.sub_self]
      have hle := atQ_le l j (ordN l j) 0 (Nat.zero_le _)
      have hins := atQ_ins l j (ordN l j)
      generalize atQ l j (ordN l j) 0 = a at hle hins
      refine slcA_z (a := 0) (b := a) rfl rfl (Nat.zero_le _) hle ?_
      have e1 : sub (ordN l j) 0 (a - 0) = (ordN l j).take a := by rw [sub_zero, Nat.sub_zero]
      rw [e1]
      have lt1 : ((ordN l j).take a).length = a := by rw [List.length_take]; omega
      refine appA_i (by rw [lt1]; omega) (appA_i (by simp only [List.nil_append, lt1]; omega) ?_)
      refine slcA_z (a := a) (b := (ordN l j).length) rfl rfl hle (Nat.le_refl _) ?_
      rw [sub_to_end]
      refine appA_i (by simp only [List.nil_append, List.length_append, lt1, List.length_drop, List.length_cons, List.length_nil]; omega) ?_
      rw [w1 (by omega)]
      have := hC h trivial
      show C _ H
      have e2 : ([] ++ (ordN l j).take a ++ [(j : Int)]) ++ (ordN l j).drop a = ordN l (j + 1) := by
        show _ = insQ l (ordN l j) j
        rw [← hins]; simp
      rw [e2]
      exact this
  · obtain rfl : i = l.length := by omega
    exact hk
end Go.Proofs.Ytalniaipgdbbcaa
