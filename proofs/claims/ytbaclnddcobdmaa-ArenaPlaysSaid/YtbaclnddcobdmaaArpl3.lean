/-
  ArenaPlays.
-/
import Derived.Test.YtbaclnddcobdmaaDara5
import Derived.Test.YtbaclnddcobdmaaArpl2
set_option linter.unusedSimpArgs false
set_option linter.unusedVariables false
namespace Go.Proofs.Ytbaclnddcobdmaa
open Go Go.Gp Go.Ga Go.Th
theorem JoinA_w {V : Type} {B : V → HP → Prop} {A : (V → HP → Prop) → Prop} (P : V → HP → Prop) (hB : ∀ v H, P v H → B v H) (h : ∀ C : V → HP → Prop, (∀ v H, P v H → C v H) → A C) : JoinA B A := h B hB
theorem setdel {H : HP} {n : Nat} {k : AK} {x : k.T} (h : H n = none) : (H.set n k x).del n = H := by
  funext m
  unfold HP.set HP.del
  split
  · rename_i e; subst e; exact h.symm
  · rename_i e
    show (if m = n then _ else H m) = H m
    rw [if_neg e]
structure Rel (v : ArV) (l2 : List Nd) : Prop where
  len : l2.length = v.1.length
  at_ : ∀ j : Nat, v.2.1[j]? = some true → l2[j]? = v.1[j]?
  nd : ∀ x ∈ l2, NdOk x
theorem Rel.isE {l : List Nd} {th : List Bool} {fr : List Int} {l2 : List Nd} (h : Rel (l, th, fr) l2) (i : Int) : isA l2 th i = isA l th i := by
  have := h.len
  unfold isA
  dsimp only at this
  rw [this]
theorem ArOk.two {l : List Nd} {th : List Bool} {fr : List Int} {l2 : List Nd} (h : ArOk (l, th, fr)) (r : Rel (l, th, fr) l2) : ArOk (l2, th, fr) := by
  have e := r.len
  obtain ⟨h1, h2, h3, h4, h5⟩ := h
  dsimp only at *
  exact ⟨by dsimp only; omega, by dsimp only; rw [e]; exact h2, by dsimp only; omega, h4, r.nd⟩
theorem mkS_nil (l : List Nd) (th : List Bool) (x : Nd) : mkS (l, th, []) x = ((l.length : Int), l ++ [x], th ++ [true], []) := rfl
theorem mkS_snoc (l : List Nd) (th : List Bool) (D : List Int) (j : Nat) (x : Nd) : mkS (l, th, D ++ [(j : Int)]) x = ((j : Int), l.set j x, th.set j true, D) := by unfold mkS; simp
theorem mk_all {l : List Nd} {th : List Bool} {fr : List Int} {l2 : List Nd} (h : ArOk (l, th, fr)) (r : Rel (l, th, fr) l2) {x : Nd} (hx : NdOk x) {i : Nat} (hi : i ≤ 1000) (b1 : l.length ≤ i) (b2 : fr.length ≤ i) :
    ∃ q l' th' fr' l2', mkS (l, th, fr) x = (q, l', th', fr') ∧ mkS (l2, th, fr) x = (q, l2', th', fr') ∧ ArOk (l', th', fr') ∧ Rel (l', th', fr') l2' ∧ l'.length ≤ i + 1 ∧ fr'.length ≤ i + 1 := by
  obtain ⟨h1, h2, h3, h4, h5⟩ := h
  obtain ⟨r1, r2, r3⟩ := r
  dsimp only at *
  rcases nil_orI fr with rfl | ⟨D, q, rfl⟩
  · refine ⟨_, _, _, _, _, mkS_nil l th x, by rw [mkS_nil, r1], ⟨by simp [h1], by simp, by simp; omega, by simp, fun y hy => ?_⟩, ⟨by simp [r1], fun j hj => ?_, fun y hy => ?_⟩, by simp; omega, by simp⟩
    · rcases List.mem_append.1 hy with hy | hy
      · exact h5 y hy
      · obtain rfl : y = x := by simpa using hy
        exact hx
    · dsimp only at hj ⊢
      rcases Nat.lt_or_ge j th.length with c | c
      · rw [List.getElem?_append_left c] at hj
        rw [List.getElem?_append_left (by omega), List.getElem?_append_left (by omega)]; exact r2 j hj
      · rw [List.getElem?_append_right (by omega), List.getElem?_append_right (by omega), r1]
    · rcases List.mem_append.1 hy with hy | hy
      · exact r3 y hy
      · obtain rfl : y = x := by simpa using hy
        exact hx
  · obtain ⟨j, rfl, hj⟩ := h2 q (by simp)
    rw [List.length_append, List.length_singleton] at b2 h4
    refine ⟨_, _, _, _, _, mkS_snoc l th D j x, mkS_snoc l2 th D j x, ⟨by simp [h1], fun q hq => ?_, by simp; omega, by dsimp only; omega, fun y hy => ?_⟩, ⟨by simp [r1], fun k hk => ?_, fun y hy => ?_⟩, by simp; omega, by omega⟩
    · obtain ⟨a, b, c⟩ := h2 q (by simp; exact .inl hq)
      exact ⟨a, b, by dsimp only; rw [List.length_set]; exact c⟩
    · rcases List.mem_or_eq_of_mem_set hy with hy | rfl
      · exact h5 y hy
      · exact hx
    · dsimp only at hk ⊢
      by_cases e : k = j
      · subst e
        rw [List.getElem?_set_self (by omega), List.getElem?_set_self hj]
      · rw [List.getElem?_set_ne (Ne.symm e)] at hk
        rw [List.getElem?_set_ne (Ne.symm e), List.getElem?_set_ne (Ne.symm e)]; exact r2 k hk
    · rcases List.mem_or_eq_of_mem_set hy with hy | rfl
      · exact r3 y hy
      · exact hx
theorem set_all {l : List Nd} {th : List Bool} {fr : List Int} {l2 : List Nd} (h : ArOk (l, th, fr)) (r : Rel (l, th, fr) l2) {x : Nd} (hx : NdOk x) {j : Nat} (hj : j < l.length) : ArOk (l.set j x, th, fr) ∧ Rel (l.set j x, th, fr) (l2.set j x) := by
  obtain ⟨h1, h2, h3, h4, h5⟩ := h
  obtain ⟨r1, r2, r3⟩ := r
  dsimp only at *
  refine ⟨⟨by simp [h1], fun q hq => ?_, by simp; omega, h4, fun y hy => ?_⟩, ⟨by simp [r1], fun k hk => ?_, fun y hy => ?_⟩⟩
  · obtain ⟨a, b, c⟩ := h2 q hq
    exact ⟨a, b, by dsimp only; rw [List.length_set]; exact c⟩
  · rcases List.mem_or_eq_of_mem_set hy with hy | rfl
    · exact h5 y hy
    · exact hx
  · dsimp only at hk ⊢
    by_cases e : k = j
    · subst e
      rw [List.getElem?_set_self (by omega), List.getElem?_set_self hj]
    · rw [List.getElem?_set_ne (Ne.symm e), List.getElem?_set_ne (Ne.symm e)]; exact r2 k hk
  · rcases List.mem_or_eq_of_mem_set hy with hy | rfl
    · exact r3 y hy
    · exact hx
theorem zero_ok : NdOk zeroNd := ⟨by decide, by decide, by decide, (by intro p hp; have hp : p ∈ ([] : List Pr) := hp; cases hp), (by intro p hp; have hp : p ∈ ([] : List Key) := hp; cases hp)⟩
theorem free_all {l : List Nd} {th : List Bool} {fr : List Int} {l2 : List Nd} (h : ArOk (l, th, fr)) (r : Rel (l, th, fr) l2) {j : Nat} (hj : j < l.length) (hf : fr.length ≤ 10000) : ArOk (frS (l, th, fr) (j : Int)) ∧ Rel (frS (l, th, fr) (j : Int)) l2 := by
  obtain ⟨h1, h2, h3, h4, h5⟩ := h
  obtain ⟨r1, r2, r3⟩ := r
  unfold frS
  rw [Int.toNat_natCast]
  dsimp only at *
  refine ⟨⟨by simp [h1], fun q hq => ?_, by simp; omega, by simp; omega, fun y hy => ?_⟩, ⟨by simp [r1], fun k hk => ?_, r3⟩⟩
  · rcases List.mem_append.1 hq with hq | hq
    · obtain ⟨a, b, c⟩ := h2 q hq
      exact ⟨a, b, by dsimp only; rw [List.length_set]; exact c⟩
    · obtain rfl : q = (j : Int) := by simpa using hq
      exact ⟨j, rfl, by dsimp only; rw [List.length_set]; exact hj⟩
  · rcases List.mem_or_eq_of_mem_set hy with hy | rfl
    · exact h5 y hy
    · exact zero_ok
  · dsimp only at hk ⊢
    by_cases e : k = j
    · subst e
      rw [List.getElem?_set_self (by omega)] at hk; cases hk
    · rw [List.getElem?_set_ne (Ne.symm e)] at hk
      rw [List.getElem?_set_ne (Ne.symm e)]; exact r2 k hk
theorem c_as07 (x : Nd) : S67 x (x, ()) := pure67 x fun H K hk => by unfold A67; exact hk
theorem r_as07 (x : NdS) : R.S67 x (x, ()) := R.pure67 x fun H K hk => by unfold R.A67; exact hk
def pickW (c n : Int) : Int := Int.tmod (if c < 0 then IntKind.i64.wrap (0 - IntKind.i64.wrap (c + 1)) else c) n
theorem c_pick07 (c n : Int) (hn : n ≠ 0) : S45 c n (pickW c n, ()) := pure45 _ _ fun H K hk => by
  unfold A45
  unfold pickW at hk
  refine JoinA_i (ifD (fun h => ?_) fun h => ?_)
  · rw [if_pos h] at hk; exact ⟨hn, hk⟩
  · rw [if_neg h] at hk; exact ⟨hn, hk⟩
def few7 (x : Nd) : Bool := fewB x.2.1 30 && (allN x.2.2.1.length (fun j => match x.2.2.1[j]? with | some k => decide (k.length ≤ 100) | none => true) && (decide (x.2.2.1.length ≤ 30) && decide (x.2.2.2.1.length ≤ 30)))
theorem allN_snoc (n : Nat) (f : Nat → Bool) : allN (n + 1) f = (allN n f && f n) := by
  unfold allN
  rw [List.range_succ, List.all_append]
  simp
theorem c_few07 (x : Nd) : S64 x (few7 x, ()) := pure64 x fun H K hk => by
  obtain ⟨lf, ps, ks, kd, nx⟩ := x
  unfold A64
  unfold few7 at hk
  dsimp only at hk ⊢
  refine retA_i _ (c_few ps 30) ?_
  refine loop_n ks.length (fun i => (((), fewB ps 30, (i : Int), ()), (lf, ps, ks, kd, nx, ()), ())) (fun i => allN i (fun j => match ks[j]? with | some k => decide (k.length ≤ 100) | none => true) = true) rfl (by rfl) fun i C hi hP hC => ?_
  dsimp only at hk hC ⊢
  refine lenA_i fun hlen => ifLt (fun h1 => ?_) fun h1 => ?_
  · refine atA_lt h1 (lenA_i fun _ => ifD (fun h => ?_) fun h => ?_)
    · have h : (ks[i].length : Int) > 100 := h
      rw [allN_false h1 (by rw [List.getElem?_eq_getElem h1]; exact decide_eq_false (by omega)), Bool.false_and, Bool.and_false] at hk
      exact hk
    · have h : ¬ (ks[i].length : Int) > 100 := h
      rw [w1 (by omega)]
      refine hC h1 ?_
      rw [allN_snoc, hP, List.getElem?_eq_getElem h1]
      exact decide_eq_true (by omega)
  · obtain rfl : i = ks.length := by omega
    rw [hP, Bool.true_and] at hk
    cases hf : fewB ps 30 with
    | false => rw [hf, Bool.false_and] at hk; exact ifF rfl hk
    | true =>
      rw [hf, Bool.true_and] at hk
      refine ifT rfl (lenA_i fun _ => ifD (fun h => lenA_i fun _ => ?_) fun h => ?_)
      · have h : (ks.length : Int) ≤ 30 := h
        rw [decide_eq_true (by omega : ks.length ≤ 30), Bool.true_and] at hk
        have e : decide ((kd.length : Int) ≤ 30) = decide (kd.length ≤ 30) := by rw [Bool.eq_iff_iff, decide_eq_true_eq, decide_eq_true_eq]; omega
        rw [e]; exact hk
      · have h : ¬ (ks.length : Int) ≤ 30 := h
        rw [decide_eq_false (by omega : ¬ ks.length ≤ 30), Bool.false_and] at hk
        exact hk
theorem few7_ok {x : Nd} (h : few7 x = true) : NdOk x ∧ x.2.2.2.1.length ≤ 30 := by
  unfold few7 at h
  simp only [Bool.and_eq_true, decide_eq_true_eq] at h
  obtain ⟨h1, h2, h3, h4⟩ := h
  have hl := fewB_len h1
  refine ⟨⟨by omega, by omega, by omega, fun p hp => by have := fewB_mem h1 p hp; omega, fun k hk => ?_⟩, h4⟩
  obtain ⟨j, hj, rfl⟩ := List.getElem_of_mem hk
  cases e : decide (x.2.2.1[j].length ≤ 100) with
  | true => rw [decide_eq_true_eq] at e; omega
  | false =>
    rw [allN_false hj (by rw [List.getElem?_eq_getElem hj]; exact e)] at h2
    cases h2
theorem c_aget' {H : HP} {n : Nat} {l : List Nd} {th : List Bool} {fr : List Int} (hn : H n = some ⟨kAR, (l, th, fr)⟩) (hl : th.length = l.length) (ho : ∀ x ∈ l, NdOk x) (i : Int) (K : HT [(true, kNK), (false, .one .bool)] → HP → Prop)
    (hk : ∀ (x : Nd) (s : Sl) H', KidsAt H' s x.2.2.2.1 → NdOk x → H.le H' → (isA l th i = true → ∃ j : Nat, i = (j : Int) ∧ l[j]? = some x) → K (rawN x s, isA l th i, ()) H') : callA Try.prog 69 [(false, .ref), (false, .one (.int .i64))] (some n, i, ()) [(true, kNK), (false, .one .bool)] H K :=
  c_aget hn hl ho i K (fun h => by have := hk zeroNd ⟨none, 0, 0⟩ H (.inl ⟨rfl, rfl⟩) zero_ok (HP.le.refl _) (fun e => by rw [h] at e; cases e); rw [h] at this; exact this)
    fun j x e h hx s H' a b => by have := hk x s H' a (ho _ (List.mem_of_getElem? hx)) b (fun _ => ⟨j, e, hx⟩); rw [h] at this; exact this
end Go.Proofs.Ytbaclnddcobdmaa
