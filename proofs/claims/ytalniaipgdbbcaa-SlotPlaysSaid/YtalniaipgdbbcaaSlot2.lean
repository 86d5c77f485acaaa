/-
  Slots as the document has them, over data.
-/
import Derived.Test.YtalniaipgdbbcaaSlot1
set_option linter.unusedSimpArgs false
set_option linter.unusedVariables false
namespace Go.Proofs.Ytalniaipgdbbcaa
open Go Go.Gp Go.Ga Go.Th
theorem c_rfirst {H : HP} {b : Nat} {s : Sl} {l : List One} (ha : ArrAt H b ONEk 56 s l) (hs : SlAt s b l.length) (hl : l.length ≤ 1000) (st : Int) (K : HT [(false, .one (.int .i64))] → HP → Prop) (hk : K (firS l st, ()) H) : C33 s st H K := callA33 _ _ _ _ (by
  unfold A33
  refine loop_n l.length (fun i => ((s, st, (i : Int), ()), ())) (fun i => ∀ j (h : j < l.length), j < i → ((l[j].1 : Int) == st) = false) rfl (fun j h h0 => absurd h0 (Nat.not_lt_zero j)) fun i C hi hP hC => ?_
  dsimp only at hC ⊢
  rw [slAt_lt hs]
  refine ifLt (fun h1 => ?_) fun h1 => ?_
  · refine arrA_r hs.at0 rfl (by rw [hs.len]; exact h1) (ldE_r ha (List.getElem?_eq_getElem h1) (ifB_i (fun hb => ?_) fun hb => ?_))
    · unfold firS at hk
      rw [(idxI_at (p := fun x : One => (x.1 : Int) == st) h1 hb hP).1] at hk; exact hk
    · rw [w1 (by omega)]
      refine hC h1 fun j h h2 => ?_
      rcases Nat.lt_or_ge j i with h3 | h3
      · exact hP j h h3
      · obtain rfl : j = i := by omega
        exact hb
  · unfold firS at hk
    rw [(idxI_no (p := fun x : One => (x.1 : Int) == st) fun j h => hP j h (by omega)).1] at hk; exact hk)
theorem c_rturn {H : HP} {b : Nat} {s : Sl} {l : List One} (ha : ArrAt H b ONEk 56 s l) (hs : SlAt s b l.length) (i to x y : Int) (K : HT [(false, .one (.int .i64))] → HP → Prop) (hk : K ((turnS l i to [x, y]).1, ()) (H.set b (.arr ONEk 56) (s, (turnS l i to [x, y]).2))) : C26 s i to x y H K := callA26 _ _ _ _ _ _ _ (by
  unfold A26
  unfold turnS at hk
  refine ifD (fun h0 => ?_) fun h0 => ifD (fun h1 => ?_) fun h1 => ?_
  · have h0 : i < 0 := h0
    rw [nthI_out (by omega)] at hk; simp only at hk; rw [hp_same ha] at hk; exact hk
  · have h1 : i ≥ ((s.len : Nat) : Int) := h1
    rw [hs.len] at h1
    rw [nthI_out (by omega)] at hk; simp only at hk; rw [hp_same ha] at hk; exact hk
  · have h0 : ¬ i < 0 := h0
    have h1 : ¬ i ≥ ((s.len : Nat) : Int) := h1
    rw [hs.len] at h1
    obtain ⟨j, rfl, hj, hx⟩ := nthI_in (l := l) (i := i) (by omega) (by omega)
    rw [hx] at hk
    simp only [Int.toNat_natCast, List.mem_cons, List.not_mem_nil, or_false] at hk
    have at' : ∀ {K : Addr → Prop}, K (adr b j) → arrA s (j : Int) 14 K := fun h => arrA_r hs.at0 rfl (by rw [hs.len]; exact hj) h
    have hg := List.getElem?_eq_getElem hj
    refine at' (ldE_r ha hg (ifB_i (fun hb => at' (ldE_r ha hg (ifB_i (fun hb' => ?_) fun hb' => at' (stE_r ha hg ?_)))) fun hb => at' (stE_r ha hg ?_)))
    · have hb : l[j].1 ≠ x := by simpa using hb
      have hb' : l[j].1 ≠ y := by simpa using hb'
      rw [if_neg (by rintro (h | h) <;> contradiction)] at hk
      simp only at hk; rw [hp_same ha] at hk; exact hk
    · have hb' : l[j].1 = y := by simpa using hb'
      rw [if_pos (.inr hb')] at hk; exact hk
    · have hb : l[j].1 = x := by simpa using hb
      rw [if_pos (.inl hb)] at hk; exact hk)
theorem c_rpost {H : HP} {b : Nat} {s : Sl} {l : List One} (ha : ArrAt H b ONEk 56 s l) (hs : SlAt s b l.length) (hl : l.length ≤ 1000) (r : Req) (K : HT [(false, .one (.int .i64)), (false, .one (.int .i64))] → HP → Prop) (hk : K ((postS l r).1, (postS l r).2.1, ()) (H.set b (.arr ONEk 56) (s, (postS l r).2.2))) : C25 s r H K := callA25 _ _ _ _ (by
  unfold A25
  refine retA_i _ (c_qmay _) (ifNot (fun hb => ?_) fun hb => ?_)
  · have hb : mayQ r = false := hb
    unfold postS at hk
    rw [if_pos hb] at hk
    simp only at hk; rw [hp_same ha] at hk; exact hk
  have hb : mayQ r = true := hb
  refine loop_n l.length (fun i => ((s, (), (i : Int), ()), (r.1, r.2.1, r.2.2.1, r.2.2.2.1, r.2.2.2.2.1, r.2.2.2.2.2.1, r.2.2.2.2.2.2.1, r.2.2.2.2.2.2.2, ()), ())) (fun i => ∀ j (h : j < l.length), j < i → twinS r l[j] = false) rfl (fun j h h0 => absurd h0 (Nat.not_lt_zero j)) fun i C hi hP hC => ?_
  dsimp only at hC ⊢
  rw [slAt_lt hs]
  have at' : ∀ {j : Nat} {K : Addr → Prop}, j < l.length → K (adr b j) → arrA s (j : Int) 14 K := fun hj h => arrA_r hs.at0 rfl (by rw [hs.len]; exact hj) h
  refine ifLt (fun h1 => ?_) fun h1 => ?_
  · have hg := List.getElem?_eq_getElem h1
    have next : twinS r l[i] = false → C ((s, (), IntKind.i64.wrap ((i : Int) + 1), ()), (r.1, r.2.1, r.2.2.1, r.2.2.2.1, r.2.2.2.2.1, r.2.2.2.2.2.1, r.2.2.2.2.2.2.1, r.2.2.2.2.2.2.2, ()), ()) H := fun hf => by
      rw [w1 (by omega)]
      refine hC h1 fun j h h2 => ?_
      rcases Nat.lt_or_ge j i with h3 | h3
      · exact hP j h h3
      · obtain rfl : j = i := by omega
        exact hf
    refine at' h1 (ldE_r ha hg (ifB_i (fun h2 => at' h1 (ldE_r ha hg (ifB_i (fun h3 => ?_) fun h3 => next ?_))) fun h2 => next ?_))
    · have ht : l.any (twinS r) = true := List.any_eq_true.2 ⟨l[i], List.getElem_mem h1, by unfold twinS; rw [if_pos h2]; exact h3⟩
      unfold postS at hk
      rw [if_neg (by rw [hb]; simp), if_pos ht] at hk
      simp only at hk; rw [hp_same ha] at hk; exact hk
    · unfold twinS; rw [if_pos h2]; exact h3
    · unfold twinS; rw [if_neg (by rw [h2]; simp)]
  · have ht : l.any (twinS r) = false := by
      rw [List.any_eq_false]
      intro x hx
      obtain ⟨j, hj, rfl⟩ := List.getElem_of_mem hx
      rw [hP j hj (by omega)]; simp
    refine retH_r _ (c_rfirst ha hs hl 0) ?_
    unfold postS at hk
    rw [if_neg (by rw [hb]; simp), if_neg (by rw [ht]; simp)] at hk
    cases hi' : l.findIdx? (fun x => (x.1 : Int) == 0) with
    | none =>
      have hf : firS l 0 < 0 := idxI_neg.2 hi'
      rw [hi'] at hk
      simp only at hk; rw [hp_same ha] at hk
      exact ifT (decide_eq_true hf) hk
    | some q =>
      have hlt := (List.findIdx?_eq_some_iff_getElem.1 hi').1
      have hfi : firS l 0 = (q : Int) := by unfold firS idxI; rw [hi']
      rw [hi'] at hk
      refine ifF (decide_eq_false (by show ¬ firS l 0 < 0; rw [hfi]; omega)) ?_
      refine arrA_r hs.at0 hfi (by rw [hs.len]; exact hlt) (stE_r ha (List.getElem?_eq_getElem hlt) ?_)
      show K (firS l 0, _) _
      rw [hfi]
      exact hk)
theorem c_rtake {H : HP} {b : Nat} {s : Sl} {l : List One} (ha : ArrAt H b ONEk 56 s l) (hs : SlAt s b l.length) (i c q : Int) (K : HT [(true, RSk), (false, .one (.int .i64))] → HP → Prop) (hk : K ((takeS l i c q).1, (takeS l i c q).2.1, ()) (H.set b (.arr ONEk 56) (s, (takeS l i c q).2.2))) : C28 s i c q H K := callA28 _ _ _ _ _ _ (by
  unfold A28
  unfold takeS at hk
  refine ifD (fun h0 => ?_) fun h0 => ifD (fun h1 => ?_) fun h1 => ?_
  · have h0 : i < 0 := h0
    rw [nthI_out (by omega)] at hk; simp only at hk; rw [hp_same ha] at hk; exact hk
  · have h1 : i ≥ ((s.len : Nat) : Int) := h1
    rw [hs.len] at h1
    rw [nthI_out (by omega)] at hk; simp only at hk; rw [hp_same ha] at hk; exact hk
  · have h0 : ¬ i < 0 := h0
    have h1 : ¬ i ≥ ((s.len : Nat) : Int) := h1
    rw [hs.len] at h1
    obtain ⟨j, rfl, hj, hx⟩ := nthI_in (l := l) (i := i) (by omega) (by omega)
    rw [hx] at hk
    simp only [Int.toNat_natCast] at hk
    have at' : ∀ {K : Addr → Prop}, K (adr b j) → arrA s (j : Int) 14 K := fun h => arrA_r hs.at0 rfl (by rw [hs.len]; exact hj) h
    have hg := List.getElem?_eq_getElem hj
    refine at' (ldE_r ha hg (ifB_i (fun e0 => ?_) fun e0 => ifB_i (fun e1 => ?_) fun e1 => ifB_i (fun e2 => ?_) fun e2 => ifD (fun e3 => ?_) fun e3 => at' (stE_r ha hg (ifB_i (fun e4 => ?_) fun e4 => ?_))))
    · rw [if_pos (.inl (by simpa using e0))] at hk; simp only at hk; rw [hp_same ha] at hk; exact hk
    · rw [if_pos (.inr (.inl (by simpa using e1)))] at hk; simp only at hk; rw [hp_same ha] at hk; exact hk
    · rw [if_pos (.inr (.inr (by simpa using e2)))] at hk; simp only at hk; rw [hp_same ha] at hk; exact hk
    all_goals
      have e0 : l[j].1 ≠ 0 := by simpa using e0
      have e1 : l[j].2.1.1 = c := by simpa using e1
      have e2 : l[j].2.1.2.1 = q := by simpa using e2
      rw [if_neg (by rintro (h | h | h) <;> contradiction)] at hk
    · rw [if_pos e3] at hk; simp only at hk; rw [hp_same ha] at hk; exact hk
    · rw [if_neg e3, if_pos (by simpa using e4)] at hk; exact hk
    · rw [if_neg e3, if_neg (by simpa using e4)] at hk; exact hk)
theorem turnS_two (l : List One) (i to x : Int) : turnS l i to [x, x] = turnS l i to [x] := by
  unfold turnS
  cases nthI l i with
  | none => rfl
  | some y => simp
end Go.Proofs.Ytalniaipgdbbcaa
