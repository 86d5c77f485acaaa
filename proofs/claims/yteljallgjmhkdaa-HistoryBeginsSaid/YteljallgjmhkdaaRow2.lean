/-
  Keys and rows over data: the program's own functions.
-/
import Derived.Test.YteljallgjmhkdaaRow1
import Derived.Test.YteljallgjmhkdaaLib1
set_option linter.unusedSimpArgs false
set_option linter.unusedVariables false
namespace Go.Proofs.Yteljallgjmhkdaa
open Go Go.Gp Go.Ga Go.Th
theorem c_kmay (a : Key) : S42 a (mayB a, ()) := pure42 a fun H K hk => by
  unfold A42
  refine lenA_i fun _ => ifD (fun h => lenA_i fun _ => ?_) fun h => ?_
  · have : mayB a = decide ((a.length : Int) ≤ 16) := by unfold mayB; rw [Bool.eq_iff_iff]; simp; omega
    rw [← this]; exact hk
  · have : mayB a = false := by unfold mayB; simp; omega
    rw [← this]; exact hk
theorem c_kfair (a : Key) : S41 a (fairB a, ()) := pure41 a fun H K hk => by
  unfold A41
  refine lenA_i fun _ => ?_
  have : fairB a = decide ((a.length : Int) ≤ 32) := by unfold fairB; rw [decide_eq_decide]; omega
  rw [← this]; exact hk
theorem c_kcmp (a b : Key) : S21 a b (cmpL a b, ()) := pure21 a b fun H K hk => by
  unfold A21
  exact retA_i _ (c_bcompare a b) hk
theorem c_kin (r : Key × Key) (k : Key) : S50 r k (inR r.1 r.2 k, ()) := pure50 r k fun H K hk => by
  unfold A50
  refine retA_i _ (c_kcmp _ _) ?_
  rw [cmpL_le']
  refine ifNot (fun h => lenA_i fun _ => ifE (fun h0 => ?_) fun h0 => retA_i _ (c_kcmp _ _) ?_) fun h => ?_ <;> unfold inR at hk <;> rw [h] at hk
  · rw [decide_eq_true (p := r.2.length = 0) (by omega)] at hk; exact hk
  · rw [decide_eq_false (p := r.2.length = 0) (by omega)] at hk; rw [cmpL_neg']; exact hk
  · exact hk
theorem c_ksound (r : Key × Key) : S43 r (soundR r.1 r.2, ()) := pure43 r fun H K hk => by
  unfold A43
  refine lenA_i fun _ => ifD (fun h1 => lenA_i fun _ => ifD (fun h2 => lenA_i fun _ => ifE (fun h0 => ?_) fun h0 => retA_i _ (c_kcmp _ _) ?_) fun h2 => ?_) fun h1 => ?_ <;> unfold soundR at hk
  · rw [decide_eq_true (p := r.1.length ≤ 16) (by omega), decide_eq_true (p := r.2.length ≤ 16) (by omega), decide_eq_true (p := r.2.length = 0) (by omega)] at hk; exact hk
  · rw [decide_eq_true (p := r.1.length ≤ 16) (by omega), decide_eq_true (p := r.2.length ≤ 16) (by omega), decide_eq_false (p := r.2.length = 0) (by omega)] at hk; rw [cmpL_neg']; exact hk
  · rw [decide_eq_true (p := r.1.length ≤ 16) (by omega), decide_eq_false (p := r.2.length ≤ 16) (by omega)] at hk; exact hk
  · rw [decide_eq_false (p := r.1.length ≤ 16) (by omega)] at hk; exact hk
theorem c_find1 (p : Pr) (k : Key) : S56 p k (cmpL p.1 k, ()) := pure56 p k fun H K hk => by
  unfold A56
  exact retA_i _ (c_kcmp _ _) hk
theorem half (i j : Nat) (h : i + j < 9223372036854775807) : IntKind.i64.wrap (shrI .u64 (IntKind.u64.wrap (IntKind.i64.wrap ((i : Int) + (j : Int)))) 1) = (((i + j) / 2 : Nat) : Int) := by
  rw [w64 (x := (i : Int) + j) (by omega) (by omega)]
  have h1 : IntKind.u64.wrap ((i : Int) + (j : Int)) = ((i + j : Nat) : Int) := by
    unfold IntKind.wrap
    simp only [IntKind.signed, IntKind.bits, Bool.false_and, Bool.false_eq_true, if_false]
    omega
  rw [h1]
  have h2 : shrI .u64 ((i + j : Nat) : Int) 1 = (((i + j) / 2 : Nat) : Int) := by
    unfold shrI
    have : (2 : Int) ^ (min ((1 : Int).toNat) IntKind.u64.bits) = 2 := by decide
    rw [this, Int.fdiv_eq_ediv_of_nonneg _ (by omega)]
    omega
  rw [h2, w64 (by omega) (by omega)]
theorem c_search (l : List Pr) (k : Key) (hs : SortK (keys l)) (hl : l.length ≤ 1000000000) : S55 l k ((lb l k : Nat), hasR l k, ()) := pure55 l k fun H K hk => by
  unfold A55
  refine lenA_i fun _ => ?_
  refine LoopA_i (fun v H' => H' = H ∧ ∃ i j : Nat, v = ((l, k, (), (l.length : Int), (i : Int), (j : Int), ()), ()) ∧ i ≤ j ∧ j ≤ l.length ∧ (∀ q p, q < i → l[q]? = some p → lessL p.1 k = true) ∧ (∀ q p, j ≤ q → l[q]? = some p → lessL p.1 k = false)) (fun v _ => (v.1.2.2.2.2.2.1 - v.1.2.2.2.2.1).toNat) ⟨rfl, 0, l.length, rfl, Nat.zero_le _, Nat.le_refl _, fun q p h => absurd h (Nat.not_lt_zero _), fun q p h hp => by rw [List.getElem?_eq_none h] at hp; cases hp⟩ ?_
  rintro v H' ⟨rfl, i, j, rfl, hij, hjl, h1, h2⟩
  dsimp only
  refine ifLt (fun h => ?_) fun h => ?_
  · rw [half i j (by omega)]
    have hm : (i + j) / 2 < l.length := by omega
    refine ⟨by omega, atA_lt hm ?_⟩
    refine (c_find1 _ _).call ?_
    dsimp only
    refine ifD (fun hc => ?_) fun hc => ?_
    · rw [w1 (by omega)]
      have hless := cmpL_lt.1 hc
      refine ⟨⟨rfl, (i + j) / 2 + 1, j, rfl, by omega, hjl, fun q p hq hp => ?_, h2⟩, by omega⟩
      rcases Nat.lt_or_ge q ((i + j) / 2) with h3 | h3
      · have h4 := hs.get (i := q) (j := (i + j) / 2) h3 (by rw [keys_get, hp]; rfl) (by rw [keys_get, List.getElem?_eq_getElem hm]; rfl)
        exact less_trans h4 hless
      · obtain rfl : q = (i + j) / 2 := by omega
        rw [List.getElem?_eq_getElem hm] at hp
        injection hp with hp
        subst hp; exact hless
    · have hless : lessL l[(i + j) / 2].1 k = false := by
        cases hb : lessL l[(i + j) / 2].1 k with
        | false => rfl
        | true => exact absurd (cmpL_lt.2 hb) hc
      refine ⟨⟨rfl, i, (i + j) / 2, rfl, by omega, by omega, h1, fun q p hq hp => ?_⟩, by omega⟩
      rcases Nat.lt_or_ge ((i + j) / 2) q with h3 | h3
      · have h4 := hs.get (i := (i + j) / 2) (j := q) h3 (by rw [keys_get, List.getElem?_eq_getElem hm]; rfl) (by rw [keys_get, hp]; rfl)
        cases hb : lessL p.1 k with
        | false => rfl
        | true => rw [less_trans h4 hb] at hless; cases hless
      · obtain rfl : q = (i + j) / 2 := by omega
        rw [List.getElem?_eq_getElem hm] at hp
        injection hp with hp
        subst hp; exact hless
  · obtain rfl : i = j := by omega
    have hlb : lb l k = i := lb_eq hjl h1 fun p hp => h2 i p (Nat.le_refl _) hp
    have hat : hasR l k = atB l i k := by rw [← hlb, atB_has hs]
    rw [hlb, hat] at hk
    refine ifLt (fun hlt => atA_lt hlt ((c_find1 _ _).call ?_)) fun hge => ?_
    · unfold atB at hk
      rw [List.getElem?_eq_getElem hlt] at hk
      have : ((cmpL l[i].1 k : Int) == 0) = decide (l[i].1 = k) := by rw [Bool.eq_iff_iff]; simp [cmpL_eq]
      dsimp only
      rw [this]; exact hk
    · unfold atB at hk
      rw [List.getElem?_eq_none hge] at hk
      exact hk
theorem c_find (l : List Pr) (k : Key) (hs : SortK (keys l)) (hl : l.length ≤ 1000000000) : S51 l k ((lb l k : Nat), hasR l k, ()) := pure51 l k fun H K hk => by
  unfold A51
  exact retA_i _ (c_search l k hs hl) hk
theorem c_one (k v : Key) (hk1 : k.length ≤ 140737488355328) (hv1 : v.length ≤ 140737488355328) : S22 k v ((k, v), ()) := pure22 k v fun H K hk => by
  unfold A22
  exact retA_i _ (c_bclone k hk1) (retA_i _ (c_bclone v hv1) hk)
theorem c_copied (l : List Pr) (hl : l.length ≤ 1000000) (hs : Short l) (H : HP) (K : HT [(false, .own (.cons (.row .byte) (.row .byte)) 45)] → HP → Prop) (hk : K (l, ()) H) : C52 l H K := callA52 l H K (by
  unfold A52
  refine lenA_i fun _ => ?_
  refine loop_n l.length (fun i => ((l.take i, l, (l.length : Int), (i : Int), ()), ())) (fun _ => True) rfl trivial fun i C hi _ hC => ?_
  dsimp only at hC ⊢
  refine ifLt (fun h1 => ?_) fun h1 => ?_
  · have hp := hs _ (List.getElem_mem h1)
    refine atA_lt h1 (retA_i _ (c_one _ _ hp.1 hp.2) (appA_i (by simp; omega) ?_))
    rw [w1 (by omega)]
    have := hC h1 trivial
    rwa [take_snoc h1] at this
  · obtain rfl : i = l.length := by omega
    rw [List.take_length]; exact hk)
abbrev eC (n : Int) : Value := .iface 97 (.int .i64 n)
theorem hasR_at {l : List Pr} (hs : SortK (keys l)) {k : Key} (h : hasR l k = true) : ∃ p, l[lb l k]? = some p ∧ p.1 = k := by
  rw [← atB_has hs] at h
  unfold atB at h
  split at h
  · rename_i p hp; exact ⟨p, hp, by simpa using h⟩
  · cases h
theorem hasR_no {l : List Pr} {k : Key} (h : hasR l k = false) : getR l k = none := by
  unfold hasR at h
  rwa [Option.isSome_eq_false_iff, Option.isNone_iff_eq_none] at h
def putA' (l : List Pr) (k v : Key) : List Pr × Bool × Value × Unit := if (mayB k && fairB v) = true then (putR l k v, !hasR l k, .nilIface, ()) else ([], false, eC 1, ())
theorem putA_yes {l : List Pr} {k v : Key} (h : (mayB k && fairB v) = true) : putA' l k v = (putR l k v, !hasR l k, .nilIface, ()) := if_pos h
theorem c_put (l : List Pr) (k v : Key) (hs : SortK (keys l)) (hl : l.length ≤ 1000000) (hsh : Short l) (hk1 : k.length ≤ 140737488355328) (hv1 : v.length ≤ 140737488355328) : S49 l k v (putA' l k v) := pure49 l k v fun H K hk => by
  unfold A49
  unfold putA' at hk
  refine retA_i _ (c_kmay _) (ifNot (fun h => ?_) fun h => retA_i _ (c_kfair _) (ifNot (fun h' => ?_) fun h' => ?_))
  · simp only at h; rw [if_neg (by rw [h]; simp)] at hk; exact hk
  · simp only at h h'; rw [if_neg (by rw [h']; simp)] at hk; exact hk
  simp only at h h'
  rw [if_pos (by rw [h, h']; rfl)] at hk
  have hb := lb_le l k
  refine retA_i _ (c_find l k hs (by omega)) (c_copied l hl hsh _ _ ?_)
  dsimp only
  refine ifB_i (fun hh => retA_i _ (c_one _ _ hk1 hv1) ?_) fun hh => retA_i _ (c_one _ _ hk1 hv1) ?_
  · obtain ⟨p, hp, he⟩ := hasR_at hs hh
    have hlt := (List.getElem?_eq_some_iff.1 hp).1
    refine ⟨by omega, by omega, elA_i hp ?_⟩
    rw [put_old hs hp he, hh] at hk
    exact hk
  · refine c_insP l _ (lb l k) hb (by simp; omega) ?_
    rw [put_new hs (hasR_no hh), hh] at hk
    rw [List.append_assoc]
    exact hk
theorem c_delete (l : List Pr) (k : Key) (hs : SortK (keys l)) (hl : l.length ≤ 1000000) (hsh : Short l) : S48 l k (delR l k, hasR l k, ()) := pure48 l k fun H K hk => by
  unfold A48
  have hb := lb_le l k
  refine retA_i _ (c_find l k hs (by omega)) (c_copied l hl hsh _ _ (JoinA_i ?_))
  dsimp only
  refine ifB_i (fun hh => ?_) fun hh => ?_
  · obtain ⟨p, hp, he⟩ := hasR_at hs hh
    have hlt := (List.getElem?_eq_some_iff.1 hp).1
    rw [w1 (by omega)]
    refine c_delP l (lb l k) (lb l k + 1) (by omega) (by omega) (by omega) ?_
    rw [del_at hs hp he] at hk
    exact hk
  · rw [del_none (hasR_no hh)] at hk
    exact hk
end Go.Proofs.Yteljallgjmhkdaa
