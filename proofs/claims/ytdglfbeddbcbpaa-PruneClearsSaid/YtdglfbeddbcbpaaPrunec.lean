/-
  Pruning: all in a range is deleted.
-/
import Derived.Test.YtdglfbeddbcbpaaKp
set_option linter.unusedSimpArgs false
set_option linter.unusedVariables false
namespace Go.Proofs.Ytdglfbeddbcbpaa
open Go Go.Gp Go.Ga Go.Th
def clrR (r : Key × Key) (l : List Pr) : List Pr := l.filter fun p => !inR r.1 r.2 p.1
def inN (r : Key × Key) (l : List Pr) : Nat := (l.filter fun p => inR r.1 r.2 p.1).length
theorem in_clr (r : Key × Key) (l : List Pr) : inN r l + (clrR r l).length = l.length := by
  unfold inN clrR
  induction l with
  | nil => rfl
  | cons a l ih =>
    cases h : inR r.1 r.2 a.1 <;> simp [List.filter_cons, h] at ih ⊢ <;> omega
theorem clr_step {r : Key × Key} {l : List Pr} {i : Nat} (hs : SortK (keys l)) (hi : i < l.length) (hin : inR r.1 r.2 l[i].1 = true) : delR (clrR r (l.take i) ++ l.drop i) l[i].1 = clrR r (l.take (i + 1)) ++ l.drop (i + 1) ∧ hasR (clrR r (l.take i) ++ l.drop i) l[i].1 = true := by
  have hd : l.drop i = l[i] :: l.drop (i + 1) := (List.getElem_cons_drop (h := hi)).symm
  have hne : ∀ p ∈ l.take i ++ l.drop (i + 1), p.1 ≠ l[i].1 := fun p hp => by
    have h1 := sortK_keys.1 hs
    have h2 : (l.take i ++ l[i] :: l.drop (i + 1)).Pairwise fun a b => lessL a.1 b.1 = true := by rw [← hd, List.take_append_drop]; exact h1
    rw [List.pairwise_append, List.pairwise_cons] at h2
    rcases List.mem_append.1 hp with hp | hp
    · exact less_ne (h2.2.2 p hp l[i] List.mem_cons_self)
    · exact (less_ne (h2.2.1.1 p hp)).symm
  constructor
  · rw [hd, List.take_succ_eq_append_getElem hi]
    unfold delR clrR
    rw [List.filter_append, List.filter_append, List.filter_cons]
    rw [filt_all (l := (l.take i).filter _) (fun p hp => by simp [hne p (List.mem_append.2 (.inl (List.mem_filter.1 hp).1))]), filt_all (l := l.drop (i + 1)) (fun p hp => by simp [hne p (List.mem_append.2 (.inr hp))])]
    simp [hin]
  · unfold hasR getR
    cases hf : (clrR r (l.take i) ++ l.drop i).find? (fun p => p.1 == l[i].1) with
    | some x => rfl
    | none =>
      have := List.find?_eq_none.1 hf l[i] (List.mem_append.2 (.inr (by rw [hd]; exact List.mem_cons_self)))
      simp at this
theorem clr_skip {r : Key × Key} {l : List Pr} {i : Nat} (hi : i < l.length) (hin : inR r.1 r.2 l[i].1 = false) : clrR r (l.take i) ++ l.drop i = clrR r (l.take (i + 1)) ++ l.drop (i + 1) := by
  rw [List.take_succ_eq_append_getElem hi]
  unfold clrR
  rw [List.filter_append]
  simp [hin]
theorem inN_step {r : Key × Key} {l : List Pr} {i : Nat} (hi : i < l.length) : inN r (l.take (i + 1)) = inN r (l.take i) + (if inR r.1 r.2 l[i].1 = true then 1 else 0) := by
  unfold inN
  rw [List.take_succ_eq_append_getElem hi, List.filter_append, List.length_append]
  cases h : inR r.1 r.2 l[i].1 <;> simp [h]
theorem c_pclear {H : HP} {t n o : Nat} {l : List Pr} (hT : TreeIs H t n o l (l.length : Int)) (h3 : 3 ≤ o) (h16 : o ≤ 16) (hb : l.length ≤ 1000) (r : Key × Key) {K : HT [(false, .one (.int .i64)), (false, .one .any)] → HP → Prop}
    (k0 : soundR r.1 r.2 = false → K (0, eC 1, ()) H) (k1 : soundR r.1 r.2 = true → ∀ H', TreeIs H' t n o (clrR r l) ((clrR r l).length : Int) → K ((inN r l : Nat), .nilIface, ()) H') : C54 (some t) r H K := callA54 _ _ _ _ (by
  unfold A54
  refine ifF rfl (retA_i _ (c_ksound r) (ifNot (fun hs => k0 hs) fun hs => hT.pairs h3 (by omega) (lenA_i fun _ => ?_)))
  have hrow := hT.row
  refine loop_h l.length (fun i v H' => v = ((some t, (), (inN r (l.take i) : Int), l, (l.length : Int), (i : Int), ()), (r.1, r.2, ()), ()) ∧ TreeIs H' t n o (clrR r (l.take i) ++ l.drop i) ((clrR r (l.take i) ++ l.drop i).length : Int)) ⟨by simp [inN], by simpa [clrR] using hT⟩ ?_
  rintro i v H2 C hi ⟨rfl, hT2⟩ hC
  dsimp only at hC ⊢
  have hlen : (clrR r (l.take i) ++ l.drop i).length ≤ l.length := by
    have := in_clr r (l.take i)
    simp only [List.length_append, List.length_take, List.length_drop] at this ⊢
    omega
  have hn1 := in_clr r (l.take i)
  simp only [List.length_take] at hn1
  refine ifLt (fun hlt => ?_) fun hge => ?_
  · have hst := inN_step (r := r) hlt
    refine atA_lt hlt (retA_i _ (c_kin r _) (ifNot (fun hin => ?_) fun hin => ?_))
    · have hin : inR r.1 r.2 l[i].1 = false := hin
      rw [hin] at hst
      rw [w1 (by omega)]
      refine hC hlt _ _ ⟨by rw [hst]; simp, ?_⟩
      rw [← clr_skip hlt hin]; exact hT2
    · have hin : inR r.1 r.2 l[i].1 = true := hin
      rw [hin] at hst
      obtain ⟨e1, e2⟩ := clr_step hrow.sort hlt hin
      refine tree_del hT2 h3 h16 (by omega) _ fun H3 hf3 hT3 => ⟨rfl, ifF rfl ?_⟩
      rw [e1] at hT3
      rw [w1 (by omega), w1 (by omega)]
      exact hC hlt _ _ ⟨by rw [hst]; simp, hT3⟩
  · have hil : i = l.length := by omega
    subst hil
    rw [List.take_length, List.drop_length, List.append_nil] at hT2
    rw [List.take_length]
    exact k1 hs H2 hT2)
end Go.Proofs.Ytdglfbeddbcbpaa
