/-
  Joining two trees; the laws of joining.
-/
import Derived.Test.YtdglfbeddbcbpaaKw
import Derived.Test.YtdglfbeddbcbpaaConc
set_option linter.unusedSimpArgs false
set_option linter.unusedVariables false
namespace Go.Proofs.Ytdglfbeddbcbpaa
open Go Go.Gp Go.Ga Go.Th
theorem tree_root {H : HP} {t n o : Nat} {ps : List Pr} {many : Int} (h : TreeIs H t n o ps many) : ∃ i : Int, H t = some ⟨TRk, (some n, i, (o : Int), many)⟩ := by
  obtain ⟨hh, T, v, f, u, h, rfl⟩ := h
  exact ⟨_, h.ht⟩
/-- Two trees' rows do not meet: what is joined is a row. -/
def meetB (a b : List Pr) : Bool := match a.getLast?, b.head? with
  | some x, some y => lessL x.1 y.1
  | _, _ => true
theorem meet_row {a b : List Pr} (ha : IsRow a) (hb : IsRow b) : isRowB (a ++ b) = meetB a b := by
  rcases List.eq_nil_or_concat a with rfl | ⟨a', x, rfl⟩
  · rw [List.nil_append, isRowB_iff.2 hb]; rfl
  cases b with
  | nil =>
    rw [List.append_nil, isRowB_iff.2 ha]
    unfold meetB
    simp
  | cons y b =>
    have hm : meetB (a'.concat x) (y :: b) = lessL x.1 y.1 := by unfold meetB; simp
    rw [hm]
    cases hl : lessL x.1 y.1 with
    | false =>
      cases hr : isRowB (a'.concat x ++ y :: b) with
      | false => rfl
      | true =>
        have h1 := (isRowB_iff.1 hr).sort
        unfold keys at h1
        rw [List.map_append] at h1
        have := (sortK_append.1 h1).2.2 x.1 (by simp) y.1 (by simp)
        rw [hl] at this; cases this
    | true =>
      refine isRowB_iff.2 ⟨?_, fun p hp => (List.mem_append.1 hp).elim (ha.may p) (hb.may p), fun p hp => (List.mem_append.1 hp).elim (ha.fair p) (hb.fair p)⟩
      unfold keys
      rw [List.map_append]
      have h1 := ha.sort
      have h2 := hb.sort
      unfold keys at h1 h2
      refine sortK_append.2 ⟨h1, h2, fun u hu v hv => ?_⟩
      have hux : u = x.1 ∨ lessL u x.1 = true := by
        rw [List.concat_eq_append, List.map_append] at h1 hu
        rcases List.mem_append.1 hu with hu | hu
        · exact .inr ((sortK_append.1 h1).2.2 u hu x.1 (by simp))
        · exact .inl (by simpa using hu)
      have hyv : v = y.1 ∨ lessL y.1 v = true := by
        rw [List.map_cons] at h2 hv
        rcases List.mem_cons.1 hv with hv | hv
        · exact .inl hv
        · exact .inr ((List.pairwise_cons.1 h2).1 v hv)
      have h3 : lessL u y.1 = true := by
        rcases hux with rfl | hux
        · exact hl
        · exact less_trans hux hl
      rcases hyv with rfl | hyv
      · exact h3
      · exact less_trans h3 hyv
/-- The error's number of a join. -/
def joinC (o1 o2 : Nat) (a b : List Pr) : Nat := if o1 ≠ o2 then 1 else if isRowB (a ++ b) = false then 6 else 0
theorem c_join {H : HP} {t1 n1 o1 t2 n2 o2 : Nat} {a b : List Pr} (T1 : TreeIs H t1 n1 o1 a (a.length : Int)) (T2 : TreeIs H t2 n2 o2 b (b.length : Int)) (h1 : 3 ≤ o1) (h2 : o1 ≤ 16) (h3 : 3 ≤ o2) (hb : a.length + b.length ≤ 1000) {K : HT [(false, .ref), (false, .one .any)] → HP → Prop}
    (k : ∀ p e H', FmN H H' → (joinC o1 o2 a b ≠ 0 → p = none ∧ e = eC (joinC o1 o2 a b)) → (joinC o1 o2 a b = 0 → ∃ t n, p = some t ∧ e = .nilIface ∧ H t = none ∧ H n = none ∧ t ≠ n ∧ TreeIs H' t n o1 (a ++ b) ((a ++ b).length : Int)) → K (p, e, ()) H') : C50 (some t1) (some t2) H K := callA50 _ _ _ _ (by
  unfold A50
  obtain ⟨i1, r1⟩ := tree_root T1
  obtain ⟨i2, r2⟩ := tree_root T2
  have hra := T1.row
  have hrb := T2.row
  have stop : ∀ z : Nat, joinC o1 o2 a b = z → z ≠ 0 → K (none, eC z, ()) H := fun z hz hz0 => k _ _ H (FmN.refl _) (fun _ => ⟨rfl, by rw [hz]⟩) fun h => absurd (hz.symm.trans h) hz0
  refine ifF rfl (ifF rfl (refA_i (ldO_i r1 (refA_i (ldO_i r2 ?_)))))
  dsimp only
  refine ifN (fun hne => ?_) fun heq => ?_
  · exact stop 1 (if_pos (fun e => hne (by rw [e]))) (by decide)
  have heq : o1 = o2 := by omega
  have hmr := meet_row hra hrb
  have done : isRowB (a ++ b) = true → retA Try.prog 82 [(false, .row (.row kPR))] ([a, b], ()) [(false, .row kPR)] fun x => callA Try.prog 47 [(false, .one (.int .i64)), (false, .row kPR)] ((o1 : Int), x.1, ()) [(false, .ref), (false, .one .any)] H fun y H' => K (y.1, y.2.1, ()) H' := fun hrow => by
    refine retA_i _ (c_concP [a, b] (by simp) (by simp [lensB]; omega)) ?_
    have e : [a, b].flatten = a ++ b := by simp
    rw [e]
    have hj : joinC o1 o2 a b = 0 := by unfold joinC; rw [if_neg (fun h => h heq), if_neg (by rw [hrow]; simp)]
    have hl : loadC (o1 : Int) (a ++ b) = 0 := by unfold loadC; rw [if_neg (by rw [hrow]; simp; omega), if_neg (by simp; omega)]
    refine c_load (o1 : Int) (a ++ b) (by simp; omega) (fun h => absurd hl h) fun _ q t n H1 hq h5 h6 h7 h8 ht hn hne hfm hT => k _ _ H1 hfm (fun h => absurd hj h) fun _ => ⟨t, n, rfl, rfl, ht, hn, hne, ?_⟩
    have : q = o1 := by omega
    rw [← this]; exact hT
  refine retH_i _ (fun K' hk' => T1.pairs h1 (by omega) hk') (retH_i _ (fun K' hk' => T2.pairs h3 (by omega) hk') (lenA_i fun _ => ifD (fun hpa => lenA_i fun _ => ifD (fun hpb => lenA_i fun _ => ?_) fun h0 => ?_) fun h0 => ?_))
  · obtain ⟨x, a', rfl⟩ : ∃ x a', a = a' ++ [x] := by
      rcases List.eq_nil_or_concat a with rfl | ⟨a', x, rfl⟩
      · simp at hpa
      · exact ⟨x, a', by simp⟩
    cases b with
    | nil => simp at hpb
    | cons y b =>
      simp only [meetB, List.getLast?_append, List.getLast?_singleton, Option.some_or, List.head?_cons] at hmr
      have hal : (a' ++ [x]).length = a'.length + 1 := by simp
      dsimp only
      refine atA_z (i := a'.length) (by rw [show (((a' ++ [x]).length : Nat) : Int) - 1 = (a'.length : Int) from by omega, w64 (by omega) (by omega)]) (by simp) (atA_g (i := 0) rfl (x := y) rfl ?_)
      simp only [List.getElem_append_right (Nat.le_refl _), Nat.sub_self, List.getElem_cons_zero]
      refine retA_i _ (c_kcmp _ _) ?_
      rw [cmpL_ge']
      refine ifNot (fun hl => ?_) fun hl => refA_i (ldO_i r1 (done (by rw [hmr]; exact hl)))
      exact stop 6 (by unfold joinC; rw [if_neg (fun h => h heq), if_pos (by rw [hmr]; exact hl)]) (by decide)
  · refine refA_i (ldO_i r1 (done ?_))
    have : b = [] := by cases b with | nil => rfl | cons y b => exact absurd (by simp) h0
    rw [this, List.append_nil]; exact isRowB_iff.2 hra
  · refine refA_i (ldO_i r1 (done ?_))
    have : a = [] := by cases a with | nil => rfl | cons y b => exact absurd (by simp) h0
    rw [this]; exact isRowB_iff.2 hrb)
end Go.Proofs.Ytdglfbeddbcbpaa

