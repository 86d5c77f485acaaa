/-
  Histories: contracts of what compares answers, of the bounds; rules of maps.
-/
import Derived.Test.YteljallgjmhkdaaDhist
import Derived.Test.YteljallgjmhkdaaOmap2
import Derived.Test.YteljallgjmhkdaaKd
import Derived.Test.YteljallgjmhkdaaKt
set_option linter.unusedSimpArgs false
set_option linter.unusedVariables false
namespace Go.Proofs.Yteljallgjmhkdaa
open Go Go.Gp Go.Ga Go.Th
theorem mGet_has {α : Type} {k : Int} {z : α} : ∀ {l : List (Int × Nat × α)}, mHas k l = false → mGet k z l = z
  | [], _ => rfl
  | q :: l, h => by
    simp only [mHas] at h
    split at h <;> first | (cases h; done) | skip
    rename_i hq
    simp only [mGet, if_neg hq]; exact mGet_has h
theorem mHas_mem {α : Type} {k : Int} : ∀ {l : List (Int × Nat × α)}, mHas k l = true ↔ k ∈ l.map (·.1)
  | [] => by simp [mHas]
  | q :: l => by
    simp only [mHas, List.map_cons, List.mem_cons]
    split
    · rename_i h; simp [h]
    · rename_i h; rw [mHas_mem]; simp [Ne.symm h]
theorem mGet_put {α : Type} {k c : Int} {x z : α} : ∀ {l : List (Int × Nat × α)}, mHas k l = true → mGet c z (mPut k x l) = if c = k then x else mGet c z l
  | [], h => by cases h
  | q :: l, h => by
    simp only [mPut]
    by_cases hq : q.1 = k
    · rw [if_pos hq]
      simp only [mGet, hq]
      by_cases hc : c = k
      · rw [if_pos hc, if_pos hc.symm]
      · rw [if_neg hc, if_neg (fun e => hc e.symm), if_neg (fun e => hc e.symm)]
    · rw [if_neg hq]
      simp only [mHas, if_neg hq] at h
      simp only [mGet]
      by_cases hc : q.1 = c
      · rw [if_pos hc, if_pos hc, if_neg (fun e => hq (hc.trans e))]
      · rw [if_neg hc, if_neg hc]; exact mGet_put h
theorem mGet_push {α : Type} {k c : Int} {n : Nat} {x z : α} : ∀ {l : List (Int × Nat × α)}, mHas k l = false → mGet c z (l ++ [(k, n, x)]) = if c = k then x else mGet c z l
  | [], _ => by
    simp only [List.nil_append, mGet]
    by_cases hc : c = k
    · rw [if_pos hc, if_pos hc.symm]
    · rw [if_neg hc, if_neg (fun e => hc e.symm)]
  | q :: l, h => by
    simp only [mHas] at h
    split at h <;> first | (cases h; done) | skip
    rename_i hq
    simp only [List.cons_append, mGet]
    by_cases hc : q.1 = c
    · rw [if_pos hc, if_pos hc, if_neg (fun e => hq (hc.trans e))]
    · rw [if_neg hc, if_neg hc]; exact mGet_push h
theorem mGet_upd {α : Type} (k c : Int) (n : Nat) (x z : α) (l : List (Int × Nat × α)) : mGet c z (mUpd k x n l).2 = if c = k then x else mGet c z l := by
  unfold mUpd
  cases h : mHas k l with
  | true => exact mGet_put h
  | false => exact mGet_push h
theorem keys_put {α : Type} {k : Int} {x : α} : ∀ {l : List (Int × Nat × α)}, (mPut k x l).map (·.1) = l.map (·.1)
  | [] => rfl
  | q :: l => by
    simp only [mPut]
    split
    · rfl
    · simp only [List.map_cons, keys_put]
theorem nodup_upd {α : Type} {k : Int} {n : Nat} {x : α} {l : List (Int × Nat × α)} (h : (l.map (·.1)).Nodup) : ((mUpd k x n l).2.map (·.1)).Nodup := by
  unfold mUpd
  cases hk : mHas k l with
  | true => show ((mPut k x l).map _).Nodup; rw [keys_put]; exact h
  | false =>
    have hm : k ∉ l.map (·.1) := fun hm => by rw [mHas_mem.2 hm] at hk; cases hk
    show ((l ++ [(k, n, x)]).map _).Nodup
    rw [List.map_append, List.nodup_append]
    exact ⟨h, by simp, fun a ha b hb => by simp at hb; subst hb; exact fun e => hm (e ▸ ha)⟩
theorem nodup_del {α : Type} {k : Int} : ∀ {l : List (Int × Nat × α)}, (l.map (·.1)).Nodup → ((mDel k l).map (·.1)).Nodup ∧ ∀ a, a ∈ (mDel k l).map (·.1) → a ∈ l.map (·.1)
  | [], _ => ⟨by simp [mDel], by simp [mDel]⟩
  | q :: l, h => by
    simp only [List.map_cons, List.nodup_cons] at h
    obtain ⟨h1, h2⟩ := nodup_del (k := k) h.2
    simp only [mDel]
    split
    · exact ⟨h.2, fun a ha => by simp only [List.map_cons, List.mem_cons]; exact .inr ha⟩
    · refine ⟨?_, fun a ha => ?_⟩
      · simp only [List.map_cons, List.nodup_cons]
        exact ⟨fun hm => h.1 (h2 _ hm), h1⟩
      · simp only [List.map_cons, List.mem_cons] at ha ⊢
        exact ha.imp id (h2 a)
theorem mGet_del {α : Type} {k c : Int} {z : α} : ∀ {l : List (Int × Nat × α)}, (l.map (·.1)).Nodup → mGet c z (mDel k l) = if c = k then z else mGet c z l
  | [], _ => by simp [mDel, mGet]
  | q :: l, h => by
    simp only [List.map_cons, List.nodup_cons] at h
    simp only [mDel]
    by_cases hq : q.1 = k
    · rw [if_pos hq]
      by_cases hc : c = k
      · rw [if_pos hc]
        refine mGet_has ?_
        cases hh : mHas c l with
        | false => rfl
        | true => exact absurd (mHas_mem.1 hh) (by rw [hc, ← hq]; exact h.1)
      · rw [if_neg hc]
        simp only [mGet]
        rw [if_neg (fun e => hc (by rw [← e, hq]))]
    · rw [if_neg hq]
      simp only [mGet]
      by_cases hc : q.1 = c
      · rw [if_pos hc, if_pos hc, if_neg (fun e => hq (hc.trans e))]
      · rw [if_neg hc, if_neg hc]; exact mGet_del h.2
theorem mapA_r {e : AK} {n c : Nat} {l : List (Int × Nat × e.T)} {H : HP} {K : Nat → Nat → List (Int × Nat × e.T) → Prop} (hn : H n = some ⟨.mp e, (c, l)⟩) (h : K n c l) : mapA e (.map (some n)) H K := ⟨n, c, l, rfl, hn, h⟩
theorem c_same1 (p q : Pr) : S38 p q (decide (p = q), ()) := pure38 p q fun H K hk => by
  unfold A38
  refine retA_i _ (c_bequal _ _) (ifD (fun h1 => retA_i _ (c_bequal _ _) ?_) fun h1 => ?_)
  · have e : decide (p = q) = decide (p.2 = q.2) := by
      rw [Bool.eq_iff_iff]; simp only [decide_eq_true_eq]
      exact ⟨fun h => by rw [h], fun h => Prod.ext h1 h⟩
    rw [← e]; exact hk
  · rw [decide_eq_false (fun e => h1 (by rw [e]))] at hk; exact hk
theorem c_eqf (a b : List Pr) : S37 a b (decide (a = b), ()) := pure37 a b fun H K hk => by
  unfold A37
  refine lenA_i fun _ => lenA_i fun _ => ifN (fun h => ?_) fun hl => lenA_i fun _ => ?_
  · rw [decide_eq_false (fun e => h (by rw [e]))] at hk; exact hk
  · have hl : a.length = b.length := by omega
    refine loop_n a.length (fun i => ((b, (), a, (a.length : Int), (i : Int), ()), ())) (fun i => a.take i = b.take i) rfl rfl fun i C hi hP hC => ?_
    dsimp only at hC ⊢
    refine ifLt (fun h1 => ?_) fun h1 => ?_
    · refine atA_lt h1 (atA_lt (hl ▸ h1) ?_)
      refine c_same1 _ _ _ _ (ifNot (fun h => ?_) fun h => ?_)
      · have h : ¬ a[i] = b[i] := of_decide_eq_false h
        rw [decide_eq_false (fun e => h (by subst e; rfl))] at hk; exact hk
      · have h : a[i] = b[i] := of_decide_eq_true h
        rw [w1 (by omega)]
        exact hC h1 (by rw [take_snoc h1, take_snoc (hl ▸ h1), hP, h])
    · obtain rfl : i = a.length := by omega
      rw [List.take_length, hl, List.take_length] at hP
      rw [decide_eq_true hP] at hk; exact hk
theorem c_rsame (a b : List Pr) : S35 a b (decide (a = b), ()) := pure35 a b fun H K hk => by
  unfold A35
  exact retA_i _ (c_eqf a b) hk
theorem c_sameR (a b : Res) : S31 a b (sameR a b, ()) := pure31 a b fun H K hk => by
  unfold A31
  unfold sameR at hk
  have bad : ∀ {x : Bool}, x = false → ∀ {y : Bool}, K (x && y, ()) H → K (false, ()) H := fun {x} hx {y} h => by subst hx; exact h
  refine ifE (fun h1 => ?_) fun h1 => bad (decide_eq_false h1) hk
  rw [decide_eq_true h1, Bool.true_and] at hk
  refine ifB_i (fun h2 => ?_) fun h2 => bad (decide_eq_false (by simpa using h2)) hk
  rw [decide_eq_true (by simpa using h2 : a.2.1 = b.2.1), Bool.true_and] at hk
  refine retA_i _ (c_bequal _ _) (ifD (fun h3 => ?_) fun h3 => bad (decide_eq_false h3) hk)
  rw [decide_eq_true h3, Bool.true_and] at hk
  exact retA_i _ (c_rsame _ _) hk
def smallE (e : Ev) : Bool := smallQ e.2.2.2.1 && (fewB e.2.2.2.2.2.2.2.1 100 && decide ((e.2.2.2.2.2.2.1.length : Int) ≤ 100))
theorem c_efew (l : List Ev) (n : Int) : ∃ b : Bool, S6 l n (b, ()) ∧ (b = true → (l.length : Int) ≤ n) := by
  refine ⟨allN l.length (fun j => match l[j]? with | some e => smallE e | none => true) && decide ((l.length : Int) ≤ n), pure6 l n fun H K hk => ?_, fun h => by simp only [Bool.and_eq_true, decide_eq_true_eq] at h; exact h.2⟩
  unfold A6
  have bad : ∀ {i : Nat} (hi : i < l.length), smallE l[i] = false → K (false, ()) H := fun {i} hi h => by
    rw [allN_false hi (by simp only [List.getElem?_eq_getElem hi]; exact h)] at hk
    exact hk
  refine loop_n l.length (fun i => ((l, n, (i : Int), ()), ())) (fun i => ∀ j e, j < i → l[j]? = some e → smallE e = true) rfl (fun j p h => absurd h (Nat.not_lt_zero _)) fun i C hi hP hC => ?_
  dsimp only at hC ⊢
  refine lenA_i fun _ => ifLt (fun h1 => ?_) fun h1 => lenA_i fun _ => ?_
  · refine atA_lt h1 (retA_i _ (c_small _) (atA_lt h1 (retA_i _ (c_few _ _) (ifNot (fun h => bad h1 ?_) fun h2 => ifNot (fun h => bad h1 ?_) fun h3 => atA_lt h1 (lenA_i fun _ => ifD (fun h => bad h1 ?_) fun h4 => ?_)))))
    · have h : smallQ l[i].2.2.2.1 = false := h
      unfold smallE; rw [h]; rfl
    · have h : fewB l[i].2.2.2.2.2.2.2.1 100 = false := h
      unfold smallE; rw [h]; simp
    · unfold smallE
      rw [decide_eq_false (by omega)]; simp
    · rw [w1 (by omega)]
      refine hC h1 fun j e hj he => ?_
      rcases Nat.lt_or_ge j i with h5 | h5
      · exact hP j e h5 he
      · obtain rfl : j = i := by omega
        rw [List.getElem?_eq_getElem h1] at he
        injection he with he
        subst he
        have h2 : smallQ l[j].2.2.2.1 = true := h2
        have h3 : fewB l[j].2.2.2.2.2.2.2.1 100 = true := h3
        unfold smallE
        rw [h2, h3, decide_eq_true (by omega)]; rfl
  · rw [allN_true fun j hj => ?_, Bool.true_and] at hk
    · exact hk
    · have := hP j _ (by omega) (List.getElem?_eq_getElem hj)
      simp [hj, this]
end Go.Proofs.Yteljallgjmhkdaa
