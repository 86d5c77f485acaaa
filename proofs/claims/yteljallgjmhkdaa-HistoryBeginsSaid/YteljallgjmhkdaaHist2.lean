/-
  Histories: contracts of what goes through events.
-/
import Derived.Test.YteljallgjmhkdaaHist1
set_option linter.unusedSimpArgs false
set_option linter.unusedVariables false
namespace Go.Proofs.Yteljallgjmhkdaa
open Go Go.Gp Go.Ga Go.Th
def KeepH (H0 H : HP) : Prop := ∀ m, (H0 m).isSome → H m = H0 m
abbrev kMR : AK := .mp .ref
abbrev kMI : AK := .mp (.one (.int .i64))
structure HRep (H0 H : HP) (n p q cp cq : Nat) (lp : List (Int × Nat × Option Nat)) (lq : List (Int × Nat × Int)) (s : CS) : Prop where
  keep : KeepH H0 H
  hn : H n = some ⟨kCK, (s.row, .map (some p), .map (some q))⟩
  hp : H p = some ⟨kMR, (cp, lp)⟩
  hq : H q = some ⟨kMI, (cq, lq)⟩
  fn : H0 n = none
  fp : H0 p = none
  fq : H0 q = none
  nd : (lp.map (·.1)).Nodup
  no : ∀ c, mGet c none lp = none → s.pend c = none
  yes : ∀ c m, mGet c none lp = some m → H0 m = none ∧ ∃ P, s.pend c = some P ∧ H m = some ⟨kPE, P⟩
  inj : ∀ c d m, mGet c none lp = some m → mGet d none lp = some m → c = d
  called : ∀ c, mGet c 0 lq = s.called c
theorem ob_ne {H : HP} {a b : Nat} {x y : OB} (ha : H a = some x) (hb : H b = some y) (h : x.k ≠ y.k) : a ≠ b := fun e => by
  subst e
  rw [ha] at hb
  injection hb with hb
  exact h (by rw [hb])
theorem set_ne {H : HP} {n m : Nat} {k : AK} {x : k.T} (h : m ≠ n) : (H.set n k x) m = H m := if_neg h
theorem keep_set {H0 H : HP} {n : Nat} {k : AK} {x : k.T} (h : KeepH H0 H) (hn : H0 n = none) : KeepH H0 (H.set n k x) := fun m hm => by
  rw [set_ne (fun e => by subst e; rw [hn] at hm; cases hm)]; exact h m hm
section
variable {H0 H : HP} {n p q cp cq : Nat} {lp : List (Int × Nat × Option Nat)} {lq : List (Int × Nat × Int)} {s : CS}
def ofR (lp : List (Int × Nat × Option Nat)) (s : CS) (e : Ev) : Option Nat :=
  match s.pend e.2.1 with
  | none => none
  | some P => if P.1.2.1 ≠ e.2.2.1 then none else mGet e.2.1 none lp
theorem c_of (hr : HRep H0 H n p q cp cq lp lq s) (e : Ev) (K : HT [(false, .ref)] → HP → Prop) (hk : K (ofR lp s e, ()) H) : C30 (some n) e H K := callA30 _ _ _ _ (by
  unfold A30
  refine refA_r (ldO_r hr.hn (mapA_r hr.hp ?_))
  cases hm : mGet e.2.1 none lp with
  | none =>
    refine ifT rfl ?_
    unfold ofR at hk
    rw [hr.no _ hm] at hk
    exact hk
  | some m =>
    obtain ⟨h1, P, h2, h3⟩ := hr.yes _ _ hm
    unfold ofR at hk
    rw [h2, hm] at hk
    simp only at hk
    refine ifF rfl (refA_r (ldO_r h3 (ifN (fun h => ?_) fun h => ?_)))
    · rw [if_pos h] at hk; exact hk
    · rw [if_neg (fun h' => h' h)] at hk; exact hk)
theorem HRep.setP (hr : HRep H0 H n p q cp cq lp lq s) {c : Int} {m : Nat} (hm : mGet c none lp = some m) (P : Pn) : HRep H0 (H.set m kPE P) n p q cp cq lp lq ⟨s.row, upI s.pend c (some P), s.called⟩ := by
  obtain ⟨h1, P0, h2, h3⟩ := hr.yes _ _ hm
  have n1 : n ≠ m := ob_ne hr.hn h3 (by simp)
  have n2 : p ≠ m := ob_ne hr.hp h3 (by simp)
  have n3 : q ≠ m := ob_ne hr.hq h3 (by simp)
  refine ⟨keep_set hr.keep h1, (set_ne n1).trans hr.hn, (set_ne n2).trans hr.hp, (set_ne n3).trans hr.hq, hr.fn, hr.fp, hr.fq, hr.nd, fun d hd => ?_, fun d m' hd => ?_, hr.inj, hr.called⟩
  · show upI _ _ _ d = none
    unfold upI
    rw [if_neg (fun e => by subst e; rw [hm] at hd; cases hd)]; exact hr.no d hd
  · obtain ⟨k1, P1, k2, k3⟩ := hr.yes _ _ hd
    refine ⟨k1, ?_⟩
    show ∃ P2, upI s.pend c (some P) d = some P2 ∧ _
    unfold upI
    by_cases e : d = c
    · subst e
      rw [hm] at hd
      injection hd with hd
      subst hd
      exact ⟨P, if_pos rfl, set_at _ _ _ _⟩
    · refine ⟨P1, by rw [if_neg e]; exact k2, ?_⟩
      rw [set_ne (fun e2 => by subst e2; exact e (hr.inj _ _ _ hd hm))]; exact k3
theorem HRep.setR (hr : HRep H0 H n p q cp cq lp lq s) (l : List Pr) : HRep H0 (H.set n kCK (l, .map (some p), .map (some q))) n p q cp cq lp lq ⟨l, s.pend, s.called⟩ := by
  have n2 : p ≠ n := ob_ne hr.hp hr.hn (by simp)
  have n3 : q ≠ n := ob_ne hr.hq hr.hn (by simp)
  refine ⟨keep_set hr.keep hr.fn, set_at _ _ _ _, (set_ne n2).trans hr.hp, (set_ne n3).trans hr.hq, hr.fn, hr.fp, hr.fq, hr.nd, hr.no, fun d m' hd => ?_, hr.inj, hr.called⟩
  obtain ⟨k1, P1, k2, k3⟩ := hr.yes _ _ hd
  exact ⟨k1, P1, k2, (set_ne (ob_ne k3 hr.hn (by simp))).trans k3⟩
theorem HRep.del (hr : HRep H0 H n p q cp cq lp lq s) (c : Int) : HRep H0 (H.set p kMR (cp, mDel c lp)) n p q cp cq (mDel c lp) lq ⟨s.row, upI s.pend c none, s.called⟩ := by
  have n1 : n ≠ p := ob_ne hr.hn hr.hp (by simp)
  have n3 : q ≠ p := ob_ne hr.hq hr.hp (by simp)
  have get : ∀ d m, mGet d none (mDel c lp) = some m → d ≠ c ∧ mGet d none lp = some m := fun d m h => by
    rw [mGet_del hr.nd] at h
    split at h
    · cases h
    · rename_i e; exact ⟨e, h⟩
  refine ⟨keep_set hr.keep hr.fp, (set_ne n1).trans hr.hn, set_at _ _ _ _, (set_ne n3).trans hr.hq, hr.fn, hr.fp, hr.fq, (nodup_del hr.nd).1, fun d hd => ?_, fun d m hd => ?_, fun d d' m h1 h2 => hr.inj _ _ _ (get _ _ h1).2 (get _ _ h2).2, hr.called⟩
  · show upI _ _ _ d = none
    unfold upI
    rw [mGet_del hr.nd] at hd
    split at hd
    · rename_i e; rw [if_pos e]
    · rename_i e; rw [if_neg e]; exact hr.no d hd
  · obtain ⟨e, hd⟩ := get _ _ hd
    obtain ⟨k1, P1, k2, k3⟩ := hr.yes _ _ hd
    refine ⟨k1, P1, ?_, (set_ne (ob_ne k3 hr.hp (by simp))).trans k3⟩
    show upI _ _ _ d = _
    unfold upI
    rw [if_neg e]; exact k2
theorem HRep.call (hr : HRep H0 H n p q cp cq lp lq s) (c : Int) (P : Pn) {m : Nat} (hm : (H.set q kMI (mUpd c (s.called c + 1) cq lq)) m = none) (hnone : mGet c none lp = none) :
    HRep H0 (((H.set q kMI (mUpd c (s.called c + 1) cq lq)).set m kPE P).set p kMR (mUpd c (some m) cp lp)) n p q (mUpd c (some m) cp lp).1 (mUpd c (s.called c + 1) cq lq).1 (mUpd c (some m) cp lp).2 (mUpd c (s.called c + 1) cq lq).2 ⟨s.row, upI s.pend c (some P), upI s.called c (s.called c + 1)⟩ := by
  have n1 : n ≠ p := ob_ne hr.hn hr.hp (by simp)
  have n3 : q ≠ p := ob_ne hr.hq hr.hp (by simp)
  have n4 : n ≠ q := ob_ne hr.hn hr.hq (by simp)
  have mq : m ≠ q := fun e => by subst e; rw [set_at] at hm; cases hm
  have hm : H m = none := by rw [set_ne mq] at hm; exact hm
  have mn : m ≠ n := fun e => by subst e; rw [hr.hn] at hm; cases hm
  have mp : m ≠ p := fun e => by subst e; rw [hr.hp] at hm; cases hm
  have m0 : H0 m = none := by
    cases h0 : H0 m with
    | none => rfl
    | some o => have := hr.keep m (by rw [h0]; rfl); rw [hm, h0] at this; cases this
  refine ⟨keep_set (keep_set (keep_set hr.keep hr.fq) m0) hr.fp, ?_, set_at _ _ _ _, ?_, hr.fn, hr.fp, hr.fq, nodup_upd hr.nd, fun d hd => ?_, fun d m' hd => ?_, fun d d' m' h1 h2 => ?_, fun d => ?_⟩
  · rw [set_ne n1, set_ne mn.symm, set_ne n4]; exact hr.hn
  · rw [set_ne n3, set_ne mq.symm]; exact set_at _ _ _ _
  · show upI _ _ _ d = none
    unfold upI
    rw [mGet_upd] at hd
    split at hd
    · cases hd
    · rename_i e; rw [if_neg e]; exact hr.no d hd
  · rw [mGet_upd] at hd
    show _ ∧ ∃ P2, upI s.pend c (some P) d = some P2 ∧ _
    unfold upI
    split at hd
    · rename_i e
      injection hd with hd
      subst hd
      exact ⟨m0, P, if_pos e, by rw [set_ne mp]; exact set_at _ _ _ _⟩
    · rename_i e
      obtain ⟨k1, P1, k2, k3⟩ := hr.yes _ _ hd
      refine ⟨k1, P1, by rw [if_neg e]; exact k2, ?_⟩
      rw [set_ne (ob_ne k3 hr.hp (by simp)), set_ne (fun e2 => by subst e2; rw [hm] at k3; cases k3), set_ne (ob_ne k3 hr.hq (by simp))]
      exact k3
  · have fresh : ∀ d, mGet d none lp ≠ some m := fun d h => by
      obtain ⟨_, _, _, k3⟩ := hr.yes _ _ h
      rw [hm] at k3; cases k3
    rw [mGet_upd] at h1 h2
    split at h1 <;> split at h2
    · rename_i e1 e2; rw [e1, e2]
    · injection h1 with h1; subst h1; exact absurd h2 (fresh _)
    · injection h2 with h2; subst h2; exact absurd h1 (fresh _)
    · exact hr.inj _ _ _ h1 h2
  · show _ = upI _ _ _ d
    unfold upI
    rw [mGet_upd]
    split
    · rfl
    · exact hr.called d
theorem c_call (hr : HRep H0 H n p q cp cq lp lq s) (e : Ev) (hk1 : e.1 = 1) (hlo : ∀ c, 0 ≤ s.called c) (hhi : ∀ c, s.called c ≤ 1000000) (K : HT [(false, .one .bool)] → HP → Prop) (hno : ∀ H', KeepH H0 H' → nextH s e = none → K (false, ()) H')
    (hyes : ∀ H' cp' cq' lp' lq' s', nextH s e = some s' → HRep H0 H' n p q cp' cq' lp' lq' s' → K (true, ()) H') : C23 (some n) e H K := callA23 _ _ _ _ (by
  unfold A23
  have nx : nextH s e = if (s.pend e.2.1).isSome = true ∨ e.2.2.1 ≠ s.called e.2.1 ∨ e.2.2.2.1.1 ≠ e.2.1 ∨ e.2.2.2.1.2.1 ≠ e.2.2.1 then none
    else some ⟨s.row, upI s.pend e.2.1 (some (e.2.2.2.1, false, codeQ 0)), upI s.called e.2.1 (s.called e.2.1 + 1)⟩ := by unfold nextH; rw [if_pos hk1]
  refine refA_r (ldO_r hr.hn (mapA_r hr.hp ?_))
  cases hm : mGet e.2.1 none lp with
  | some m =>
    obtain ⟨_, P, h2, _⟩ := hr.yes _ _ hm
    refine ifT rfl (hno _ hr.keep ?_)
    rw [nx, if_pos (.inl (by rw [h2]; rfl))]
  | none =>
    refine ifF rfl (refA_r (ldO_r hr.hn (mapA_r hr.hq (ifN (fun h => ?_) fun h1 => ifN (fun h => ?_) fun h2 => ifN (fun h => ?_) fun h3 => ?_))))
    · rw [hr.called] at h; exact hno _ hr.keep (by rw [nx, if_pos (.inr (.inl h))])
    · exact hno _ hr.keep (by rw [nx, if_pos (.inr (.inr (.inl h)))])
    · exact hno _ hr.keep (by rw [nx, if_pos (.inr (.inr (.inr h)))])
    · rw [hr.called] at h1
      have n3 : n ≠ q := ob_ne hr.hn hr.hq (by simp)
      have n5 : p ≠ q := ob_ne hr.hp hr.hq (by simp)
      refine refA_r (ldO_r hr.hn (mapA_r hr.hq (mapA_r hr.hq (refA_r ?_))))
      have ew : IntKind.i64.wrap (mGet e.2.1 0 lq + 1) = s.called e.2.1 + 1 := by
        rw [hr.called, wI (by have := hlo e.2.1; omega) (by have := hhi e.2.1; omega)]
      have fin : ∀ m, (H.set q kMI (mUpd e.2.1 (s.called e.2.1 + 1) cq lq)) m = none → K (true, ()) (((H.set q kMI (mUpd e.2.1 (s.called e.2.1 + 1) cq lq)).set m kPE (e.2.2.2.1, false, codeQ 0)).set p kMR (mUpd e.2.1 (some m) cp lp)) := fun m hmn => by
        refine hyes _ _ _ _ _ _ ?_ (hr.call e.2.1 (e.2.2.2.1, false, codeQ 0) hmn hm)
        rw [nx, if_neg]
        rw [hr.no _ hm]
        simp [h1, h2, h3]
      rw [ew]
      refine ⟨ldO_r ((set_ne n3).trans hr.hn) fun m hmn => mapA_r ?_ (fin m hmn), fun m hmn => ldO_r (x := (s.row, .map (some p), .map (some q))) ?_ (mapA_r ?_ (fin m hmn))⟩
      · rw [set_ne (fun e => by subst e; rw [set_ne n5, hr.hp] at hmn; cases hmn), set_ne n5]; exact hr.hp
      · rw [set_ne (fun e => by subst e; rw [set_ne n3, hr.hn] at hmn; cases hmn), set_ne n3]; exact hr.hn
      · rw [set_ne (fun e => by subst e; rw [set_ne n5, hr.hp] at hmn; cases hmn), set_ne n5]; exact hr.hp)
def nextD (s : CS) (e : Ev) : Option CS :=
    match s.pend e.2.1 with
    | none => none
    | some p => if p.1.2.1 ≠ e.2.2.1 ∨ p.2.1 = true then none
      else if sameR e.2.2.2.2 (codeQ 5) = true then some ⟨s.row, upI s.pend e.2.1 (some (p.1, true, e.2.2.2.2)), s.called⟩
      else if sameR (doQ s.row p.1 16000).2 e.2.2.2.2 = true then some ⟨(doQ s.row p.1 16000).1, upI s.pend e.2.1 (some (p.1, true, e.2.2.2.2)), s.called⟩
      else none
def nextB (s : CS) (e : Ev) : Option CS :=
    match s.pend e.2.1 with
    | none => none
    | some p => if p.1.2.1 ≠ e.2.2.1 then none
      else if backR p e.2.2.2.2 = true then some ⟨s.row, upI s.pend e.2.1 none, s.called⟩
      else none
theorem c_hdo (hr : HRep H0 H n p q cp cq lp lq s) (e : Ev) (hk1 : e.1 = 2) (hrow : IsRow s.row) (hlen : s.row.length ≤ 1000) (K : HT [(false, .one .bool)] → HP → Prop) (hno : ∀ H', KeepH H0 H' → nextH s e = none → K (false, ()) H')
    (hyes : ∀ H' cp' cq' lp' lq' s', nextH s e = some s' → HRep H0 H' n p q cp' cq' lp' lq' s' → K (true, ()) H') : C24 (some n) e H K := callA24 _ _ _ _ (by
  unfold A24
  have nx : nextH s e = nextD s e := by unfold nextH nextD; rw [if_neg (by omega), if_pos hk1]; rfl
  unfold nextD at nx
  refine retH_r (ofR lp s e, ()) (fun K' hk' => c_of hr e K' hk') ?_
  unfold ofR
  cases hp : s.pend e.2.1 with
  | none => rw [hp] at nx; exact ifT rfl (hno _ hr.keep nx)
  | some P =>
    rw [hp] at nx
    simp only at nx ⊢
    by_cases hs : P.1.2.1 ≠ e.2.2.1
    · rw [if_pos hs]
      rw [if_pos (.inl hs)] at nx
      exact ifT rfl (hno _ hr.keep nx)
    · rw [if_neg hs]
      cases hm : mGet e.2.1 none lp with
      | none => rw [hr.no _ hm] at hp; cases hp
      | some m =>
        obtain ⟨h1, P', h2, h3⟩ := hr.yes _ _ hm
        rw [hp] at h2
        injection h2 with h2
        subst h2
        refine ifF rfl (refA_r (ldO_r h3 (ifB_i (fun hd => ?_) fun hd => ?_)))
        · rw [if_pos (.inr hd)] at nx
          exact hno _ hr.keep nx
        · have hd : P.2.1 = false := hd
          rw [if_neg (by simp only [not_or]; exact ⟨hs, by rw [hd]; simp⟩)] at nx
          have hr' := hr.setP hm (P.1, true, e.2.2.2.2)
          have ho := set_set H m kPE (P.1, true, P.2.2) (P.1, true, e.2.2.2.2)
          refine refA_r (ldO_r h3 (refA_r (ldO_r (set_at _ _ _ _) (retA_i _ (c_sameR _ _) ?_))))
          have es : ∀ a : Res, ((a.1, a.2.1, a.2.2.1, a.2.2.2.1, a.2.2.2.2) : Res) = a := fun _ => rfl
          refine ifB_i (fun h5 => ?_) fun h5 => ?_
          · have h5 : sameR e.2.2.2.2 (codeQ 5) = true := h5
            rw [if_pos h5] at nx
            have := hyes _ _ _ _ _ _ nx hr'
            rw [← ho] at this
            exact this
          · have h5 : sameR e.2.2.2.2 (codeQ 5) = false := h5
            rw [if_neg (by rw [h5]; simp)] at nx
            erw [ho]
            refine refA_r (ldO_r hr'.hn (refA_r (ldO_r (set_at _ _ _ _) (retA_i _ (c_odo s.row P.1 16000 hrow hlen) (refA_r (ldO_r hr'.hn (retA_i _ (c_sameR _ _) ?_)))))))
            have hr2 := hr'.setR (doQ s.row P.1 16000).1
            show K (sameR (doQ s.row P.1 16000).2 e.2.2.2.2, ()) _
            cases h6 : sameR (doQ s.row P.1 16000).2 e.2.2.2.2 with
            | true =>
              rw [if_pos h6] at nx
              exact hyes _ _ _ _ _ _ nx hr2
            | false =>
              rw [if_neg (by rw [h6]; simp)] at nx
              exact hno _ hr2.keep nx)
theorem c_back (hr : HRep H0 H n p q cp cq lp lq s) (e : Ev) (hk1 : e.1 = 3) (K : HT [(false, .one .bool)] → HP → Prop) (hno : ∀ H', KeepH H0 H' → nextH s e = none → K (false, ()) H')
    (hyes : ∀ H' cp' cq' lp' lq' s', nextH s e = some s' → HRep H0 H' n p q cp' cq' lp' lq' s' → K (true, ()) H') : C25 (some n) e H K := callA25 _ _ _ _ (by
  unfold A25
  have nx : nextH s e = nextB s e := by unfold nextH nextB; rw [if_neg (by omega), if_neg (by omega), if_pos hk1]; rfl
  unfold nextB at nx
  refine retH_r (ofR lp s e, ()) (fun K' hk' => c_of hr e K' hk') ?_
  unfold ofR
  cases hp : s.pend e.2.1 with
  | none => rw [hp] at nx; exact ifT rfl (hno _ hr.keep nx)
  | some P =>
    rw [hp] at nx
    simp only at nx ⊢
    by_cases hs : P.1.2.1 ≠ e.2.2.1
    · rw [if_pos hs]
      rw [if_pos hs] at nx
      exact ifT rfl (hno _ hr.keep nx)
    · rw [if_neg hs]
      rw [if_neg hs] at nx
      cases hm : mGet e.2.1 none lp with
      | none => rw [hr.no _ hm] at hp; cases hp
      | some m =>
        obtain ⟨h1, P', h2, h3⟩ := hr.yes _ _ hm
        rw [hp] at h2
        injection h2 with h2
        subst h2
        have hr' := hr.del e.2.1
        have fin : K (backR P e.2.2.2.2, ()) (H.set p kMR (cp, mDel e.2.1 lp)) := by
          cases hb : backR P e.2.2.2.2 with
          | true =>
            rw [if_pos hb] at nx
            exact hyes _ _ _ _ _ _ nx hr'
          | false =>
            rw [if_neg (by rw [hb]; simp)] at nx
            exact hno _ hr'.keep nx
        have h3' : (H.set p kMR (cp, mDel e.2.1 lp)) m = some ⟨kPE, P⟩ := (set_ne (ob_ne h3 hr.hp (by simp))).trans h3
        unfold backR at fin
        refine ifF rfl (refA_r (ldO_r hr.hn (mapA_r hr.hp (refA_r (ldO_r h3' (ifB_i (fun hd => ?_) fun hd => ?_))))))
        · have hd : P.2.1 = true := hd
          rw [if_pos hd] at fin
          exact refA_r (ldO_r h3' (retA_i _ (c_sameR _ _) fin))
        · have hd : P.2.1 = false := hd
          rw [if_neg (by rw [hd]; simp)] at fin
          exact retA_i _ (c_sameR _ _) fin)
theorem c_next (hr : HRep H0 H n p q cp cq lp lq s) (e : Ev) (hlo : ∀ c, 0 ≤ s.called c) (hhi : ∀ c, s.called c ≤ 1000000) (hrow : IsRow s.row) (hlen : s.row.length ≤ 1000) (K : HT [(false, .one .bool)] → HP → Prop) (hno : ∀ H', KeepH H0 H' → nextH s e = none → K (false, ()) H')
    (hyes : ∀ H' cp' cq' lp' lq' s', nextH s e = some s' → HRep H0 H' n p q cp' cq' lp' lq' s' → K (true, ()) H') : C17 (some n) e H K := callA17 _ _ _ _ (by
  unfold A17
  refine ifE (fun h => c_call hr e h hlo hhi _ hno hyes) fun h1 => ifE (fun h => c_hdo hr e h hrow hlen _ hno hyes) fun h2 => ifE (fun h => c_back hr e h _ hno hyes) fun h3 => hno _ hr.keep ?_
  unfold nextH
  rw [if_neg h1, if_neg h2, if_neg h3])
end
def cs0 (r : List Pr) : CS := ⟨r, fun _ => none, fun _ => 0⟩
theorem c_linear (r : List Pr) (l : List Ev) (hr : IsRow r) (hrl : r.length ≤ 500) (hl : l.length ≤ 400) : S8 r l ((lin (cs0 r) l 0).1, (lin (cs0 r) l 0).2, ()) := pure_forget rfl fun H => callA8 _ _ _ _ (by
  unfold A8
  refine retA_i _ (c_merge0 r (by omega) hr.short) fun p hp => fun q hq => fun n hn => lenA_i fun _ => ?_
  have nqp : q ≠ p := fun e => by subst e; rw [set_at] at hq; cases hq
  have nnq : n ≠ q := fun e => by subst e; rw [set_at] at hn; cases hn
  have hn' : (H.set p kMR (0, [])) n = none := by rw [set_ne nnq] at hn; exact hn
  have nnp : n ≠ p := fun e => by subst e; rw [set_at] at hn'; cases hn'
  have hq0 : H q = none := by rw [set_ne nqp] at hq; exact hq
  have hn0 : H n = none := by rw [set_ne nnp] at hn'; exact hn'
  have rep : HRep H (((H.set p kMR (0, [])).set q kMI (0, [])).set n kCK (r, .map (some p), .map (some q))) n p q 0 0 [] [] (cs0 r) := by
    refine ⟨keep_set (keep_set (keep_set (fun _ _ => rfl) hp) hq0) hn0, set_at _ _ _ _, ?_, ?_, hn0, hp, hq0, by simp, fun _ _ => rfl, fun _ _ h => (by cases h), fun _ _ _ h _ => (by cases h), fun _ => rfl⟩
    · rw [set_ne nnp.symm, set_ne nqp.symm]; exact set_at _ _ _ _
    · rw [set_ne nnq.symm]; exact set_at _ _ _ _
  refine loop_h l.length (fun i v H' => v = ((n, l, (l.length : Int), (i : Int), ()), ()) ∧ ∃ cp cq lp lq s, runH (cs0 r) (l.take i) = some s ∧ HRep H H' n p q cp cq lp lq s) ⟨rfl, 0, 0, [], [], cs0 r, rfl, rep⟩ ?_
  rintro i v H' C hi ⟨rfl, cp, cq, lp, lq, s, hs, hrep⟩ hC
  dsimp only at hC ⊢
  have inv := inv_run hr hs hi
  refine ifLt (fun h1 => atA_lt h1 ?_) fun h1 => ?_
  · have he : l[i]? = some l[i] := List.getElem?_eq_getElem h1
    refine c_next hrep l[i] inv.lo (fun c => by have := inv.hi c; omega) inv.row (by have := inv.len; omega) _ (fun H2 hk2 hn2 => ifT rfl ⟨hk2, ?_⟩) fun H2 cp' cq' lp' lq' s' hn2 hr2 => ifF rfl ?_
    · rw [lin_bad (i := 0) hs he hn2, Nat.zero_add]
    · rw [w1 (by omega)]
      refine hC h1 _ _ ⟨rfl, _, _, _, _, s', ?_, hr2⟩
      rw [run_next (s' := s') hs he]; exact hn2
  · obtain rfl : i = l.length := by omega
    rw [List.take_length] at hs
    refine ldO_r hrep.hn ⟨hrep.keep, ?_⟩
    rw [lin_ok hs])
end Go.Proofs.Yteljallgjmhkdaa
