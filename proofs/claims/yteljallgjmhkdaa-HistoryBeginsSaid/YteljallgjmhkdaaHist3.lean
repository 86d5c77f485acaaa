/-
  Histories: the law's head, and the law's walk.
-/
import Derived.Test.YteljallgjmhkdaaHist2
set_option linter.unusedSimpArgs false
set_option linter.unusedVariables false
set_option maxRecDepth 4000
namespace Go.Proofs.Yteljallgjmhkdaa
open Go Go.Gp Go.Ga Go.Th
def ev5 (k : Int) : Ev := (k, 0, 0, (0, 0, 0, [], [], [], [], 0), 0, false, [], [], 0)
theorem delset (H : HP) (n : Nat) (k : AK) (x : k.T) : (H.del n).set n k x = H.set n k x := by
  funext m
  show (if m = n then _ else if m = n then none else H m) = if m = n then _ else H m
  split <;> rfl
theorem c_ecopied (k : Int) : S18 (ev5 k) (ev5 k, ()) := pure18 (ev5 k) fun H K hk => by
  unfold A18
  constructor <;>
    refine retA_i _ (c_bclone [] (by simp)) (retA_i _ (c_bclone [] (by simp)) (retA_i _ (c_bclone [] (by simp)) (retA_i _ (c_bclone [] (by simp)) (retA_i _ (c_bclone [] (by simp)) (lenA_i fun _ => ?_))))) <;>
    refine loop_n 0 (fun i => (((), (), [], 0, 0, ()), (k, 0, 0, 0, 0, 0, [], [], [], [], 0, 0, false, [], [], 0, ()), (0, 0, 0, 0, 0, 0, (), (), (), (), 0, 0, false, (), (), 0, ()), ())) (fun _ => True) rfl trivial fun i C hi _ hC => ifF rfl hk
theorem c_hnew {H : HP} {K : HT [(false, .ref)] → HP → Prop} (h : ∀ n, H n = none → K (some n, ()) (H.set n kHI [])) : C9 H K := callA9 _ _ (by
  unfold A9
  exact fun n hn => h n hn)
theorem c_note {H : HP} {n : Nat} {k : Int} {K : HT [] → HP → Prop} (hn : H n = some ⟨kHI, []⟩) (h : K () (H.set n kHI [ev5 k])) : C10 (some n) (ev5 k) H K := callA10 _ _ _ _ (by
  unfold A10
  refine refA_r (ldO_r hn (retA_i _ (c_ecopied k) (appA_i (by simp) ?_)))
  rw [delset]; exact h)
theorem c_hlen {H : HP} {n : Nat} {l : List Ev} (hl : l.length ≤ 1000) (hn : H n = some ⟨kHI, l⟩) {K : HT [(false, .one (.int .i64))] → HP → Prop} (h : K ((l.length : Nat), ()) H) : C11 (some n) H K := callA11 _ _ _ (by
  unfold A11
  refine refA_r (ldO_r hn (lenA_i fun _ => ?_))
  rw [delset, set_same hn]; exact h)
theorem c_events {H : HP} {n : Nat} {k : Int} (hn : H n = some ⟨kHI, [ev5 k]⟩) {K : HT [(false, .row kEV)] → HP → Prop} (h : K ([ev5 k], ()) (H.set n (.row kEV) [ev5 k])) : C12 (some n) H K := callA12 _ _ _ (by
  unfold A12
  refine refA_r (ldO_r hn (ldO_r (set_at _ _ _ _) (lenA_i fun _ => ?_)))
  refine loop_n 1 (fun i => ((([ev5 k] : List Ev).take i, [ev5 k], 1, (i : Int), ()), ())) (fun _ => True) rfl trivial fun i C hi _ hC => ?_
  dsimp only at hC ⊢
  refine ifLt (n := 1) (fun h1 => ?_) fun h1 => ?_
  · obtain rfl : i = 0 := by omega
    exact atA_lt (by simp) (retA_i _ (c_ecopied k) (appA_i (by simp) (hC h1 trivial)))
  · obtain rfl : i = 1 := by omega
    rw [delset]; exact h)
theorem c_up22 : S4 (true, ()) := pure_forget rfl fun H => callA4 _ _ (by
  unfold A4
  refine retA_i _ (c_linear [] [ev5 3] IsRow.nil (by simp) (by simp)) (byteA_n (n := 97) (by omega) ?_)
  refine retA_i _ (c_linear [] [(1, 0, 0, (0, 0, 2, [97], [], [], [], 0), 0, false, [], [], 0), ev5 2, ev5 3] IsRow.nil (by simp) (by simp)) ?_
  have e1 : lin (cs0 []) [ev5 3] 0 = ([], 0) := rfl
  have e2 : lin (cs0 []) [(1, 0, 0, (0, 0, 2, [97], [], [], [], 0), 0, false, [], [], 0), ev5 2, ev5 3] 0 = ([([97], [])], -1) := by rfl
  rw [e1, e2]
  refine c_hnew fun n hn => ifF rfl (c_note (set_at _ _ _ _) ?_)
  rw [set_set]
  refine ifT rfl (ifT rfl (lenA_i fun _ => ifT rfl (retH_r (1, ()) (fun K' hk' => c_hlen (by simp) (set_at _ _ _ _) hk') (ifT rfl (c_events (set_at _ _ _ _) (lenA_i fun _ => ⟨fun m hm => ?_, rfl⟩))))))
  have : m ≠ n := fun e => by subst e; rw [hn] at hm; cases hm
  rw [set_ne this, set_ne this])
theorem JoinA_b {V : Type} {B : V → HP → Prop} {A : (V → HP → Prop) → Prop} {H : HP} (v : V) (h1 : ∀ C : V → HP → Prop, C v H → A C) (h2 : B v H) : JoinA B A := h1 B h2
theorem half_walk {l : List Ev} {row : List Pr} (hr : IsRow row) (hl : l.length ≤ 100) {s : CS} (hs : runH (cs0 row) l = some s) {i : Nat} {e : Ev} (he : l[i]? = some e) (h3 : e.1 = 3) (h7 : e.2.2.2.2.1 ≠ 7) : 0 ≤ (hcnt e.2.1 e.2.2.1 l i).1 ∧ (hcnt e.2.1 e.2.2.1 l i).2 = 1 := back_once hr hs he h3 h7
theorem historyBegins_walk (raw : List Pr) (l : List Ev) (n : Int) (H : HP) (K : HT [(false, .one .bool)] → HP → Prop) (hk : K (true, ()) H) : A3 raw l n H K := by
  unfold A3
  obtain ⟨b, hb, hbl⟩ := c_efew l 100
  refine retA_i _ c_up22 (retA_i _ (c_few raw 100) (retA_i _ hb (ifNot (fun _ => hk) fun hf => ifNot (fun _ => hk) fun hg => ?_)))
  have hraw : (raw.length : Int) ≤ 100 := by
    have hf : fewB raw 100 = true := hf
    unfold fewB at hf
    simp only [Bool.and_eq_true, decide_eq_true_eq] at hf
    exact hf.2
  have hl : (l.length : Int) ≤ 100 := hbl hg
  have hrl := rowOf_len raw
  have hrow := rowOf_row raw
  have lc : ∀ l' : List Ev, l'.length ≤ 400 → S8 (rowOf raw) l' ((lin (cs0 (rowOf raw)) l' 0).1, (lin (cs0 (rowOf raw)) l' 0).2, ()) := fun l' h => c_linear _ l' hrow (by omega) h
  refine retA_i _ (c_rrow raw (by omega)) (retA_i _ (lc l (by omega)) ?_)
  rcases run_cases l (cs0 (rowOf raw)) with ⟨s, hs⟩ | ⟨j, s, e, h1, h2, h3⟩
  · -- the whole is linear
    have hlin := lin_ok (i := 0) hs
    rw [hlin]
    refine ifF rfl (ifF rfl ?_)
    refine JoinA_b (H := H) ((l, true, ()), ()) (fun C hC => ?_) ?_
    · -- a beginning
      refine JoinA_i ?_
      have go : ∀ b : Bool, (b = true → 0 ≤ n ∧ n ≤ (l.length : Int)) → ifB b (slcA l.length 0 n fun i39 i40 => retA Try.prog 8 [(false, .row kPR), (false, .row kEV)] (rowOf raw, sub l i39 i40, ()) [(false, .row kPR), (false, .one (.int .i64))] fun (x41 : (List tPR) × Int × Unit) => ifB ((x41.2.1 : Int) != (-1)) (K (false, ()) H) (C ((l, true, ()), ()) H)) (C ((l, true, ()), ()) H) := fun b hb => by
        refine ifB_i (fun h => ?_) fun _ => hC
        obtain ⟨h1, h2⟩ := hb h
        obtain ⟨u, hu⟩ := run_take n.toNat hs
        refine slcA_z (a := 0) (b := n.toNat) rfl (by omega) (by omega) (by omega) ?_
        rw [Nat.sub_zero, sub_zero]
        refine retA_i _ (lc (l.take n.toNat) (by rw [List.length_take]; omega)) ?_
        rw [lin_ok (i := 0) hu]
        exact ifF rfl hC
      refine ifD (fun h1 => lenA_i fun _ => ?_) fun h1 => ?_
      · exact go _ fun h => ⟨h1, of_decide_eq_true h⟩
      · exact go false fun h => by cases h
    · -- who came back
      refine loop_n l.length (fun i => ((l, true, (i : Int), ()), ())) (fun _ => True) rfl trivial fun i C hi _ hC => ?_
      dsimp only at hC ⊢
      refine lenA_i fun _ => ifLt (fun h1 => ?_) fun h1 => hk
      have hC := hC h1 trivial
      rw [← w1 (by omega)] at hC
      refine atA_lt h1 (ifN (fun _ => hC) fun h3 => atA_lt h1 (ifE (fun _ => hC) fun h7 => ?_))
      have he : l[i]? = some l[i] := List.getElem?_eq_getElem h1
      obtain ⟨f1, f2⟩ := half_walk hrow (by omega) hs he h3 h7
      refine loop_n i (fun k => ((l, true, (i : Int), (hcnt l[i].2.1 l[i].2.2.1 l k).1, (hcnt l[i].2.1 l[i].2.2.1 l k).2, (k : Int), ()), ())) (fun _ => True) rfl trivial fun k C2 hki _ hC2 => ?_
      dsimp only at hC2 ⊢
      refine ifLt (fun h2 => ?_) fun h2 => ?_
      · have hC2 := hC2 h2 trivial
        have hkl : k < l.length := by omega
        have hke : l[k]? = some l[k] := List.getElem?_eq_getElem hkl
        have hcl := cnt_le l[i].2.1 l[i].2.2.1 l k
        rw [← w1 (by omega)] at hC2
        refine atA_lt hkl (atA_lt h1 (ifN (fun h => ?_) fun c1 => atA_lt hkl (atA_lt h1 (ifN (fun h => ?_) fun c2 => ?_))))
        · rw [cnt_ne hke (.inl h)] at hC2; exact hC2
        · rw [cnt_ne hke (.inr h)] at hC2; exact hC2
        have hst : hcnt l[i].2.1 l[i].2.2.1 l (k + 1) = (if l[k].1 = 1 then (k : Int) else (hcnt l[i].2.1 l[i].2.2.1 l k).1, if l[k].1 = 2 ∧ 0 ≤ (if l[k].1 = 1 then (k : Int) else (hcnt l[i].2.1 l[i].2.2.1 l k).1) then (hcnt l[i].2.1 l[i].2.2.1 l k).2 + 1 else (hcnt l[i].2.1 l[i].2.2.1 l k).2) := by
          simp only [hcnt, hke]
          unfold stepC
          rw [if_neg (by simp [c1, c2])]
        rw [hst] at hC2
        generalize hcnt l[i].2.1 l[i].2.2.1 l k = p at hC2 hcl ⊢
        obtain ⟨p1, p2⟩ := p
        dsimp only at hC2 hcl ⊢
        refine JoinA_b (H := H) ((l, true, (i : Int), (if l[k].1 = 1 then (k : Int) else p1), p2, (k : Int), ()), ()) (fun D hD => ?_) ?_
        · refine atA_lt hkl (ifE (fun h => ?_) fun h => ?_)
          · rw [if_pos h] at hD; exact hD
          · rw [if_neg h] at hD; exact hD
        · dsimp only
          generalize (if l[k].1 = 1 then (k : Int) else p1) = z at hC2 ⊢
          refine JoinA_b (H := H) ((l, true, (i : Int), z, p2, (k : Int), decide (l[k].1 = 2 ∧ 0 ≤ z), ()), ()) (fun D hD => ?_) ?_
          · refine atA_lt hkl (ifE (fun h => ?_) fun h => ?_)
            · rw [show decide (l[k].1 = 2 ∧ 0 ≤ z) = decide (z ≥ 0) from by simp [h]] at hD; exact hD
            · rw [show decide (l[k].1 = 2 ∧ 0 ≤ z) = false from by simp [h]] at hD; exact hD
          · dsimp only
            refine ifD (fun h => ?_) fun h => ?_
            · rw [if_pos h] at hC2
              rw [wI (x := p2 + 1) (by omega) (by omega)]; exact hC2
            · rw [if_neg h] at hC2; exact hC2
      · obtain rfl : k = i := by omega
        exact ifD (fun h => by omega) fun _ => ifN (fun h => absurd f2 h) fun _ => hC
  · have hlin := lin_bad (i := 0) h1 h2 h3
    have hj := (List.getElem?_eq_some_iff.1 h2).1
    rw [hlin, Nat.zero_add]
    refine ifT (by simp) (lenA_i fun _ => ifT (by simp; omega) ?_)
    rw [w1 (by omega)]
    refine slcA_z (a := 0) (b := j + 1) rfl rfl (by omega) (by omega) ?_
    rw [Nat.sub_zero, sub_zero]
    refine retA_i _ (lc (l.take (j + 1)) (by rw [List.length_take]; omega)) (slcA_z (a := 0) (b := j) rfl rfl (by omega) (by omega) ?_)
    rw [Nat.sub_zero, sub_zero]
    refine retA_i _ (lc (l.take j) (by rw [List.length_take]; omega)) ?_
    have e1 := lin_ok (i := 0) h1
    have e2 := lin_bad (l := l.take (j + 1)) (s := cs0 (rowOf raw)) (i := 0) (j := j) (by rw [List.take_take, Nat.min_eq_left (by omega)]; exact h1) (by rw [List.getElem?_take_of_lt (by omega)]; exact h2) h3
    rw [e1, e2, Nat.zero_add]
    exact ifT rfl (ifT (by simp) hk)
end Go.Proofs.Yteljallgjmhkdaa
