/-
  Slots: whatever is done with them, over data.
-/
import Derived.Test.YtalniaipgdbbcaaSlot3
set_option linter.unusedSimpArgs false
set_option linter.unusedVariables false
namespace Go.Proofs.Ytalniaipgdbbcaa
open Go Go.Gp Go.Ga Go.Th
structure SlInv (H : HP) (n b b2 : Nat) (s s2 : Sl) (l : List One) : Prop where
  sl : SlotsAt H n b s l
  ar : ArrAt H b2 ONEk 56 s2 l
  at0 : SlAt s2 b2 l.length
  ok : okS l
theorem SlInv.ne {H : HP} {n b b2 : Nat} {s s2 : Sl} {l : List One} (h : SlInv H n b b2 s s2 l) : b2 ≠ b := fun e => by
  subst e
  have h1 := h.ar
  have h2 := h.sl.arr
  unfold ArrAt at h1 h2
  rw [h1] at h2
  injection h2 with h2
  injection h2 with h2
  injection h2 with _ h2
  cases h2
theorem SlInv.ne2 {H : HP} {n b b2 : Nat} {s s2 : Sl} {l : List One} (h : SlInv H n b b2 s s2 l) : n ≠ b2 := fun e => by
  subst e
  have h1 := h.sl.hdr
  have h2 := h.ar
  unfold ArrAt at h2
  rw [h1] at h2
  injection h2 with h2
  injection h2 with h2
  cases h2
theorem SlInv.mid {H : HP} {n b b2 : Nat} {s s2 : Sl} {l l' : List One} (h : SlInv H n b b2 s s2 l) : ArrAt (H.set b (.arr ONEk 127) (s, l')) b2 ONEk 56 s2 l := by
  unfold ArrAt
  rw [hp_ne h.ne]; exact h.ar
theorem SlInv.put {H : HP} {n b b2 : Nat} {s s2 : Sl} {l l' : List One} (h : SlInv H n b b2 s s2 l) (he : l'.length = l.length) (ok : okS l') : SlInv ((H.set b (.arr ONEk 127) (s, l')).set b2 (.arr ONEk 56) (s2, l')) n b b2 s s2 l' := by
  have h1 := h.sl.put he
  refine ⟨⟨by rw [hp_ne h.ne2]; exact h1.hdr, ?_, h1.at0, h1.le⟩, hp_at _ _ _ _, by rw [he]; exact h.at0, ok⟩
  unfold ArrAt
  rw [hp_ne (Ne.symm h.ne)]; exact h1.arr
theorem turnS_code (l : List One) (i to : Int) (fr : List Int) : 0 ≤ (turnS l i to fr).1 ∧ (turnS l i to fr).1 ≤ 11 := by
  unfold turnS
  repeat' split
  all_goals (dsimp only; omega)
theorem answS_code (l : List One) (i : Int) (a : Res) : 0 ≤ (answS l i a).1 ∧ (answS l i a).1 ≤ 11 := by
  unfold answS
  repeat' split
  all_goals (dsimp only; omega)
theorem postS_code (l : List One) (r : Req) : 0 ≤ (postS l r).2.1 ∧ (postS l r).2.1 ≤ 11 := by
  unfold postS
  repeat' split
  all_goals (dsimp only; omega)
theorem takeS_code (l : List One) (i c q : Int) : 0 ≤ (takeS l i c q).2.1 ∧ (takeS l i c q).2.1 ≤ 11 := by
  unfold takeS
  repeat' split
  all_goals (dsimp only; omega)
abbrev DEEDk : AK := .cons (.one (.int .i64)) (.cons (.one (.int .i64)) (.cons (.one (.int .i64)) (.cons (.one (.int .i64)) (.cons RQk RSk))))
abbrev Deed := Int × Int × Int × Int × Req × Res
theorem slotPlays_walk (m : Int) (l : List Deed) (H : HP) (K : HT [(false, .one .bool)] → HP → Prop) (hk : ∀ H', K (true, ()) H') : A4 m l H K := by
  unfold A4
  refine c_up14 _ _ (c_snew m _ (fun h => ?_) fun h1 h2 n b s H1 l1 hn hb hs => ?_)
  · refine ifD (fun h' => ifT rfl (ifT rfl (er_eq (a := 1) (b := 1) (by decide) (hk _)))) fun h' => ifD (fun h'' => ifT rfl (ifT rfl (er_eq (a := 1) (b := 1) (by decide) (hk _)))) fun h'' => ?_
    have h' : ¬ m < 1 := h'
    have h'' : ¬ m > 32 := h''
    exact absurd (⟨by omega, by omega⟩ : 1 ≤ m ∧ m ≤ 32) h
  refine ifF (decide_eq_false (by show ¬ m < 1; omega)) (ifF (decide_eq_false (by show ¬ m > 32; omega)) (ifF rfl ⟨er_ifc 0, ifF rfl (lenA_i fun _ => ifD (fun _ => ifT rfl (ifT rfl ⟨er_ifc 0, hk _⟩)) fun hlen => ?_)⟩))
  have hlen : ¬ (l.length : Int) > 150 := hlen
  refine ⟨by omega, Int.le_refl _, by omega, by omega, ?_⟩
  refine pubA_r (fun e => ?_) fun s2 b2 hb2 hs2 => ?_
  · have := congrArg List.length e
    simp at this
    omega
  have inv0 : SlInv (H1.set b2 (.arr ONEk 56) (s2, List.replicate m.toNat zOne)) n b b2 s s2 (List.replicate m.toNat zOne) := ⟨hs.le' (hp_le_new hb2), hp_at _ _ _ _, by simpa using hs2, okS_rep _⟩
  have len0 : ((List.replicate m.toNat zOne).length : Int) = m := by simp; omega
  refine loop_h l.length (fun i v H => ∃ xs, v = ((m, l, true, some n, s2, (i : Int), ()), ()) ∧ SlInv H n b b2 s s2 xs ∧ (xs.length : Int) = m) ⟨_, rfl, inv0, len0⟩ ?_
  rintro i v H2 C hi ⟨xs, rfl, inv, hxl⟩ hC
  dsimp only at hC ⊢
  refine lenA_i fun _ => ifLt (fun hlt => ?_) fun _ => hk _
  refine atA_lt hlt (retA_i _ (c_small _) (retA_i _ (c_small14 _) (ifNot (fun _ => hk _) fun hr => ifNot (fun _ => hk _) fun ha => ?_)))
  generalize hd : l[i] = d at hr ha ⊢
  have hr : shortQ d.2.2.2.2.1 := smallQ_short hr
  have ha : shortA d.2.2.2.2.2 := smallA_short ha
  have hxs : xs.length ≤ 32 := inv.sl.le
  refine JoinA_w (fun v H' => ∃ c ys, v = ((m, l, true, some n, s2, (i : Int), c, er c, ()), ()) ∧ 0 ≤ c ∧ c ≤ 11 ∧ SlInv H' n b b2 s s2 ys ∧ (ys.length : Int) = m) ?_ fun B hB => ?_
  · rintro v H3 ⟨c, ys, rfl, c0, c1, inv, hyl⟩
    dsimp only
    have at' : ∀ {j : Nat} {K : Addr → Prop}, j < ys.length → K (adr b2 j) → arrA s2 (j : Int) 14 K := fun hj h => arrA_r inv.at0.at0 rfl (by rw [inv.at0.len]; exact hj) h
    refine retA_i _ (c_code c c0 c1) (ifF (by simp) (retH_r _ (c_slen inv.sl) (ifF (by simp [hyl]) ?_)))
    refine loop_n (ys.length + 2) (fun k => ((m, l, true, some n, s2, (i : Int), (k : Int) - 1, ()), ())) (fun _ => True) rfl trivial fun k C' hk' _ hC' => ?_
    dsimp only at hC' ⊢
    have next : k < ys.length + 2 → C' ((m, l, true, some n, s2, (i : Int), IntKind.i64.wrap ((k : Int) - 1 + 1), ()), ()) H3 := fun h => by
      have := hC' h trivial
      rw [wI (by omega) (by omega), show (k : Int) - 1 + 1 = ((k + 1 : Nat) : Int) - 1 from by omega]
      exact this
    refine ifD (fun hle => ?_) fun hle => ?_
    · have hle : (k : Int) - 1 ≤ m := hle
      refine retH_r _ (c_req inv.sl inv.ok _) (ifD (fun h0 => ?_) fun h0 => ifB_i (fun h1 => ?_) fun h1 => ?_)
      · have h0 : (k : Int) - 1 < 0 := h0
        have e : nthI ys ((k : Int) - 1) = none := nthI_out (by omega)
        refine retH_r _ (c_state inv.sl _) (ifF (by simp [stS, e]) (retA_i (6, ()) ?_ (ifF rfl (next (by omega)))))
        have : reqS ys ((k : Int) - 1) = (zReq, 6) := by unfold reqS; rw [e]
        rw [this]; exact c_code 6 (by decide) (by decide)
      · have h1 : (k : Int) - 1 = m := by simpa using h1
        have e : nthI ys ((k : Int) - 1) = none := nthI_out (by omega)
        refine retH_r _ (c_state inv.sl _) (ifF (by simp [stS, e]) (retA_i (6, ()) ?_ (ifF rfl (next (by omega)))))
        have : reqS ys ((k : Int) - 1) = (zReq, 6) := by unfold reqS; rw [e]
        rw [this]; exact c_code 6 (by decide) (by decide)
      · have h0 : ¬ (k : Int) - 1 < 0 := h0
        have h1 : ¬ (k : Int) - 1 = m := by simpa using h1
        obtain ⟨j, hj, hjl, e⟩ := nthI_in (l := ys) (i := (k : Int) - 1) (by omega) (by omega)
        have hg := List.getElem?_eq_getElem hjl
        have hok := inv.ok _ (List.getElem_mem hjl)
        rw [hj]
        refine retH_r _ (c_state inv.sl _) (at' hjl (ldE_r inv.ar hg (ifF (by simp [stS, nthI_nat, hg]) ⟨er_ifc _, at' hjl (ldE_r inv.ar hg ?_)⟩)))
        have er' : reqS ys (j : Int) = if ys[j].1 = 0 then (zReq, 3) else (ys[j].2.1, 0) := by unfold reqS; rw [nthI_nat, hg]
        by_cases hz : ys[j].1 = 0
        · rw [if_pos hz] at er'
          rw [er', er_nil]
          refine ifF (by simp [hz]) (at' hjl (ldE_r inv.ar hg ?_))
          rw [hok.2.2.2 hz]
          refine retA_i _ (c_asked12 zReq) (ifF rfl ?_)
          rw [← hj]; exact next (by omega)
        · rw [if_neg hz] at er'
          have hpos : ys[j].1 > 0 := by have := hok.1; omega
          rw [er', er_nil]
          refine ifF (by simp [hpos]) (at' hjl (ldE_r inv.ar hg (retA_i _ (c_asked12 ys[j].2.1) (ifF rfl ?_))))
          rw [← hj]; exact next (by omega)
    · refine loop_n 7 (fun k => ((m, l, true, some n, s2, (i : Int), (k : Int) - 1, ()), ())) (fun _ => True) rfl trivial fun k C' hk' _ hC' => ?_
      dsimp only at hC' ⊢
      refine ifD (fun h5 => c_first inv.sl _ _ (retH_r _ (c_rfirst inv.ar inv.at0 (by have := inv.sl.le; omega) _) (ifF (by simp) ?_))) fun h5 => ?_
      · have h5 : (k : Int) - 1 ≤ 5 := h5
        have := hC' (by omega) trivial
        rw [wI (by omega) (by omega), show (k : Int) - 1 + 1 = ((k + 1 : Nat) : Int) - 1 from by omega]
        exact this
      · rw [w1 (by omega)]
        exact hC hlt _ _ ⟨ys, rfl, inv, hyl⟩
  · refine retA_i _ (c_pick14 _ 6 (by decide)) ?_
    generalize pickW d.1 6 = pk
    refine JoinA_w (fun v H' => ∃ t : Bool, v = ((m, l, true, some n, s2, (i : Int), (), pk, t, ()), (d.1, d.2.1, d.2.2.1, d.2.2.2.1, d.2.2.2.2.1.1, d.2.2.2.2.1.2.1, d.2.2.2.2.1.2.2.1, d.2.2.2.2.1.2.2.2.1, d.2.2.2.2.1.2.2.2.2.1, d.2.2.2.2.1.2.2.2.2.2.1, d.2.2.2.2.1.2.2.2.2.2.2.1, d.2.2.2.2.1.2.2.2.2.2.2.2, d.2.2.2.2.2.1, d.2.2.2.2.2.2.1, d.2.2.2.2.2.2.2.1, d.2.2.2.2.2.2.2.2.1, d.2.2.2.2.2.2.2.2.2, ()), ()) ∧ SlInv H' n b b2 s s2 xs) ?_ fun D hD => ?_
    · rintro v H3 ⟨t, rfl, inv⟩
      dsimp only
      have hln : xs.length ≤ 1000 := by omega
      refine ifB_i (fun _ => ?_) fun _ => ifB_i (fun _ => ?_) fun _ => ifB_i (fun _ => ?_) fun _ => ifB_i (fun _ => ?_) fun _ => ?_
      · refine c_post inv.sl d.2.2.2.2.1 hr _ (c_rpost inv.mid inv.at0 hln d.2.2.2.2.1 _ (ifF (by simp) ?_))
        exact hB _ _ ⟨_, _, rfl, (postS_code xs _).1, (postS_code xs _).2, inv.put (postS_len xs _) (postS_ok inv.ok hr), by rw [postS_len]; exact hxl⟩
      · refine c_claim inv.sl _ _ (c_rturn inv.mid inv.at0 _ 2 1 1 _ ?_)
        rw [turnS_two]
        exact hB _ _ ⟨_, _, rfl, (turnS_code xs _ _ _).1, (turnS_code xs _ _ _).2, inv.put (turnS_len xs _ _ _) (turnS_ok inv.ok (by decide) (by decide) _), by rw [turnS_len]; exact hxl⟩
      · refine c_answer inv.sl _ d.2.2.2.2.2 ha _ (c_rturn inv.mid inv.at0 _ 3 2 2 _ ?_)
        rw [turnS_two]
        have hmid := inv.mid (l' := (answS xs d.2.1 d.2.2.2.2.2).2)
        have hput : ∀ ys, ys = (answS xs d.2.1 d.2.2.2.2.2).2 → SlInv (((H3.set b (.arr ONEk 127) (s, (answS xs d.2.1 d.2.2.2.2.2).2)).set b2 (.arr ONEk 56) (s2, ys))) n b b2 s s2 ys := fun ys e => by subst e; exact inv.put (answS_len xs _ _) (answS_ok inv.ok _ _)
        have hcode := turnS_ans xs d.2.1 d.2.2.2.2.2
        have hc0 := answS_code xs d.2.1 d.2.2.2.2.2
        refine ifB_i (fun hz => ?_) fun hz => ?_
        · have hz : (turnS xs d.2.1 3 [2]).1 = 0 := by simpa using hz
          cases hx : nthI xs d.2.1 with
          | none => unfold turnS at hz; rw [hx] at hz; cases hz
          | some x =>
            obtain ⟨j, hj, hjx⟩ := nthI_some hx
            have hlt := (List.getElem?_eq_some_iff.1 hjx).1
            have h2 : x.1 = 2 := by
              unfold turnS at hz
              rw [hx] at hz
              simp only [List.mem_singleton] at hz
              by_cases h : x.1 = 2
              · exact h
              · rw [if_neg h] at hz; cases hz
            have e1 : turnS xs d.2.1 3 [2] = (0, xs.set j (3, x.2)) := by unfold turnS; rw [hx]; simp only [List.mem_singleton]; rw [if_pos h2, hj, Int.toNat_natCast]
            have e2 : answS xs d.2.1 d.2.2.2.2.2 = (0, xs.set j (3, x.2.1, d.2.2.2.2.2)) := by unfold answS; rw [hx]; simp only; rw [if_pos h2, hj, Int.toNat_natCast]
            rw [e1]
            rw [e2] at hput hc0
            rw [e2]
            refine arrA_r inv.at0.at0 hj (by rw [inv.at0.len]; exact hlt) (stE_r (hp_at _ _ _ _) (x := (3, x.2)) (by rw [List.getElem?_set, if_pos rfl, if_pos hlt]) ?_)
            refine hB _ _ ⟨0, xs.set j (3, x.2.1, d.2.2.2.2.2), rfl, by decide, by decide, ?_, by rw [List.length_set]; exact hxl⟩
            have := hput _ rfl
            show SlInv (((HP.set _ b2 (.arr ONEk 56) (s2, xs.set j (3, x.2)))).set b2 (.arr ONEk 56) (s2, (xs.set j (3, x.2)).set j (3, x.2.1, d.2.2.2.2.2))) n b b2 s s2 _
            rw [hp_set2, List.set_set]
            exact this
        · have hz : ¬ (turnS xs d.2.1 3 [2]).1 = 0 := by simpa using hz
          rw [hcode] at hz ⊢
          have e1 : (turnS xs d.2.1 3 [2]).2 = (answS xs d.2.1 d.2.2.2.2.2).2 := by
            rw [← hcode] at hz
            unfold turnS at hz ⊢
            unfold answS
            cases hx : nthI xs d.2.1 with
            | none => rfl
            | some x =>
              rw [hx] at hz
              simp only [List.mem_singleton] at hz ⊢
              by_cases h : x.1 = 2
              · rw [if_pos h] at hz; exact absurd rfl hz
              · rw [if_neg h, if_neg h]
          exact hB _ _ ⟨_, _, rfl, hc0.1, hc0.2, hput _ e1, by rw [e1, answS_len]; exact hxl⟩
      · refine c_redirect inv.sl _ _ (c_rturn inv.mid inv.at0 _ 4 1 2 _ ?_)
        exact hB _ _ ⟨_, _, rfl, (turnS_code xs _ _ _).1, (turnS_code xs _ _ _).2, inv.put (turnS_len xs _ _ _) (turnS_ok inv.ok (by decide) (by decide) _), by rw [turnS_len]; exact hxl⟩
      · refine c_take inv.sl inv.ok _ _ _ _ (c_rtake inv.mid inv.at0 _ _ _ _ (retA_i _ (c_qsame _) (ifF rfl ?_)))
        exact hB _ _ ⟨_, _, rfl, (takeS_code xs _ _ _).1, (takeS_code xs _ _ _).2, inv.put (takeS_len xs _ _ _) (takeS_ok inv.ok _ _ _), by rw [takeS_len]; exact hxl⟩
    · exact ifB_i (fun _ => hD _ _ ⟨_, rfl, inv⟩) fun _ => hD _ _ ⟨_, rfl, inv⟩
end Go.Proofs.Ytalniaipgdbbcaa
