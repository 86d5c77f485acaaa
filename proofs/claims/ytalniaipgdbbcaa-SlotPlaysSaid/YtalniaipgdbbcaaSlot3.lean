/-
  Slots: the two laws' walks, over data.
-/
import Derived.Test.YtalniaipgdbbcaaDslaw
import Derived.Test.YtalniaipgdbbcaaSlot2
import Derived.Test.YtalniaipgdbbcaaElide1
set_option linter.unusedSimpArgs false
set_option linter.unusedVariables false
namespace Go.Proofs.Ytalniaipgdbbcaa
open Go Go.Gp Go.Ga Go.Th
theorem c_code (c : Int) (h0 : 0 ≤ c) (h1 : c ≤ 11) : S29 (er c) (c, ()) := pure29 _ fun H K hk => by
  unfold A29
  refine ⟨er_ifc c, ?_⟩
  rw [er_nil]
  by_cases hc : c = 0
  · subst hc; exact hk
  · refine ifF (decide_eq_false hc) ?_
    refine loop_n 11 (fun i => ((er c, (i : Int) + 1, ()), ())) (fun i => (i : Int) < c) rfl (by omega) fun i C hi hP hC => ?_
    dsimp only at hC ⊢
    refine ifD (fun h2 => er_eq (by omega) (ifD (fun h => by rw [← h]; exact hk) fun h => ?_)) fun h2 => ?_
    · have h : ¬ c = (i : Int) + 1 := h
      rw [wI (by omega) (by omega)]
      have := hC (by omega) (by omega)
      rw [show ((i + 1 : Nat) : Int) + 1 = (i : Int) + 1 + 1 from by omega] at this
      exact this
    · have h2 : ¬ (i : Int) + 1 ≤ 11 := h2
      omega
def pickW (c n : Int) : Int := Int.tmod (if c < 0 then IntKind.i64.wrap (0 - IntKind.i64.wrap (c + 1)) else c) n
theorem c_pick14 (c n : Int) (hn : n ≠ 0) : S24 c n (pickW c n, ()) := pure24 _ _ fun H K hk => by
  unfold A24
  unfold pickW at hk
  refine JoinA_i (ifD (fun h => ?_) fun h => ?_)
  · rw [if_pos h] at hk; exact ⟨hn, hk⟩
  · rw [if_neg h] at hk; exact ⟨hn, hk⟩
def smallA (a : Res) : Bool := fewB a.2.2.2.1 20 && decide ((a.2.2.1.length : Int) ≤ 100)
theorem c_small14 (a : Res) : S16 a (smallA a, ()) := pure16 a fun H K hk => by
  unfold A16
  unfold smallA at hk
  refine retA_i _ (c_few _ 20) (ifB_i (fun h => lenA_i fun _ => ?_) fun h => ?_)
  · have h : fewB a.2.2.2.1 20 = true := h
    rw [h, Bool.true_and] at hk; exact hk
  · have h : fewB a.2.2.2.1 20 = false := h
    rw [h, Bool.false_and] at hk; exact hk
theorem smallA_short {a : Res} (h : smallA a = true) : shortA a := by
  unfold smallA at h
  simp only [Bool.and_eq_true, decide_eq_true_eq] at h
  have h1 := fewB_len h.1
  exact ⟨by omega, by omega, fun p hp => by have := fewB_mem h.1 p hp; omega⟩
theorem smallQ_short {r : Req} (h : smallQ r = true) : shortQ r := by
  unfold smallQ at h
  simp only [Bool.and_eq_true, decide_eq_true_eq] at h
  exact ⟨by omega, by omega, by omega, by omega⟩
theorem c_asked12 (a : Req) : S32 a a (true, ()) := pure32 a a fun H K hk => by
  unfold A32
  refine ifT (by simp) (ifT (by simp) (ifT (by simp) (ifT (by simp) (ifT (by simp) (ifT (by simp) (ifT (by simp) ?_))))))
  rw [beq_self_eq_true]; exact hk
def reqA : Req := (1, 2, 1, [97], [], [], [], 0)
theorem c_up14 (H : HP) (K : HT [(false, .one .bool)] → HP → Prop) (hk : K (true, ()) H) : C13 H K := callA_forget rfl (callA13 _ _ (by
  unfold A13
  refine c_snew 2 _ (fun h => absurd ⟨by decide, by decide⟩ h) fun _ _ n b s H1 l1 hn hb hs => c_snew 0 _ (fun _ => ?_) fun h => absurd h (by decide)
  have bs : (2 : Int).toNat = 2 := rfl
  rw [bs] at hs
  refine ifF rfl ⟨er_ifc 0, ifF rfl ?_⟩
  refine byteA_n (n := 97) (by decide) ?_
  have e1 : postS (List.replicate 2 zOne) reqA = (0, 0, [(1, reqA, zRes), zOne]) := by kernel_rfl
  have hr : shortQ reqA := ⟨by decide, by decide, by decide, by decide⟩
  refine c_post hs reqA hr _ ?_
  have h2 := hs.put (postS_len _ reqA)
  rw [e1] at h2 ⊢
  have e2 : turnS [(1, reqA, zRes), zOne] 0 2 [1] = (0, [(2, reqA, zRes), zOne]) := by kernel_rfl
  refine c_claim h2 0 _ ?_
  have h3 := h2.put (turnS_len _ 0 2 [1])
  rw [e2] at h3 ⊢
  have e3 : answS [(2, reqA, zRes), zOne] 0 (0, true, [], [], 0) = (0, [(3, reqA, (0, true, [], [], 0)), zOne]) := by kernel_rfl
  refine c_answer h3 0 (0, true, [], [], 0) ⟨by decide, by decide, fun p hp => by simp at hp⟩ _ ?_
  have h4 := h3.put (answS_len _ 0 (0, true, [], [], 0))
  rw [e3] at h4 ⊢
  have e4 : takeS [(3, reqA, (0, true, [], [], 0)), zOne] 0 1 2 = ((0, true, [], [], 0), 0, [zOne, zOne]) := by kernel_rfl
  have ok4 : okS [(3, reqA, (0, true, [], [], 0)), zOne] := fun x hx => by
    simp only [List.mem_cons, List.not_mem_nil, or_false] at hx
    rcases hx with rfl | rfl
    · exact ⟨by show (0 : Int) ≤ 3; decide, by show (3 : Int) ≤ 4; decide, hr, fun e => by have e : (3 : Int) = 0 := e; omega⟩
    · exact zOne_ok
  refine c_take h4 ok4 0 1 2 _ ?_
  have h5 := h4.put (takeS_len _ 0 1 2)
  rw [e4] at h5 ⊢
  refine er_eq (a := 1) (b := 1) (by decide) (ifT rfl (ifT rfl ⟨er_ifc 0, ifT rfl ⟨er_ifc 0, ifT rfl ⟨er_ifc 0, ifT rfl (ifT rfl ⟨er_ifc 0, ifT rfl (retH_r _ (c_state h5 0) ?_)⟩)⟩⟩⟩))
  refine ⟨fun m hm => ?_, hk⟩
  have hmb : m ≠ b := fun e => by subst e; rw [hb] at hm; cases hm
  rw [hp_ne hmb, hp_ne hmb, hp_ne hmb, hp_ne hmb]
  exact l1 m hm))
theorem slotOnce_walk (r : Req) (a : Res) (cl q : Int) (H : HP) (K : HT [(false, .one .bool)] → HP → Prop) (hk : ∀ H', K (true, ()) H') : A3 r a cl q H K := by
  unfold A3
  refine c_up14 _ _ (c_snew 4 _ (fun h => absurd ⟨by decide, by decide⟩ h) fun _ _ n b s H1 l1 hn hb hs => retA_i _ (c_small r) (retA_i _ (c_small14 a) (ifF rfl ⟨er_ifc 0, ifF rfl (ifNot (fun _ => ifT rfl (hk _)) fun hr => ifNot (fun _ => ifT rfl (hk _)) fun ha => ?_)⟩)))
  have hr : shortQ r := smallQ_short hr
  have ha : shortA a := smallA_short ha
  have bs : (4 : Int).toNat = 4 := rfl
  rw [bs] at hs
  refine c_post hs r hr _ ⟨er_ifc _, ?_⟩
  have h2 := hs.put (postS_len _ r)
  cases hm : mayQ r with
  | false =>
    have e1 : postS (List.replicate 4 zOne) r = (0, 1, List.replicate 4 zOne) := by unfold postS; rw [if_pos hm]
    rw [e1] at h2 ⊢
    refine ifT rfl (ifT rfl (c_first h2 1 _ ?_))
    exact hk _
  | true =>
    have e1 : postS (List.replicate 4 zOne) r = (0, 0, [(1, r, zRes), zOne, zOne, zOne]) := by unfold postS; rw [if_neg (by rw [hm]; simp)]; rfl
    rw [e1] at h2 ⊢
    refine ifF rfl ?_
    have e2 : postS [(1, r, zRes), zOne, zOne, zOne] r = (0, 4, [(1, r, zRes), zOne, zOne, zOne]) := by
      unfold postS
      rw [if_neg (by rw [hm]; simp), if_pos]
      simp [twinS]
    refine c_post h2 r hr _ ?_
    have h3 := h2.put (postS_len _ r)
    rw [e2] at h3 ⊢
    have ok (x : One) (hx : okO x) : okS [x, zOne, zOne, zOne] := fun y hy => by
      simp only [List.mem_cons, List.not_mem_nil, or_false] at hy
      rcases hy with rfl | rfl | rfl | rfl
      · exact hx
      all_goals exact zOne_ok
    have e3 : takeS [(1, r, zRes), zOne, zOne, zOne] 0 r.1 r.2.1 = (zRes, 10, [(1, r, zRes), zOne, zOne, zOne]) := by simp [takeS, nthI]
    refine c_take h3 (ok _ ⟨by show (0 : Int) ≤ 1; decide, by show (1 : Int) ≤ 4; decide, hr, fun e => by have e : (1 : Int) = 0 := e; omega⟩) 0 r.1 r.2.1 _ ?_
    have h4 := h3.put (takeS_len _ 0 r.1 r.2.1)
    rw [e3] at h4 ⊢
    have e4 : answS [(1, r, zRes), zOne, zOne, zOne] 0 a = (10, [(1, r, zRes), zOne, zOne, zOne]) := rfl
    refine c_answer h4 0 a ha _ ?_
    have h5 := h4.put (answS_len _ 0 a)
    rw [e4] at h5 ⊢
    have e5 : turnS [(1, r, zRes), zOne, zOne, zOne] 0 2 [1] = (0, [(2, r, zRes), zOne, zOne, zOne]) := rfl
    refine c_claim h5 0 _ ?_
    have h6 := h5.put (turnS_len _ 0 2 [1])
    rw [e5] at h6 ⊢
    have e6 : answS [(2, r, zRes), zOne, zOne, zOne] 0 a = (0, [(3, r, a), zOne, zOne, zOne]) := rfl
    refine c_answer h6 0 a ha _ ?_
    have h7 := h6.put (answS_len _ 0 a)
    rw [e6] at h7 ⊢
    refine er_eq (a := 4) (b := 4) (by decide) (ifF rfl (er_eq (a := 10) (b := 10) (by decide) (ifF rfl (er_eq (a := 10) (b := 10) (by decide) (ifF rfl ⟨er_ifc 0, ifF rfl ⟨er_ifc 0, ifF rfl ?_⟩⟩)))))
    have ok3 : okS [(3, r, a), zOne, zOne, zOne] := ok _ ⟨by show (0 : Int) ≤ 3; decide, by show (3 : Int) ≤ 4; decide, hr, fun e => by have e : (3 : Int) = 0 := e; omega⟩
    refine JoinA_w (fun v H' => v = (((), (), true, some n, 0, ()), (r.1, r.2.1, r.2.2.1, r.2.2.2.1, r.2.2.2.2.1, r.2.2.2.2.2.1, r.2.2.2.2.2.2.1, r.2.2.2.2.2.2.2, ()), (a.1, a.2.1, a.2.2.1, a.2.2.2.1, a.2.2.2.2, ()), ()) ∧ SlotsAt H' n b s [(3, r, a), zOne, zOne, zOne]) ?_ fun B hB => ?_
    · rintro v H' ⟨rfl, h8⟩
      dsimp only
      have e7 : takeS [(3, r, a), zOne, zOne, zOne] 0 r.1 r.2.1 = (a, 0, [zOne, zOne, zOne, zOne]) := by simp [takeS, nthI]
      refine c_take h8 ok3 0 r.1 r.2.1 _ ?_
      have h9 := h8.put (takeS_len _ 0 r.1 r.2.1)
      rw [e7] at h9 ⊢
      have e8 : takeS [zOne, zOne, zOne, zOne] 0 r.1 r.2.1 = (zRes, 3, [zOne, zOne, zOne, zOne]) := by simp [takeS, nthI, zOne]
      refine c_take h9 (ok _ zOne_ok) 0 r.1 r.2.1 _ ?_
      have h10 := h9.put (takeS_len _ 0 r.1 r.2.1)
      rw [e8] at h10 ⊢
      exact ifT rfl ⟨er_ifc 0, ifT rfl (retA_i _ (c_qsame a) (ifT rfl (er_eq (a := 3) (b := 3) (by decide) (ifT rfl (retH_r _ (c_state h10 0) (hk _))))))⟩
    · refine JoinA_w (fun v H' => ∃ t : Bool, v = ((cl, q, (), (), true, some n, 0, t, ()), (r.1, r.2.1, r.2.2.1, r.2.2.2.1, r.2.2.2.2.1, r.2.2.2.2.2.1, r.2.2.2.2.2.2.1, r.2.2.2.2.2.2.2, ()), (a.1, a.2.1, a.2.2.1, a.2.2.2.1, a.2.2.2.2, ()), ()) ∧ SlotsAt H' n b s [(3, r, a), zOne, zOne, zOne] ∧ (t = true → cl ≠ r.1 ∨ q ≠ r.2.1)) ?_ fun D hD => ?_
      · rintro v H' ⟨t, rfl, h8, ht⟩
        dsimp only
        refine ifB_i (fun h => ?_) fun h => hB _ _ ⟨rfl, h8⟩
        have e7 : takeS [(3, r, a), zOne, zOne, zOne] 0 cl q = (zRes, 3, [(3, r, a), zOne, zOne, zOne]) := by
          have h : t = true := h
          have hc : r.1 ≠ cl ∨ r.2.1 ≠ q := (ht h).imp Ne.symm Ne.symm
          unfold takeS
          show (if (3 : Int) = 0 ∨ r.1 ≠ cl ∨ r.2.1 ≠ q then _ else _) = _
          rw [if_pos (.inr hc)]
        refine c_take h8 ok3 0 cl q _ ?_
        have h9 := h8.put (takeS_len _ 0 cl q)
        rw [e7] at h9 ⊢
        exact er_eq (a := 3) (b := 3) (by decide) (ifF rfl (hB _ _ ⟨rfl, h9⟩))
      · refine ifB_i (fun h => hD _ _ ⟨true, rfl, h7, fun _ => .inl (by simpa using h)⟩) fun h => hD _ _ ⟨_, rfl, h7, fun h' => .inr (by simpa using h')⟩
end Go.Proofs.Ytalniaipgdbbcaa
