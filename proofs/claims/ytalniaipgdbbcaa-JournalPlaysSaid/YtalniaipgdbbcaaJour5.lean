/-
  JournalPlays.
-/
import Derived.Test.YtalniaipgdbbcaaJour3
import Derived.Test.YtalniaipgdbbcaaJour4
set_option linter.unusedSimpArgs false
set_option linter.unusedVariables false
namespace Go.Proofs.Ytalniaipgdbbcaa
open Go Go.Gp Go.Ga Go.Th
theorem c_pick17 (c n : Int) (hn : n ≠ 0) : S56 c n (pickW c n, ()) := pure56 _ _ fun H K hk => by
  unfold A56
  unfold pickW at hk
  refine JoinA_i (ifD (fun h => ?_) fun h => ?_)
  · rw [if_pos h] at hk; exact ⟨hn, hk⟩
  · rw [if_neg h] at hk; exact ⟨hn, hk⟩
theorem c_same17 (R : List Req) (hR : R.length ≤ 1000) : S64 R R (true, ()) := pure64 R R fun H K hk => by
  unfold A64
  refine lenA_i fun _ => lenA_i fun _ => ifF (by simp) ?_
  refine loop_n R.length (fun i => ((R, R, (i : Int), ()), ())) (fun _ => True) rfl trivial fun i C hi _ hC => ?_
  dsimp only
  refine lenA_i fun _ => ifLt (fun h => ?_) fun h => hk
  refine atA_lt h (atA_lt h (retA_i _ (c_asked12 _) (ifF rfl ?_)))
  rw [w1 (by omega)]; exact hC h trivial
theorem w8 {k : Nat} (h : k < 256) : IntKind.u8.wrap (k : Int) = (k : Int) := by
  unfold IntKind.wrap
  simp only [IntKind.signed, IntKind.bits, Bool.false_and, Bool.false_eq_true, if_false]
  omega
def TwoJ (H : HP) (n m : Nat) : Prop := ∃ b be s se b2 s2 gs ap an, JAt H n b be s se gs ap an ∧ MAt H m b2 s2 gs ap an
theorem er_f {c : Int} {A B : Prop} (h : B) : ifB (c != c) A B := ifF (by simp) h
theorem journalPlays_walk (d : List (Int × Int × List Int × List Req)) (H : HP) (K : HT [(false, .one .bool)] → HP → Prop) (hk : ∀ H', K (true, ()) H') : A9 d H K := by
  unfold A9
  refine c_up17 H _ fun H1 => c_jnew H1 _ fun nJ H2 hJ0 _ => ifF rfl (lenA_i fun _ => ifD (fun _ => ifT rfl (hk _)) fun hd100 => ?_)
  have hd100 : ¬ (d.length : Int) > 100 := hd100
  intro nM hnM
  have hle := hp_le_new (k := kMK) (x := (⟨none, 0, 0⟩, 0, 0)) hnM
  refine loop_h d.length (fun i v H' => TwoJ H' nJ nM ∧ v = ((d, true, some nJ, nM, (i : Int), ()), ())) ⟨⟨_, _, _, _, 0, ⟨none, 0, 0⟩, _, _, _, hJ0.le' hle, ⟨hp_at _ _ _ _, rfl, fun _ => rfl, fun h => absurd rfl h, by simp, by simp, by simp, by simp⟩⟩, rfl⟩ ?_
  rintro i v H' C hi ⟨hT, rfl⟩ hC
  dsimp only
  refine lenA_i fun _ => ifLt (fun h1 => ?_) fun _ => hk _
  have hC : ∀ H'', TwoJ H'' nJ nM → C ((d, true, some nJ, nM, IntKind.i64.wrap ((i : Int) + 1), ()), ()) H'' := fun H'' h => by
    rw [w1 (by omega)]; exact hC h1 _ _ ⟨h, rfl⟩
  refine atA_lt h1 (retA_i _ (c_qfew _ 50) ?_)
  generalize d[i] = x
  obtain ⟨xw, xn, slots, l⟩ := x
  dsimp only
  cases hf : fewQ l 50 with
  | false => exact ifT rfl (hk _)
  | true =>
  have hl50 := fewQ_len hf
  have hsh : ∀ r ∈ l, shortQ r := fun r hr => by
    obtain ⟨j, hj, rfl⟩ := List.getElem_of_mem hr
    unfold fewQ at hf
    rw [Bool.and_eq_true] at hf
    have := allN_at hf.1 hj
    rw [List.getElem?_eq_getElem hj] at this
    exact smallQ_short this
  refine ifF rfl (lenA_i fun _ => ifD (fun _ => hk _) fun hs60 => ?_)
  refine JoinA_w (fun v H2 => TwoJ H2 nJ nM ∧ ∃ c : Int, 0 ≤ c ∧ c ≤ 11 ∧ v = ((d, true, some nJ, nM, (i : Int), c, er c, ()), ())) ?_ ?_
  · -- what is told
    rintro _ H2 ⟨⟨b, be, s, se, b2, s2, gs, ap, an, hJ, hM⟩, c, hc0, hc11, rfl⟩
    dsimp only
    refine retH_r _ (fun K' hk' => c_jleft hJ K' hk') (retH_r _ (fun K' hk' => c_mleft hM K' hk') (retH_r _ (fun K' hk' => c_jready hJ K' hk') (retH_r _ (fun K' hk' => c_mready hM K' hk') (retA_i _ (c_code c hc0 hc11) ?_))))
    refine er_f (er_f (er_f (retH_r _ (fun K' hk' => c_jopen hJ K' hk') (ldO_r hM.hdr ?_))))
    dsimp only
    have e : decide (((s2.len : Nat) : Int) > 0) = decide (gs ≠ []) := by
      rw [Bool.eq_iff_iff, decide_eq_true_eq, decide_eq_true_eq, hM.sl]
      have := len_flat hM.ne
      constructor
      · intro h1 h2; rw [h2] at h1; simp at h1
      · intro h1; have := List.length_pos_iff.2 h1; omega
    rw [e]
    have hRl : (nxG gs ap).length ≤ 1000 := by
      unfold nxG
      rw [List.length_map]
      cases hg : gs[ap]? with
      | none => simp
      | some g => have := grp_le hJ hg; show g.length ≤ 1000; omega
    refine ifF (by simp) (retH_r _ (fun K' hk' => c_jnext hJ K' hk') (retH_r _ (fun K' hk' => c_mnext hM K' hk') (retA_i _ (c_same17 _ hRl) (ifF rfl (ifF (by simp) (er_f ?_))))))
    have two : TwoJ H2 nJ nM := ⟨b, be, s, se, b2, s2, gs, ap, an, hJ, hM⟩
    exact ifB_i (fun _ => er_f (hC _ two)) fun _ => hC _ two
  intro B hB
  have hB : ∀ H2 (c : Int), TwoJ H2 nJ nM → 0 ≤ c → c ≤ 11 → B ((d, true, some nJ, nM, (i : Int), c, er c, ()), ()) H2 := fun H2 c h a b => hB _ _ ⟨h, c, a, b, rfl⟩
  obtain ⟨b, be, s, se, b2, s2, gs, ap, an, hJ, hM⟩ := hT
  refine retA_i _ (c_pick17 xw 4 (by decide)) (ifB_i (fun _ => ?_) fun _ => ifB_i (fun _ => ?_) fun _ => ?_)
  · -- a batch is begun
    refine c_jbegin hJ slots l (by omega) hsh _ (fun hne => ?_) (fun he hc => ?_) (fun he h2 h3 h4 => ?_) fun he h2 h3 h4 H3 b' be' s' se' hJ3 fr => ?_
    · refine c_mbegin hM slots l (by omega) _ (fun _ => ?_) (fun h => absurd h hne) (fun h => absurd h hne) fun h => absurd h hne
      exact hB _ 10 ⟨_, _, _, _, _, _, _, _, _, hJ, hM⟩ (by decide) (by decide)
    · refine c_mbegin hM slots l (by omega) _ (fun h => absurd he h) (fun _ _ => ?_) (fun _ a c => ?_) fun _ a c => ?_
      · exact hB _ 1 ⟨_, _, _, _, _, _, _, _, _, hJ, hM⟩ (by decide) (by decide)
      · rcases hc with h | h
        · exact absurd a h
        · rw [h] at c; cases c
      · rcases hc with h | h
        · exact absurd a h
        · rw [h] at c; cases c
    · refine c_mbegin hM slots l (by omega) _ (fun h => absurd he h) (fun _ h => ?_) (fun _ _ _ _ => ?_) fun _ _ _ h => absurd h4 (by omega)
      · rcases h with h | h
        · exact absurd h2 h
        · rw [h] at h3; cases h3
      · exact hB _ 2 ⟨_, _, _, _, _, _, _, _, _, hJ, hM⟩ (by decide) (by decide)
    · refine c_mbegin (hM.frJ fr) slots l (by omega) _ (fun h => absurd he h) (fun _ h => ?_) (fun _ _ _ h => absurd h4 (by omega)) fun _ _ _ _ H4 b4 s4 hM4 fr4 => ?_
      · rcases h with h | h
        · exact absurd h2 h
        · rw [h] at h3; cases h3
      · exact hB _ 0 ⟨_, _, _, _, _, _, _, _, _, hJ3.frM fr4, hM4⟩ (by decide) (by decide)
  · -- the next group is applied
    refine retH_r _ (fun K' hk' => c_mnext hM K' hk') (lenA_i fun _ => ?_)
    dsimp only
    have hR32 : (nxG gs ap).length ≤ 32 := by
      unfold nxG
      rw [List.length_map]
      cases hg : gs[ap]? with
      | none => simp
      | some g => exact grp_le hJ hg
    refine JoinA_w (fun v H2 => H2 = H' ∧ ∃ n : Nat, n ≤ 33 ∧ v = ((d, true, some nJ, nM, (i : Int), (n : Int), ()), ())) ?_ ?_
    rotate_left
    · intro C' hC'
      refine retA_i _ (c_pick17 xn 6 (by decide)) (ifB_i (fun _ => hC' _ _ ⟨rfl, (nxG gs ap).length + 1, by omega, by rw [w1 (by omega)]⟩) fun _ => hC' _ _ ⟨rfl, (nxG gs ap).length, by omega, rfl⟩)
    rintro _ H' ⟨rfl, n, hn, rfl⟩
    dsimp only
    refine ⟨by omega, by omega, by omega, by omega, ?_⟩
    rw [Int.toNat_natCast]
    have z0 : ∀ a ∈ List.replicate n ((0, false, [], [], 0) : Res), shortA a := fun a ha => by
      rw [(List.mem_replicate.1 ha).2]
      exact ⟨by show (0 : Nat) ≤ 100; decide, by show (0 : Nat) ≤ 1000; decide, fun p hp => by have hp : p ∈ ([] : List Pr) := hp; cases hp⟩
    refine loop_h n (fun k v H2 => H2 = H' ∧ ∃ a : List Res, a.length = n ∧ (∀ x ∈ a, shortA x) ∧ v = ((d, true, some nJ, nM, (i : Int), (n : Int), a, (k : Int), ()), ())) ⟨rfl, _, List.length_replicate, z0, rfl⟩ ?_
    rintro k v H' C' hk2 ⟨rfl, a, hal, has, rfl⟩ hC'
    dsimp only
    refine ifLt (fun h2 => ?_) fun h2 => ?_
    · rw [w8 (by omega)]
      refine byteA_n (by omega) ⟨by omega, by omega, ?_⟩
      rw [Int.toNat_natCast]
      refine elA_i (List.getElem?_eq_getElem (by omega : k < a.length)) ?_
      rw [w1 (by omega)]
      refine hC' h2 _ _ ⟨rfl, _, by rw [List.length_set]; exact hal, fun x hx => ?_, rfl⟩
      rcases List.mem_or_eq_of_mem_set hx with hx | rfl
      · exact has x hx
      · exact ⟨by show (1 : Nat) ≤ 100; decide, by show (0 : Nat) ≤ 1000; decide, fun p hp => by have hp : p ∈ ([] : List Pr) := hp; cases hp⟩
    · have tail : ∀ H2 (c : Int), TwoJ H2 nJ nM → 0 ≤ c → c ≤ 11 → LoopA (V := (List (Int × Int × List Int × List Req) × Bool × Option Nat × Nat × Int × Int × Value × Int × List Res × Int × Unit) × Unit) ((d, true, some nJ, nM, (i : Int), c, er c, (n : Int), a, 0, ()), ()) H2 fun x48 H49 B50 => ifB (decide (x48.1.2.2.2.2.2.2.2.2.2.1 < x48.1.2.2.2.2.2.2.2.1)) (byteA 9 fun x51 => appA 0 1 1 (inA' x48.1.2.2.2.2.2.2.2.2.2.1 x48.1.2.2.2.2.2.2.2.2.1.length fun i52 => elA x48.1.2.2.2.2.2.2.2.2.1 i52 fun x53 => B50 ((x48.1.1, x48.1.2.1, x48.1.2.2.1, x48.1.2.2.2.1, x48.1.2.2.2.2.1, x48.1.2.2.2.2.2.1, x48.1.2.2.2.2.2.2.1, x48.1.2.2.2.2.2.2.2.1, List.set x48.1.2.2.2.2.2.2.2.2.1 i52 (x53.1, x53.2.1, [] ++ [x51], x53.2.2.2), IntKind.i64.wrap (x48.1.2.2.2.2.2.2.2.2.2.1 + 1), ()), ()) H49)) (B ((x48.1.1, x48.1.2.1, x48.1.2.2.1, x48.1.2.2.2.1, x48.1.2.2.2.2.1, x48.1.2.2.2.2.2.1, x48.1.2.2.2.2.2.2.1, ()), ()) H49) := fun H2 c hT hc0 hc11 => by
        refine loop_h n (fun k v H3 => H3 = H2 ∧ ∃ a : List Res, a.length = n ∧ v = ((d, true, some nJ, nM, (i : Int), c, er c, (n : Int), a, (k : Int), ()), ())) ⟨rfl, a, hal, rfl⟩ ?_
        rintro k v H2 C' hk2 ⟨rfl, a, hal, rfl⟩ hC'
        dsimp only
        refine ifLt (fun h2 => ?_) fun h2 => hB _ c hT hc0 hc11
        refine byteA_n (n := 9) (by decide) (appA_i (by decide) ⟨by omega, by omega, ?_⟩)
        rw [Int.toNat_natCast]
        refine elA_i (List.getElem?_eq_getElem (by omega : k < a.length)) ?_
        rw [w1 (by omega)]
        exact hC' h2 _ _ ⟨rfl, _, by rw [List.length_set]; exact hal, rfl⟩
      refine c_japply hJ a has (by omega) _ (fun h10 => ?_) (fun g hg hr => ?_) fun g hg hr H3 hJ3 fr => ?_
      · refine c_mapply hM a (by omega) _ (fun _ => ?_) (fun g hg => by rw [h10] at hg; cases hg) fun g hg => by rw [h10] at hg; cases hg
        exact tail _ 10 ⟨_, _, _, _, _, _, _, _, _, hJ, hM⟩ (by decide) (by decide)
      · refine c_mapply hM a (by omega) _ (fun h => by rw [h] at hg; cases hg) (fun g' hg' _ => ?_) fun g' hg' h => ?_
        · exact tail _ 1 ⟨_, _, _, _, _, _, _, _, _, hJ, hM⟩ (by decide) (by decide)
        · rw [hg] at hg'; injection hg' with e; subst e; exact absurd h hr
      · refine c_mapply (hM.frJ fr) a (by omega) _ (fun h => by rw [h] at hg; cases hg) (fun g' hg' h => ?_) fun g' hg' _ H4 hM4 fr4 => ?_
        · rw [hg] at hg'; injection hg' with e; subst e; exact absurd hr h
        · rw [hg] at hg'; injection hg' with e; subst e
          exact tail _ 0 ⟨_, _, _, _, _, _, _, _, _, hJ3.frM fr4, hM4⟩ (by decide) (by decide)
  · -- the next request is answered
    refine c_janswered' hJ _ (fun h10 => ?_) fun hy H3 hJ3 fr => ?_
    · refine c_mdone hM _ (fun _ => ?_) fun h => absurd h (by omega)
      exact hB _ 10 ⟨_, _, _, _, _, _, _, _, _, hJ, hM⟩ (by decide) (by decide)
    · refine c_mdone (hM.frJ fr) _ (fun h => absurd h (by omega)) fun _ H4 hM4 fr4 => ?_
      rcases hJ3 with ⟨e1, hJ3⟩ | ⟨e1, hJ3⟩ <;> rcases hM4 with ⟨e2, hM4⟩ | ⟨e2, hM4⟩
      · exact hB _ 0 ⟨_, _, _, _, _, _, _, _, _, hJ3.frM fr4, hM4⟩ (by decide) (by decide)
      · exact absurd e2 e1
      · exact absurd e1 e2
      · exact hB _ 0 ⟨_, _, _, _, _, _, _, _, _, hJ3.frM fr4, hM4⟩ (by decide) (by decide)
theorem fitDeeds : fitT Try.prog 21 (.row (.cons (.one (.int .i64)) (.cons (.one (.int .i64)) (.cons (.row (.one (.int .i64))) (.row (.cons (.one (.int .i64)) (.cons (.one (.int .i64)) (.cons (.one (.int .i64)) (.cons (.row .byte) (.cons (.row .byte) (.cons (.row .byte) (.cons (.row .byte) (.one (.int .i64)))))))))))))) 92 = true := by kernel_rfl
theorem journalPlays_row (W : World) (a : Sl) (n1 : Nat) (h1 : RdT Try.prog W n1 92 [.slice a.a a.len a.cap]) :
    callG Try.prog 9 [.slice a.a a.len a.cap] [.one .bool] W fun x W' => x = (true, ()) ∧ Keeps [] W W' := by
  obtain ⟨y, hy, _⟩ := fit_dat _ fitDeeds h1
  exact callG_of (callA9 y _ _ (journalPlays_walk y _ _ fun _ => rfl)) (arg_cons rfl rfl hy rfl arg_nil)
end Go.Proofs.Ytalniaipgdbbcaa
