/-
  The laws of joining, over their arguments' readings.
-/
import Derived.Test.YtdglfbeddbcbpaaBulk6
import Derived.Test.YtdglfbeddbcbpaaKy
set_option linter.unusedSimpArgs false
set_option linter.unusedVariables false
namespace Go.Proofs.Ytdglfbeddbcbpaa
open Go Go.Gp Go.Ga Go.Th
theorem bulkJoins_walk (o1 o2 : Int) (l1 l2 : List Pr) (H : HP) (K : HT [(false, .one .bool)] → HP → Prop) (hk : ∀ H', K (true, ()) H') : A12 o1 o2 l1 l2 H K := by
  unfold A12
  refine retA_i _ c_up11 (retA_i _ (c_few l1 150) (retA_i _ (c_few l2 150) ?_))
  refine c_made o1 l1 (fun h => c_made o2 l2 (fun _ => ifT rfl (hk _)) fun _ _ _ _ _ _ _ _ _ _ _ _ => ifT rfl (hk _)) fun q1 t1 n1 H1 hq1 h3 h16 ht1 hn1 hne1 hfm1 hT1 => ?_
  refine c_made o2 l2 (fun _ => ifF rfl (ifT rfl (hk _))) fun q2 t2 n2 H2 hq2 g3 g16 ht2 hn2 hne2 hfm2 hT2 => ?_
  have hT1 := hT1.keep (fm_new ht2 hn2 hfm2)
  refine ifF rfl (ifF rfl (ifNot (fun _ => hk _) fun hf1 => ifNot (fun _ => hk _) fun hf2 => ?_))
  have b1 := fewB_len hf1
  have b2 := fewB_len hf2
  rw [capOf_few (by omega)] at hT1 hT2
  refine retA_i _ (c_rrow l1 (by omega)) (retA_i _ (c_rrow l2 (by omega)) ?_)
  dsimp only
  have c1 := rowOf_len l1
  have c2 := rowOf_len l2
  revert hT1 hT2 c1 c2
  generalize rowOf l1 = a
  generalize rowOf l2 = b
  intro hT2 hT1 c1 c2
  refine c_join hT1 hT2 h3 h16 g3 (by omega) fun p e H3 hfm3 k1 k2 => ?_
  refine ifN (fun hne => ?_) fun heq => ?_
  · have hj : joinC q1 q2 a b = 1 := if_pos (fun e => hne (by rw [hq1, hq2, e]))
    obtain ⟨rfl, rfl⟩ := k1 (by omega)
    rw [hj]
    exact ifT rfl (ifT rfl (er_self (hk _)))
  have heq : q1 = q2 := by omega
  refine appA_i (by omega) (appA_i (by simp; omega) ?_)
  rw [List.nil_append]
  refine retA_i _ (c_ris _) (ifNot (fun hr => ?_) fun hr => ?_)
  · have hr : isRowB (a ++ b) = false := hr
    have hj : joinC q1 q2 a b = 6 := by unfold joinC; rw [if_neg (fun h => h heq), if_pos hr]
    obtain ⟨rfl, rfl⟩ := k1 (by omega)
    rw [hj]
    exact ifT rfl (ifT rfl (er_self (hk _)))
  · have hr : isRowB (a ++ b) = true := hr
    have hj : joinC q1 q2 a b = 0 := by unfold joinC; rw [if_neg (fun h => h heq), if_neg (by rw [hr]; simp)]
    obtain ⟨t, n, rfl, rfl, ht, hn, hne, hT⟩ := k2 hj
    subst hq1
    exact ifT rfl ⟨rfl, ifT rfl (c_has hT h3 h16 (by simp; omega) fun _ _ _ _ => hk _)⟩
theorem bulkBack_walk (o : Int) (l0 : List Pr) (k : Key) (H : HP) (K : HT [(false, .one .bool)] → HP → Prop) (hk : ∀ H', K (true, ()) H') : A11 o l0 k H K := by
  unfold A11
  refine retA_i _ c_up11 (retA_i _ (c_few l0 200) (c_made o l0 (fun h => ifT rfl (hk _)) fun q t n H1 hq h3 h16 ht hn hne hfm hT => ifF rfl (ifNot (fun _ => hk _) fun hf => ?_)))
  have hll := fewB_len hf
  rw [capOf_few (by omega)] at hT
  have hrl := rowOf_len l0
  revert hT hrl
  generalize rowOf l0 = l
  intro hT hrl
  subst hq
  have hrow := hT.row
  have hle := lb_le l k
  refine c_cut hT h3 h16 (by omega) k (fun hm => ?_) fun hm t1 n1 t2 n2 H2 hf2 ht1 hn1 ht2 hn2 e1 e2 e3 e4 e5 e6 hT1 hT2 => ?_
  · exact ⟨rfl, ifT rfl (ifT rfl (ifT rfl (hk _)))⟩
  have hT := hT.keep hf2
  refine ⟨rfl, ifF rfl ?_⟩
  have hlen : (l.take (lb l k)).length + (l.drop (lb l k)).length = l.length := by rw [List.length_take, List.length_drop]; omega
  refine c_join hT1 hT2 h3 h16 h3 (by omega) fun p e H3 hf3 k1 k2 => ?_
  have hj : joinC q q (l.take (lb l k)) (l.drop (lb l k)) = 0 := by unfold joinC; rw [if_neg (fun h => h rfl), List.take_append_drop, if_neg (by rw [isRowB_iff.2 hrow]; simp)]
  obtain ⟨t3, n3, rfl, rfl, ht3, hn3, hne3, hT3⟩ := k2 hj
  rw [List.take_append_drop] at hT3
  have hT := hT.keep hf3
  have hT1 := hT1.keep hf3
  have hT2 := hT2.keep hf3
  refine ⟨rfl, ifF rfl (ifF rfl (ifF rfl (ifF rfl (retH_i _ (fun K' hk' => hT.pairs h3 (by omega) hk') ?_))))⟩
  refine c_load' (q : Int) l (by omega) fun p e H4 hf4 _ k4 => ?_
  have hl : loadC (q : Int) l = 0 := by unfold loadC; rw [if_neg (by rw [isRowB_iff.2 hrow]; simp; omega), if_neg (by omega)]
  obtain ⟨q4, t4, n4, hq4, _, _, _, _, rfl, rfl, ht4, hn4, hne4, hT4⟩ := k4 hl
  obtain rfl : q4 = q := by omega
  have hT := hT.keep hf4
  have hT1 := hT1.keep hf4
  have hT2 := hT2.keep hf4
  have hT3 := hT3.keep hf4
  obtain ⟨i, r⟩ := tree_root hT
  obtain ⟨i1, r1⟩ := tree_root hT1
  obtain ⟨i2, r2⟩ := tree_root hT2
  obtain ⟨i3, r3⟩ := tree_root hT3
  have hd : decide (l = l) = true := by simp
  refine ifF rfl ⟨rfl, ifF rfl (ifT rfl (retH_i _ (fun K' hk' => hT3.pairs h3 (by omega) hk') (retH_i _ (fun K' hk' => hT.pairs h3 (by omega) hk') (retA_i _ (c_pairs _ _) (ifT hd ?_)))))⟩
  refine retH_i _ (fun K' hk' => hT4.pairs h3 (by omega) hk') (retH_i _ (fun K' hk' => hT.pairs h3 (by omega) hk') (retA_i _ (c_pairs _ _) (ifT hd ?_)))
  refine refA_i (ldO_i r1 (refA_i (ldO_i r2 (refA_i (ldO_i r ?_)))))
  dsimp only
  rw [w64 (by omega) (by omega)]
  refine ifT (by rw [beq_iff_eq]; omega) (refA_i (ldO_i r3 (refA_i (ldO_i r ?_))))
  rw [show (((l.length : Nat) : Int) == ((l.length : Nat) : Int)) = true from by simp]
  exact hk _
theorem bulkJoins_row (W : World) (m m2 : Int) (b c : Sl) (w0 : (Lit.int .i64 m).wf = true) (w1 : (Lit.int .i64 m2).wf = true) (n1 : Nat) (h1 : RdT Try.prog W n1 22 [.slice b.a b.len b.cap]) (n2 : Nat) (h2 : RdT Try.prog W n2 22 [.slice c.a c.len c.cap]) :
    callG Try.prog 12 [.int .i64 m, .int .i64 m2, .slice b.a b.len b.cap, .slice c.a c.len c.cap] [.one .bool] W fun x W' => x = (true, ()) ∧ Keeps [] W W' := by
  obtain ⟨y, hy, _⟩ := fit_dat _ fitPairs8 h1
  obtain ⟨z, hz, _⟩ := fit_dat _ fitPairs8 h2
  exact callG_of (callA12 m m2 y z _ _ (bulkJoins_walk m m2 y z _ _ fun _ => rfl)) (arg_int (arg_int (arg_cons rfl rfl hy rfl (arg_cons rfl rfl hz rfl arg_nil))))
theorem bulkBack_row (W : World) (m : Int) (b c : Sl) (w0 : (Lit.int .i64 m).wf = true) (n1 : Nat) (h1 : RdT Try.prog W n1 22 [.slice b.a b.len b.cap]) (n2 : Nat) (h2 : RdT Try.prog W n2 23 [.slice c.a c.len c.cap]) :
    callG Try.prog 11 [.int .i64 m, .slice b.a b.len b.cap, .slice c.a c.len c.cap] [.one .bool] W fun x W' => x = (true, ()) ∧ Keeps [] W W' := by
  obtain ⟨y, hy, _⟩ := fit_dat _ fitPairs8 h1
  obtain ⟨z, hz, _⟩ := fit_dat _ fitBytes8 h2
  exact callG_of (callA11 m y z _ _ (bulkBack_walk m y z _ _ fun _ => rfl)) (arg_int (arg_cons rfl rfl hy rfl (arg_cons rfl rfl hz rfl arg_nil)))
end Go.Proofs.Ytdglfbeddbcbpaa

