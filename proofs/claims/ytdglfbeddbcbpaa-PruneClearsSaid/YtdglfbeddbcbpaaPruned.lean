/-
  PruneClears, over its arguments' readings.
-/
import Derived.Test.YtdglfbeddbcbpaaPrunec
import Derived.Test.YtdglfbeddbcbpaaKy
set_option linter.unusedSimpArgs false
set_option linter.unusedVariables false
namespace Go.Proofs.Ytdglfbeddbcbpaa
open Go Go.Gp Go.Ga Go.Th
theorem pruneClears_walk (o : Int) (l0 : List Pr) (r : Key × Key) (H : HP) (K : HT [(false, .one .bool)] → HP → Prop) (hk : ∀ H', K (true, ()) H') : A15 o l0 r H K := by
  unfold A15
  refine retA_i _ c_up09 (retA_i _ (c_few l0 200) (c_made o l0 (fun h => ifT rfl (hk _)) fun q t n H1 hq h3 h16 ht hn hne hfm hT => ifF rfl (ifNot (fun _ => hk _) fun hf => lenA_i fun _ => ifD (fun _ => hk _) fun _ => lenA_i fun _ => ifD (fun _ => hk _) fun _ => ?_)))
  have hll := fewB_len hf
  rw [capOf_few (by omega)] at hT
  have hrl := rowOf_len l0
  refine retA_i _ (c_rrow l0 (by omega)) ?_
  dsimp only
  revert hT hrl
  generalize rowOf l0 = l
  intro hT hrl
  subst hq
  have hsum := in_clr r l
  have hd : ∀ w : List Pr, decide (w = w) = true := fun w => by simp
  refine c_pclear hT h3 h16 (by omega) r (fun hs => retA_i _ (c_rsound r) (ifT (by simp only [hs]; rfl) (ifT rfl (ifT rfl (er_self (ifT rfl (retH_i _ (fun K' hk' => hT.pairs h3 (by omega) hk') (retA_i _ (c_pairs _ _) ?_)))))))) fun hs H2 hT2 => retA_i _ (c_rsound r) (ifF (by simp only [hs]; rfl) ?_)
  · rw [hd]; exact hk _
  refine loop_h l.length (fun i v H' => H' = H2 ∧ v = (((), true, some t, l, (inN r l : Int), .nilIface, clrR r (l.take i), (i : Int), ()), (r.1, r.2, ()), ())) ⟨rfl, by simp [clrR]⟩ ?_
  rintro i v H3 C hi ⟨rfl, rfl⟩ hC
  dsimp only at hC ⊢
  refine lenA_i fun _ => ifLt (fun hlt => ?_) fun hge => ?_
  · have hcl : (clrR r (l.take i)).length ≤ 200 := by
      have := in_clr r (l.take i)
      simp only [List.length_take] at this
      omega
    have hst : clrR r (l.take (i + 1)) = clrR r (l.take i) ++ (if inR r.1 r.2 l[i].1 = true then [] else [l[i]]) := by
      rw [List.take_succ_eq_append_getElem hlt]
      unfold clrR
      rw [List.filter_append]
      cases h : inR r.1 r.2 l[i].1 <;> simp [h]
    refine atA_lt hlt (retA_i _ (c_rin r _) (ifNot (fun hin => ?_) fun hin => ?_))
    · have hin : inR r.1 r.2 l[i].1 = false := hin
      rw [hin, if_neg (by simp)] at hst
      refine atA_lt hlt (appA_i (by omega) ?_)
      rw [w1 (by omega)]
      exact hC hlt _ _ ⟨rfl, by rw [hst]⟩
    · have hin : inR r.1 r.2 l[i].1 = true := hin
      rw [hin, if_pos rfl, List.append_nil] at hst
      rw [w1 (by omega)]
      exact hC hlt _ _ ⟨rfl, by rw [hst]⟩
  · have hil : i = l.length := by omega
    rw [hil, List.take_length]
    refine hT2.sound h3 h16 (by omega) fun x lv nx nodes depth hx _ _ => ifT rfl ⟨rfl, ifT rfl (ifT rfl (lenA_i fun _ => lenA_i fun _ => ifT ?_ (refA_i (ldO_i (set_eq _ _ _ _) (retA_i _ (c_pairs _ _) ?_)))))⟩
    · rw [w64 (by omega) (by omega), beq_iff_eq]; omega
    · rw [hd]; exact hk _
theorem pruneClears_row (W : World) (m : Int) (b : Sl) (c : Array Value) (w0 : (Lit.int .i64 m).wf = true) (n1 : Nat) (h1 : RdT Try.prog W n1 22 [.slice b.a b.len b.cap]) (n2 : Nat) (h2 : RdT Try.prog W n2 77 c.toList) :
    callG Try.prog 15 [.int .i64 m, .slice b.a b.len b.cap, .agg c] [.one .bool] W fun x W' => x = (true, ()) ∧ Keeps [] W W' := by
  have fitR : fitT Try.prog 9 (.cons (.row .byte) (.row .byte)) 77 = true := by kernel_rfl
  obtain ⟨y, hy, _⟩ := fit_dat _ fitPairs8 h1
  obtain ⟨z, hz, _⟩ := fit_dat _ fitR h2
  exact callG_of (callA15 m y z _ _ (pruneClears_walk m y z _ _ fun _ => rfl)) (arg_int (arg_cons rfl rfl hy rfl (arg_cons rfl rfl hz rfl arg_nil)))
end Go.Proofs.Ytdglfbeddbcbpaa
