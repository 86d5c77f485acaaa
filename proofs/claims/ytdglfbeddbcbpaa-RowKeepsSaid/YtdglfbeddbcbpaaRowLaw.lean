/-
  The laws of rows: their walks over data, and from arguments' readings to data.
-/
import Derived.Test.YtdglfbeddbcbpaaRow2
set_option linter.unusedSimpArgs false
set_option linter.unusedVariables false
namespace Go.Proofs.Ytdglfbeddbcbpaa
open Go Go.Gp Go.Ga Go.Th
theorem putA_ok {l : List Pr} {k v : Key} (h : (mayB k && fairB v) = true) : putA' l k v = (putR l k v, !hasR l k, .nilIface, ()) := if_pos h
theorem putA_no {l : List Pr} {k v : Key} (h : (mayB k && fairB v) = false) : putA' l k v = ([], false, eC 1, ()) := if_neg (by rw [h]; simp)
theorem c_up06 : S16 (true, ()) := pure16 fun H K hk => by
  unfold A16
  refine ⟨by decide, by decide, by decide, by decide, by decide, by decide, ?_⟩
  have e : putA' [([97], []), ([99], [])] [98] [] = ([([97], []), ([98], []), ([99], [])], true, .nilIface, ()) := by kernel_rfl
  refine retA_i _ (c_put [([97], []), ([99], [])] [98] [] (by simp [SortK, keys, lessL]) (by decide) (by intro p hp; simp at hp; rcases hp with rfl | rfl <;> exact ⟨by decide, by decide⟩) (by decide) (by decide)) ?_
  rw [e]
  refine ⟨rfl, ifT rfl (ifT rfl (lenA_i fun _ => ifT rfl (atA_g (i := 1) rfl rfl (ifT (by kernel_rfl) (retA_i _ (c_is _) (ifT (by kernel_rfl) (retA_i _ (c_is _) ?_)))))))⟩
  have : isRowB [([], [])] = false := by kernel_rfl
  rw [this]; exact hk
theorem rowPuts_walk (raw : List Pr) (k v : Key) (H : HP) (K : HT [(false, .one .bool)] → HP → Prop) (hk : K (true, ()) H) : A3 raw k v H K := by
  unfold A3
  refine retA_i _ c_up06 (retA_i _ (c_few raw 200) (ifNot (fun _ => hk) fun hf => lenA_i fun _ => ifD (fun _ => hk) fun hkl => lenA_i fun _ => ifD (fun _ => hk) fun hvl => retA_i _ (c_is raw) (retA_i _ (c_ris raw) (ifF (by simp) ?_))))
  have hlen := fewB_len hf
  have hrow := rowOf_row raw
  have hrl := rowOf_len raw
  refine retA_i _ (c_rrow raw (by omega)) ?_
  dsimp only
  generalize rowOf raw = l at hrow hrl
  refine retA_i _ (c_find l k hrow.sort (by omega)) (retA_i _ (c_rfind l k) ?_)
  rw [fr_all hrow.sort, atB_has hrow.sort]
  refine ifF (by simp) (ifF (by simp) (retA_i _ (c_delete l k hrow.sort (by omega) hrow.short) (ifF (by simp) (retA_i _ (c_rdelete l k (by omega)) (retA_i _ (c_pairs _ _) (ifF (by simp) ?_))))))
  refine retA_i _ (c_put l k v hrow.sort (by omega) hrow.short (by omega) (by omega)) (retA_i _ (c_may k) ?_)
  have err : putA' l k v = ([], false, eC 1, ()) → ifcEq Try.prog (putA' l k v).2.2.1 (.iface 39 (.int .i64 1)) (fun b => ifB b (lenA (putA' l k v).1.length fun n => ifB ((n : Int) == 0) (K (!(putA' l k v).2.1, ()) H) (K (false, ()) H)) (K (false, ()) H)) := fun e => by
    rw [e]
    exact er_self (ifT rfl (lenA_i fun _ => ifT rfl hk))
  refine ifNot (fun hm => ifT rfl (err (putA_no (by rw [show mayB k = false from hm]; rfl)))) fun hm => lenA_i fun _ => ifD (fun hv => ifT rfl (err (putA_no (by rw [show fairB v = false from decide_eq_false (by omega), Bool.and_false])))) fun hv => ifT rfl ?_
  rw [putA_ok (by rw [show mayB k = true from hm, show fairB v = true from decide_eq_true (by omega)]; rfl)]
  refine ⟨rfl, ifT rfl (ifT (by simp) (retA_i _ (c_rput l k v hrow.sort (by omega)) (retA_i _ (c_pairs _ _) ?_)))⟩
  rw [decide_eq_true rfl]; exact hk
theorem rowKeeps_walk (raw : List Pr) (k v other : Key) (H : HP) (K : HT [(false, .one .bool)] → HP → Prop) (hk : K (true, ()) H) : A4 raw k v other H K := by
  unfold A4
  refine retA_i _ c_up06 (retA_i _ (c_few raw 100) (ifNot (fun _ => hk) fun hf => lenA_i fun _ => ifD (fun _ => hk) fun hkl => lenA_i fun _ => ifD (fun _ => hk) fun hol => lenA_i fun _ => ifD (fun _ => hk) fun hvl => ?_))
  have hlen := fewB_len hf
  have hmem := fewB_mem hf
  refine loop_h raw.length (fun i x H' => H' = H ∧ ∃ l, x = ((raw, k, v, other, true, l, (i : Int), ()), ()) ∧ IsRow l ∧ l.length ≤ i) ⟨rfl, [], rfl, IsRow.nil, Nat.le_refl _⟩ ?_
  rintro i x H' C hi ⟨rfl, l, rfl, hrow, hll⟩ hC
  dsimp only at hC ⊢
  refine lenA_i fun _ => ifLt (fun h1 => ?_) fun h1 => ?_
  · have hp := hmem _ (List.getElem_mem h1)
    refine atA_lt h1 (atA_lt h1 (retA_i _ (c_put l raw[i].1 raw[i].2 hrow.sort (by omega) hrow.short (by omega) (by omega)) (JoinA_i ?_)))
    have next : ∀ m, IsRow m → m.length ≤ i + 1 → retA Try.prog 18 [(false, .row (.cons (.row .byte) (.row .byte)))] (m, ()) [(false, .one .bool)] fun x15 => ifB (!x15.1) (K (false, ()) H') (C ((raw, k, v, other, true, m, IntKind.i64.wrap ((i : Int) + 1), ()), ()) H') := fun m hm hml => by
      refine retA_i _ (c_is m) (ifNot (fun h => ?_) fun _ => ?_)
      · simp only at h; rw [isRowB_iff.2 hm] at h; cases h
      · rw [w1 (by omega)]
        exact hC h1 _ _ ⟨rfl, m, rfl, hm, hml⟩
    cases hb : (mayB raw[i].1 && fairB raw[i].2) with
    | true =>
      rw [putA_ok hb]
      rw [Bool.and_eq_true] at hb
      refine ⟨rfl, ifT rfl (next _ (hrow.put hb.1 hb.2) ?_)⟩
      rw [len_put hrow.sort]; split <;> omega
    | false =>
      rw [putA_no hb]
      exact ⟨rfl, ifF rfl (next l hrow (by omega))⟩
  · refine retA_i _ (c_put l k v hrow.sort (by omega) hrow.short (by omega) (by omega)) ?_
    cases hb : (mayB k && fairB v) with
    | false =>
      rw [putA_no hb]
      exact ⟨rfl, ifT rfl hk⟩
    | true =>
      rw [putA_ok hb]
      rw [Bool.and_eq_true] at hb
      refine ⟨rfl, ifF rfl ?_⟩
      have hp := hrow.put hb.1 hb.2
      have hpl : (putR l k v).length ≤ 200 := by rw [len_put hrow.sort]; split <;> omega
      have hg : getR (putR l k v) k = some v := by rw [getR_put, if_pos rfl]
      have hh : hasR (putR l k v) k = true := by unfold hasR; rw [hg]; rfl
      generalize putR l k v = p at hp hpl hg hh
      dsimp only
      obtain ⟨q, hq, he⟩ := hasR_at hp.sort hh
      have hqv : q.2 = v := by
        have := get_lb hp.sort k
        rw [hg, hq] at this
        simp only [he, if_true] at this
        injection this with this
        exact this.symm
      have hlt := (List.getElem?_eq_some_iff.1 hq).1
      refine retA_i _ (c_find p k hp.sort (by omega)) ?_
      rw [hh]
      refine ifF rfl (retA_i _ (c_is p) ?_)
      rw [isRowB_iff.2 hp]
      refine ifF rfl (ifF (by simp) (lenA_i fun _ => ifF (by simp; omega) (atA_i hq ?_)))
      rw [strB_eq, decide_eq_true hqv]
      refine ifF rfl (retA_i _ (c_delete p other hp.sort (by omega) hp.short) ?_)
      have hd := hp.del other
      have hdl : (delR p other).length ≤ p.length := List.length_filter_le _ _
      refine retA_i _ (c_find (delR p other) k hd.sort (by omega)) (retA_i _ (c_delete p k hp.sort (by omega) hp.short) (ifT rfl (retA_i _ (c_is _) (ifT (isRowB_iff.2 hd) ?_))))
      rw [strB_eq, hh]
      refine ifT ?_ (ifT rfl (lenA_i fun _ => lenA_i fun _ => ?_))
      · have : hasR (delR p other) k = !decide (k = other) := by
          unfold hasR
          rw [getR_del]
          by_cases h : k = other
          · simp [h]
          · simp [h, hg]
        rw [this]; simp
      · have hdk : (delR p k).length = p.length - 1 := by rw [len_del hp.sort, if_pos hh]
        rw [hdk, w64 (by omega) (by omega), show ((((p.length - 1 : Nat) : Int)) == ((p.length : Int) - 1)) = true from by rw [beq_iff_eq]; omega]
        exact hk
/-! ### Arguments -/
theorem fitPairs : fitT Try.prog 9 (.row (.cons (.row .byte) (.row .byte))) 22 = true := by kernel_rfl
theorem fitBytes : fitT Try.prog 9 (.row .byte) 23 = true := by kernel_rfl
theorem rowPuts_row (W : World) (a b c : Sl) (n0 : Nat) (h0 : RdT Try.prog W n0 22 [.slice a.a a.len a.cap]) (n1 : Nat) (h1 : RdT Try.prog W n1 23 [.slice b.a b.len b.cap]) (n2 : Nat) (h2 : RdT Try.prog W n2 23 [.slice c.a c.len c.cap]) :
    callG Try.prog 3 [.slice a.a a.len a.cap, .slice b.a b.len b.cap, .slice c.a c.len c.cap] [.one .bool] W fun x W' => x = (true, ()) ∧ Keeps [] W W' := by
  obtain ⟨x, hx, _⟩ := fit_dat _ fitPairs h0
  obtain ⟨y, hy, _⟩ := fit_dat _ fitBytes h1
  obtain ⟨z, hz, _⟩ := fit_dat _ fitBytes h2
  exact callG_of (callA3 x y z _ _ (rowPuts_walk x y z _ _ rfl)) (arg_cons rfl rfl hx rfl (arg_cons rfl rfl hy rfl (arg_cons rfl rfl hz rfl arg_nil)))
theorem rowKeeps_row (W : World) (a b c d : Sl) (n0 : Nat) (h0 : RdT Try.prog W n0 22 [.slice a.a a.len a.cap]) (n1 : Nat) (h1 : RdT Try.prog W n1 23 [.slice b.a b.len b.cap]) (n2 : Nat) (h2 : RdT Try.prog W n2 23 [.slice c.a c.len c.cap]) (n3 : Nat) (h3 : RdT Try.prog W n3 23 [.slice d.a d.len d.cap]) :
    callG Try.prog 4 [.slice a.a a.len a.cap, .slice b.a b.len b.cap, .slice c.a c.len c.cap, .slice d.a d.len d.cap] [.one .bool] W fun x W' => x = (true, ()) ∧ Keeps [] W W' := by
  obtain ⟨x, hx, _⟩ := fit_dat _ fitPairs h0
  obtain ⟨y, hy, _⟩ := fit_dat _ fitBytes h1
  obtain ⟨z, hz, _⟩ := fit_dat _ fitBytes h2
  obtain ⟨u, hu, _⟩ := fit_dat _ fitBytes h3
  exact callG_of (callA4 x y z u _ _ (rowKeeps_walk x y z u _ _ rfl)) (arg_cons rfl rfl hx rfl (arg_cons rfl rfl hy rfl (arg_cons rfl rfl hz rfl (arg_cons rfl rfl hu rfl arg_nil))))
end Go.Proofs.Ytdglfbeddbcbpaa
