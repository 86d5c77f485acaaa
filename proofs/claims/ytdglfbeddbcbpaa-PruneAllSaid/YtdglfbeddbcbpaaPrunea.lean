/-
  PruneAll, over its arguments' readings.
-/
import Derived.Test.YtdglfbeddbcbpaaKp
import Derived.Test.YtdglfbeddbcbpaaKy
set_option linter.unusedSimpArgs false
set_option linter.unusedVariables false
namespace Go.Proofs.Ytdglfbeddbcbpaa
open Go Go.Gp Go.Ga Go.Th
theorem inv251 : (List.range 251).all (fun s => s == 0 || (s * (s ^ 249 % 251)) % 251 == 1) = true := by kernel_rfl
theorem hit {s j : Nat} (h1 : 1 ≤ s) (h2 : s ≤ 250) (hj : j < 251) : ∃ i, i < 251 ∧ (i * s) % 251 = j := by
  have h := List.all_eq_true.1 inv251 s (by simp; omega)
  simp only [Bool.or_eq_true, beq_iff_eq] at h
  have h := h.resolve_left (by omega)
  generalize s ^ 249 % 251 = w at h
  refine ⟨(j * w) % 251, Nat.mod_lt _ (by decide), ?_⟩
  rw [Nat.mul_mod, Nat.mod_mod, ← Nat.mul_mod, Nat.mul_assoc, Nat.mul_comm w s, Nat.mul_mod, h, Nat.mul_one, Nat.mod_mod]
  exact Nat.mod_eq_of_lt hj
def kB (i : Nat) : Key := [UInt8.ofNat i]
theorem kB_may (i : Nat) : mayB (kB i) = true := by
  unfold mayB kB; simp
theorem tree_root' {H : HP} {t n o : Nat} {ps : List Pr} {many : Int} (h : TreeIs H t n o ps many) : ∃ i : Int, H t = some ⟨TRk, (some n, i, (o : Int), many)⟩ := by
  obtain ⟨hh, T, v, f, u, h, rfl⟩ := h
  exact ⟨_, h.ht⟩
theorem tree_used {H : HP} {t n o : Nat} {ps : List Pr} {many : Int} (h : TreeIs H t n o ps many) (h3 : 3 ≤ o) (hb : ps.length = 0) {K : HT [(false, .one (.int .i64))] → HP → Prop} (hk : K (1, ()) H) : (∃ i : Int, H t = some ⟨TRk, (some n, i, (o : Int), many)⟩) ∧ C53 (some n) H K := by
  obtain ⟨hh, T, v, f, u, h, rfl⟩ := h
  refine ⟨⟨_, h.ht⟩, ?_⟩
  have h1 := h.cnt h3
  have h2 := h.mid.used
  have h4 : 1 ≤ (ids T).length := List.length_pos_of_mem (id_mem T)
  have h5 := h.ar.used
  obtain ⟨l, th, fr⟩ := v
  have hbig := h.ar.big
  dsimp only at h5 hbig
  refine c_aused h.hn (by omega) (by omega) _ ?_
  rw [show (l.length : Int) - (fr.length : Int) = 1 from by omega]
  exact hk
set_option maxRecDepth 100000 in
theorem pruneAll_walk (o : Int) (n0 step : Int) (H : HP) (K : HT [(false, .one .bool)] → HP → Prop) (hk : ∀ H', K (true, ()) H') : A14 o n0 step H K := by
  unfold A14
  refine retA_i _ c_up09 (ifD (fun _ => hk _) fun g1 => ifD (fun _ => hk _) fun g2 => ifD (fun _ => hk _) fun g3 => ifD (fun _ => hk _) fun g4 => ?_)
  have g1 : ¬ n0 < 0 := g1
  have g2 : ¬ n0 > 251 := g2
  have g3 : ¬ step < 1 := g3
  have g4 : ¬ step > 250 := g4
  obtain ⟨m, rfl⟩ : ∃ m : Nat, n0 = m := ⟨n0.toNat, by omega⟩
  obtain ⟨s, rfl⟩ : ∃ s : Nat, step = s := ⟨step.toNat, by omega⟩
  refine c_made o [] (fun h => ifT rfl (hk _)) fun q t n H1 hq h3 h16 ht hn hne hfm hT => ifF rfl ?_
  have hc0 : capOf [] = [] := rfl
  rw [hc0] at hT
  subst hq
  refine loop_h m (fun i v H' => ∃ ps, v = (((m : Int), (s : Int), true, some t, (i : Int), ()), ()) ∧ TreeIs H' t n q ps (ps.length : Int) ∧ ps.length ≤ i ∧ ∀ p ∈ ps, ∃ j, j < i ∧ p.1 = kB j) ⟨[], rfl, hT, Nat.le_refl _, by simp⟩ ?_
  rintro i v H2 C hi ⟨ps, rfl, hT, hlen, hkeys⟩ hC
  dsimp only at hC ⊢
  refine ifLt (fun hlt => ?_) fun hge => ?_
  · rw [u8w _ (by omega), Nat.mod_eq_of_lt (by omega)]
    refine byteA_n (by omega) ?_
    rw [w1 (by omega)]
    refine c_tput hT h3 h16 (by omega) (kB i) [] (fun h => ?_) (fun _ _ h => by omega) fun _ _ H3 _ hT3 => hC hlt _ _ ⟨_, rfl, hT3, ?_, fun p hp => ?_⟩
    · rw [kB_may] at h; cases h
    · rw [len_put hT.row.sort]; split <;> omega
    · rcases put_mem hp with rfl | hp
      · exact ⟨i, by omega, rfl⟩
      · obtain ⟨j, hj, e⟩ := hkeys p hp
        exact ⟨j, by omega, e⟩
  have hm251 : i ≤ 251 := by omega
  obtain ⟨r0, hr0⟩ := (tree_root' hT)
  refine refA_i (ldO_i hr0 ?_)
  dsimp only
  refine loop_h 251 (fun i v H' => ∃ ps, v = (((s : Int), true, some t, (ps.length : Int), (i : Int), ()), ()) ∧ TreeIs H' t n q ps (ps.length : Int) ∧ ps.length ≤ 251 ∧ ∀ p ∈ ps, ∃ j, j < 251 ∧ p.1 = kB j ∧ ∀ e, e < i → (e * s) % 251 ≠ j) ⟨ps, rfl, hT, by omega, fun p hp => ?_⟩ ?_
  · obtain ⟨j, hj, e⟩ := hkeys p hp
    exact ⟨j, by omega, e, fun e he => absurd he (Nat.not_lt_zero _)⟩
  clear hkeys hT hlen hr0 hC hge
  rintro i v H3 C hi ⟨ps, rfl, hT, hlen, hkeys⟩ hC
  dsimp only at hC ⊢
  refine ifB_i (fun hlt => ?_) fun hge => ?_
  · rw [decide_eq_true_eq] at hlt
    have hlt : i < 251 := by
      have hlt : (i : Int) < 251 := hlt
      omega
    have hmul : i * s ≤ 251 * 250 := Nat.mul_le_mul (by omega) (by omega)
    have hmod : (i * s) % 251 < 251 := Nat.mod_lt _ (by decide)
    have eB : IntKind.u8.wrap (Int.tmod (IntKind.i64.wrap ((i : Int) * (s : Int))) 251) = (((i * s) % 251 : Nat) : Int) := by
      rw [show (i : Int) * (s : Int) = ((i * s : Nat) : Int) from by simp, w64 (by omega) (by omega), show (251 : Int) = ((251 : Nat) : Int) from rfl, mod_w, u8w _ (by omega), Nat.mod_eq_of_lt (by omega)]
    rw [eB]
    refine ⟨by decide, byteA_n (by omega) ?_⟩
    have hrow := hT.row
    refine tree_del hT h3 h16 (by omega) (kB ((i * s) % 251)) fun H4 hf4 hT4 => ⟨rfl, ifF rfl ?_⟩
    have hl4 := len_del hrow.sort (kB ((i * s) % 251))
    have hpos : hasR ps (kB ((i * s) % 251)) = true → 0 < ps.length := fun h => by
      rcases Nat.eq_zero_or_pos ps.length with h0 | h0
      · rw [List.length_eq_zero_iff.1 h0] at h; cases h
      · exact h0
    have hle4 : (delR ps (kB ((i * s) % 251))).length ≤ 251 := by rw [hl4]; split <;> omega
    have hno : hasR (delR ps (kB ((i * s) % 251))) (kB ((i * s) % 251)) = false := hasR_keys fun p hp => by
      have := (List.mem_filter.1 hp).2
      simpa using this
    obtain ⟨r4, hr4⟩ := tree_root' hT4
    have next : ∀ H5, TreeIs H5 t n q (delR ps (kB ((i * s) % 251))) ((delR ps (kB ((i * s) % 251))).length : Int) → C (((s : Int), true, some t, ((delR ps (kB ((i * s) % 251))).length : Int), IntKind.i64.wrap ((i : Int) + 1), ()), ()) H5 := fun H5 hT5 => by
      rw [w1 (by omega)]
      refine hC hlt _ _ ⟨_, rfl, hT5, hle4, fun p hp => ?_⟩
      obtain ⟨h1, h2⟩ := List.mem_filter.1 hp
      obtain ⟨j, hj, e, hno⟩ := hkeys p h1
      refine ⟨j, hj, e, fun e' he' => ?_⟩
      rcases Nat.lt_or_ge e' i with h5 | h5
      · exact hno e' h5
      · obtain rfl : e' = i := by omega
        rintro rfl
        rw [e] at h2
        simp at h2
    refine JoinA_r (fun v H5 => H5 = H4 ∧ v = (((s : Int), true, some t, ((delR ps (kB ((i * s) % 251))).length : Int), (i : Int), ()), ())) ?_ fun hB => ifB_i (fun hh => ?_) fun hh => ?_
    · rintro v H5 ⟨rfl, rfl⟩
      dsimp only
      rw [eB]
      refine ⟨by decide, byteA_n (by omega) (retH_i _ (fun K' hk' => hT4.get h3 (by omega) (kB ((i * s) % 251)) hk') (ifF hno (refA_i (ldO_i hr4 ?_))))⟩
      refine ifF (by simp) ⟨by decide, ifB_i (fun _ => ?_) fun _ => next _ hT4⟩
      refine hT4.sound h3 h16 (by omega) fun x lv nx nodes depth hx hov _ => ifF rfl (retH_i _ (fun K' hk' => hov _ K' (fun mm hmm => set_ne _ _ _ hmm) (set_eq _ _ _ _) hk') (ifF rfl (next _ ?_)))
      exact hT4.fm (S := [x]) ((Fm.refl [x] H5).set (n := x) (List.mem_singleton_self x) LFk _) (by simp; exact fun e => by rw [← e] at hx; have := hT4.some.1; rw [hx] at this; cases this) (by simp; exact fun e => by rw [← e] at hx; have := hT4.some.2; rw [hx] at this; cases this)
    · have hh : hasR ps (kB ((i * s) % 251)) = true := hh
      have := hpos hh
      rw [if_pos hh] at hl4
      refine hB _ _ ⟨rfl, ?_⟩
      rw [w64 (by omega) (by omega), show (ps.length : Int) - 1 = ((delR ps (kB ((i * s) % 251))).length : Int) from by omega]
    · have hh : hasR ps (kB ((i * s) % 251)) = false := hh
      rw [if_neg (by rw [hh]; simp)] at hl4
      refine hB _ _ ⟨rfl, ?_⟩
      rw [hl4]
  · rw [decide_eq_false_iff_not] at hge
    have hge : ¬ (i : Int) < 251 := hge
    have hi2 : i = 251 := by omega
    have hps : ps = [] := by
      cases ps with
      | nil => rfl
      | cons p r =>
        obtain ⟨j, hj, _, hno⟩ := hkeys p (by simp)
        obtain ⟨e, he, h5⟩ := hit (s := s) (by omega) (by omega) hj
        exact absurd h5 (hno e (by omega))
    subst hps
    refine ifT rfl (ifT rfl (retH_i _ (fun K' hk' => hT.low h3 (by simp) hk') (ifT rfl ?_)))
    obtain ⟨⟨r5, hr5⟩, _⟩ := tree_used hT h3 rfl (K := fun _ _ => True) trivial
    refine refA_i (ldO_i hr5 (retH_i _ (fun K' hk' => (tree_used hT h3 rfl hk').2) (ifT rfl (retH_i _ (fun K' hk' => hT.pairs h3 (by simp) hk') (lenA_i fun _ => hk _)))))
theorem pruneAll_row (W : World) (m b c : Int) (w0 : (Lit.int .i64 m).wf = true) (w1 : (Lit.int .i64 b).wf = true) (w2 : (Lit.int .i64 c).wf = true) :
    callG Try.prog 14 [.int .i64 m, .int .i64 b, .int .i64 c] [.one .bool] W fun x W' => x = (true, ()) ∧ Keeps [] W W' :=
  callG_of (callA14 m b c _ _ (pruneAll_walk m b c _ _ fun _ => rfl)) (arg_int (arg_int (arg_int arg_nil)))
end Go.Proofs.Ytdglfbeddbcbpaa
