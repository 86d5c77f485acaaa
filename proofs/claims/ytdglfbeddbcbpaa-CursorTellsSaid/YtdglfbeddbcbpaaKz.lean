/-
  Kz: texts of ours, one behind the other: Tree14, Tree15, Tree16.
-/
import Derived.Test.YtdglfbeddbcbpaaKy
import Derived.Test.YtdglfbeddbcbpaaDcur
set_option linter.unusedSimpArgs false
set_option linter.unusedVariables false
namespace Go.Proofs.Ytdglfbeddbcbpaa
open Go Go.Gp Go.Ga Go.Th
abbrev CUk : AK := .cons .ref (.cons (.row .byte) (.cons (.row .byte) (.cons (.row (.cons (.row .byte) (.row .byte))) (.one (.int .i64)))))
/-- A cursor, and the pairs that it still has to tell (till the range ends). -/
def Cur (H : HP) (c n : Nat) (r : Key × Key) {hh : Nat} (T : Tr hh) (rest : List Pr) : Prop := ∃ (l : List Pr) (B A : List (Nat × List Pr)), H c = some ⟨CUk, (some n, r.1, r.2, l, hd B (-1))⟩ ∧ lvs T = A ++ B ∧ rest = l ++ B.flatMap (·.2)
theorem ne_CA {H : HP} {x t : Nat} {a : CUk.T} {b : ARk.T} (hx : H x = some ⟨CUk, a⟩) (ht : H t = some ⟨ARk, b⟩) : x ≠ t := fun e => by
  subst e; rw [hx] at ht; injection ht with ht; injection ht with h1; injection h1 with h1; cases h1
theorem lr_prs : ∀ {h H : Nat} (c : Ctx h H), c.lr.flatMap (·.2) = prs c.r
  | _, _, .top => rfl
  | h, _, .down c f => by
    have p2 : ∀ (ks : List Key) (ls : List (List It)), prs (suf ks ls) = (ls.map prs).flatten := by
      intro ks ls
      cases ks with
      | nil => simp [suf, prs_inter]
      | cons k ks => simp [suf, prs, prs_inter]
    have key : ∀ l : List (Tr h), (l.map lvs).flatten.flatMap (·.2) = ((l.map fl).map prs).flatten := by
      intro l
      induction l with
      | nil => rfl
      | cons x l ih =>
        simp only [List.map_cons, List.flatten_cons, List.flatMap_append]
        rw [ih, prs_fl]; rfl
    simp only [Ctx.lr, Ctx.r, List.flatMap_append, prs_app]
    rw [lr_prs c, p2, key]
section
variable {H : HP} {t n u o : Nat} {many : Int} {v : ARt} {f : Nat → Option Nd} {hh : Nat} {T : Tr hh}
theorem c_open (h : TI H t n o many T v f u) (h3 : 3 ≤ o) (hb : (allP T).length ≤ 100000) (r : Key × Key) {K : HT [(false, .ref), (false, .one .any)] → HP → Prop} (k0 : soundR r.1 r.2 = false → K (none, eC 1, ()) H)
    (k1 : soundR r.1 r.2 = true → ∀ c H' m, H c = none → Fm [c] H H' → Cur H' c n r T ((allP T).drop m) → m ≤ (allP T).length → (∀ p ∈ (allP T).take m, lessL p.1 r.1 = true) → (∀ p ∈ (allP T).drop m, lessL p.1 r.1 = false) → K (some c, .nilIface, ()) H') : C43 (some t) r H K := callA43 _ _ _ _ (by
  unfold A43
  refine ifF rfl (retA_i _ (c_ksound r) (ifNot (fun hs => k0 hs) fun hs => refA_i (ldO_i h.ht (retH_i _ (fun K' hk' => c_tleaf h h3 hb r.1 hk') ?_))))
  obtain ⟨c, i, ps, ks, kd, nx, h1, h2, h4, h5, h6, h7, hf⟩ := h.loc r.1
  rw [leafI_of h2]
  have hr := lf_row h.mid h1 h4
  have ha := h.all h1 h4
  have har := around h6 h7
  have hpl : ps.length ≤ 100000 := by rw [ha] at hb; simp at hb; omega
  refine g_get h.hn h.ar hf (retA_i _ (c_find ps r.1 hr.sort (by omega)) (refA_i (ldO_i h.ht ?_)))
  dsimp only
  have hle := lb_le ps r.1
  refine slcA_z (a := lb ps r.1) (b := ps.length) rfl rfl hle (Nat.le_refl _) ?_
  rw [sub_to_end]
  intro x hx
  have hl := plug_lvs c (Tr.lf i ps)
  rw [h1] at hl
  have hnx : nx = hd c.lr (-1) := by
    have hseg := h.mid.seg
    rw [hl, List.append_assoc, seg_app] at hseg
    have h8 := hseg.2.1
    unfold nxt at h8
    rw [show ((Tr.lf i ps).1, (Tr.lf i ps).2).1 = i from rfl, hf] at h8
    exact h8
  have hm : (allP T).drop ((prs c.l).length + lb ps r.1) = ps.drop (lb ps r.1) ++ prs c.r := by
    rw [ha, List.append_assoc, ← List.drop_drop, List.drop_left', List.drop_append_of_le_length hle]; rfl
  have hm2 : (allP T).take ((prs c.l).length + lb ps r.1) = prs c.l ++ ps.take (lb ps r.1) := by
    rw [ha, List.append_assoc, List.take_append, List.take_of_length_le (by omega), Nat.add_sub_cancel_left, List.take_append_of_le_length hle]
  refine k1 hs x _ ((prs c.l).length + lb ps r.1) hx ((Fm.refl _ _).set (by simp) _ _) ⟨ps.drop (lb ps r.1), c.lr, c.ll ++ [(i, ps)], ?_, by rw [hl]; simp, by rw [hm, lr_prs]⟩ (by rw [ha]; simp; omega) (fun p hp => ?_) fun p hp => ?_
  · rw [set_eq, hnx]
  · rw [hm2] at hp
    rcases List.mem_append.1 hp with hp | hp
    · exact har.1 p hp
    · rw [take_lb hr.sort] at hp
      exact (List.mem_filter.1 hp).2
  · rw [hm] at hp
    rcases List.mem_append.1 hp with hp | hp
    · rw [drop_lb hr.sort] at hp
      simpa using (List.mem_filter.1 hp).2
    · exact less_asym (har.2 p hp))
theorem c_next (h : TI H t n o many T v f u) (hb : (allP T).length ≤ 100000) {c : Nat} {r : Key × Key} {rest : List Pr} (hc : Cur H c n r T rest) {K : HT [(true, .cons (.row .byte) (.row .byte)), (false, .one .bool)] → HP → Prop}
    (k0 : ∀ H', Fm [c] H H' → Cur H' c n r T rest → (∀ p, rest.head? = some p → inR r.1 r.2 p.1 = false) → K (([], []), false, ()) H')
    (k1 : ∀ p q H', rest = p :: q → inR r.1 r.2 p.1 = true → Fm [c] H H' → Cur H' c n r T q → K (p, true, ()) H') : C44 (some c) H K := callA44 _ _ _ (by
  unfold A44
  obtain ⟨l0, B0, A0, hc0, hl0, hr0⟩ := hc
  have hca := ne_CA hc0 h.hn
  refine loop_h B0.length (fun i v' H' => v' = ((some c, (), ()), ((), (), ()), ()) ∧ Fm [c] H H' ∧ ∃ l B A, H' c = some ⟨CUk, (some n, r.1, r.2, l, hd B (-1))⟩ ∧ lvs T = A ++ B ∧ rest = l ++ B.flatMap (·.2) ∧ B.length + i = B0.length) ⟨rfl, Fm.refl _ _, l0, B0, A0, hc0, hl0, hr0, rfl⟩ ?_
  rintro i v' H' C hi ⟨rfl, hfm, l, B, A, hc, hl, hr, hlen⟩ hC
  have hn' : H' n = some ⟨ARk, v⟩ := by rw [hfm n (by simp; exact fun e => hca e.symm)]; exact h.hn
  have hall : allP T = A.flatMap (·.2) ++ B.flatMap (·.2) := by unfold allP; rw [hl, List.flatMap_append]
  dsimp only at hC ⊢
  refine refA_i (ldO_i hc (lenA_i fun _ => ifE (fun h0 => ?_) fun h0 => ?_))
  · have hl0 : l = [] := by cases l with | nil => rfl | cons a b => exfalso; simp at h0; omega
    subst hl0
    refine refA_i (ldO_i hc (refA_i (ldO_i hc ?_)))
    cases B with
    | nil =>
      refine g_get0 hn' h.ar (.inl (by simp [hd])) (ifT rfl (k0 _ hfm ⟨[], [], A, hc, hl, hr⟩ fun p hp => ?_))
      rw [hr] at hp; simp at hp
    | cons b B =>
      obtain ⟨ks, kd, nx, hf⟩ := lvs_rep h.mid.rep b (by rw [hl]; simp)
      have hnx : nx = hd B (-1) := by
        have hseg := h.mid.seg
        rw [hl, seg_app] at hseg
        have h8 := hseg.2.1
        unfold nxt at h8
        rw [hf] at h8
        exact h8
      refine g_get hn' h.ar (i := b.1) hf (ifF rfl (refA_i (ldO_i hc (refA_i (ldO_i (set_eq _ _ _ _) ?_)))))
      rw [set_set]
      simp only [List.length_cons] at hlen
      refine hC (by omega) _ _ ⟨rfl, hfm.set (by simp) _ _, b.2, B, A ++ [b], ?_, by rw [hl]; simp, by rw [hr]; simp, by omega⟩
      rw [set_eq, hnx]
  · cases l with
    | nil => exact absurd rfl h0
    | cons p l =>
      refine refA_i (ldO_i hc (atA_g (i := 0) rfl (x := p) rfl (refA_i (ldO_i hc (retA_i _ (c_kin (r.1, r.2) p.1) (ifNot (fun hin => ?_) fun hin => ?_))))))
      · refine k0 _ hfm ⟨p :: l, B, A, hc, hl, hr⟩ fun q hq => ?_
        rw [hr] at hq
        simp at hq
        subst hq
        exact hin
      · refine refA_i (ldO_i hc (slcA_z (a := 1) (b := (p :: l).length) rfl rfl (by simp) (Nat.le_refl _) (refA_i (ldO_i hc ?_))))
        rw [sub_to_end]
        refine k1 p (l ++ B.flatMap (·.2)) _ hr hin (hfm.set (by simp) _ _) ⟨l, B, A, set_eq _ _ _ _, hl, rfl⟩)
end
end Go.Proofs.Ytdglfbeddbcbpaa
set_option linter.unusedSimpArgs false
set_option linter.unusedVariables false
namespace Go.Proofs.Ytdglfbeddbcbpaa
open Go Go.Gp Go.Ga Go.Th
def inP (r : Key × Key) (p : Pr) : Bool := inR r.1 r.2 p.1
theorem in_ge {r : Key × Key} {p : Pr} (h : lessL p.1 r.1 = false) : inP r p = (decide (r.2.length = 0) || lessL p.1 r.2) := by
  unfold inP inR; rw [h]; rfl
theorem in_lt {r : Key × Key} {p : Pr} (h : lessL p.1 r.1 = true) : inP r p = false := by unfold inP inR; rw [h]; rfl
/-- Behind a pair that is behind the range, none is in it. -/
theorem in_after {r : Key × Key} {p q : Pr} (h : lessL p.1 r.1 = false) (hp : inP r p = false) (hpq : lessL p.1 q.1 = true) : inP r q = false := by
  rw [in_ge h] at hp
  have hq : lessL q.1 r.1 = false := by
    cases hb : lessL q.1 r.1 with
    | false => rfl
    | true => rw [less_trans hpq hb] at h; cases h
  rw [in_ge hq]
  simp only [Bool.or_eq_false_iff] at hp ⊢
  refine ⟨hp.1, ?_⟩
  cases hb : lessL q.1 r.2 with
  | false => rfl
  | true => rw [less_trans hpq hb] at hp; cases hp.2
theorem tw_filter {r : Key × Key} : ∀ {l : List Pr}, SortK (keys l) → (∀ p ∈ l, lessL p.1 r.1 = false) → l.takeWhile (inP r) = l.filter (inP r)
  | [], _, _ => rfl
  | p :: l, hs, hl => by
    have hs' := List.pairwise_cons.1 (sortK_keys.1 hs)
    cases hp : inP r p with
    | true =>
      rw [List.takeWhile_cons_of_pos hp, List.filter_cons_of_pos hp, tw_filter (sortK_keys.2 hs'.2) fun q hq => hl q (by simp [hq])]
    | false =>
      rw [List.takeWhile_cons_of_neg (by rw [hp]; simp), List.filter_cons_of_neg (by rw [hp]; simp)]
      symm
      exact List.filter_eq_nil_iff.2 fun q hq => by rw [in_after (hl p (by simp)) hp (hs'.1 q hq)]; simp
theorem range_cut {r : Key × Key} {all : List Pr} (hs : SortK (keys all)) {m : Nat} (h1 : ∀ p ∈ all.take m, lessL p.1 r.1 = true) (h2 : ∀ p ∈ all.drop m, lessL p.1 r.1 = false) : (all.drop m).takeWhile (inP r) = all.filter (inP r) := by
  have e : all = all.take m ++ all.drop m := (List.take_append_drop m all).symm
  rw [tw_filter (by
    rw [e, keys_append, sortK_append] at hs; exact hs.2.1) h2]
  have e1 : (all.take m).filter (inP r) = [] := List.filter_eq_nil_iff.2 fun p hp => by rw [in_lt (h1 p hp)]; simp
  conv => rhs; rw [e, List.filter_append]
  rw [e1, List.nil_append]
theorem TI.fm {H H' : HP} {t n o : Nat} {many : Int} {hh : Nat} {T : Tr hh} {v : ARt} {f : Nat → Option Nd} {u : Nat} (h : TI H t n o many T v f u) {S : List Nat} (hf : Fm S H H') (h1 : t ∉ S) (h2 : n ∉ S) : TI H' t n o many T v f u :=
  ⟨by rw [hf t h1]; exact h.ht, by rw [hf n h2]; exact h.hn, h.ar, h.mid, h.sz⟩
section
variable {H : HP} {t n u o : Nat} {many : Int} {v : ARt} {f : Nat → Option Nd} {hh : Nat} {T : Tr hh}
theorem tw_get {l : List Pr} {r : Key × Key} {i : Nat} (hi : i < (l.takeWhile (inP r)).length) : ∃ p, l[i]? = some p ∧ (l.takeWhile (inP r))[i]? = some p ∧ inP r p = true := by
  have hx := List.getElem?_eq_getElem hi
  have hpre := List.takeWhile_prefix (inP r) (l := l)
  obtain ⟨s, hs⟩ := hpre
  refine ⟨(l.takeWhile (inP r))[i], ?_, hx, ?_⟩
  · conv => lhs; rw [← hs]
    rw [List.getElem?_append_left hi, hx]
  · exact (List.all_eq_true.1 List.all_takeWhile) _ (List.getElem_mem hi)
theorem c_range (h : TI H t n o many T v f u) (h3 : 3 ≤ o) (hb : (allP T).length ≤ 100000) (r : Key × Key) (lim : Nat) (hlim : lim ≤ 1000000) {K : HT [(false, .row (.cons (.row .byte) (.row .byte))), (false, .one .any)] → HP → Prop} (k0 : soundR r.1 r.2 = false → K ([], eC 1, ()) H)
    (k1 : soundR r.1 r.2 = true → ∀ c H', H c = none → Fm [c] H H' → K (((allP T).filter (inP r)).take lim, .nilIface, ()) H') : C76 (some t) r (lim : Int) H K := callA76 _ _ _ _ _ (by
  unfold A76
  refine c_open h h3 hb r (fun hs => ⟨rfl, ifT rfl (k0 hs)⟩) fun hs c H1 m hcn hfm hc hm hlo hhi => ⟨rfl, ifF rfl ?_⟩
  have htc : t ∉ [c] := by simp only [List.mem_singleton]; exact fun e => by rw [← e, h.ht] at hcn; cases hcn
  have hnc : n ∉ [c] := by simp only [List.mem_singleton]; exact fun e => by rw [← e, h.hn] at hcn; cases hcn
  have k1 := k1 hs c
  have hcut := range_cut h.row.sort hlo hhi
  have hWl : (((allP T).drop m).takeWhile (inP r)).length ≤ 100000 := by
    have := (List.takeWhile_prefix (inP r) (l := (allP T).drop m)).length_le
    simp at this; omega
  have hget : ∀ i, i < (((allP T).drop m).takeWhile (inP r)).length → ∃ p, ((allP T).drop m)[i]? = some p ∧ (((allP T).drop m).takeWhile (inP r))[i]? = some p ∧ inP r p = true := fun i hi => tw_get hi
  have hend : ∀ p, ((allP T).drop m)[(((allP T).drop m).takeWhile (inP r)).length]? = some p → inP r p = false := fun p hp => tw_ge (inP r) _ p hp
  rw [← hcut] at k1
  generalize ((allP T).drop m).takeWhile (inP r) = Wl at k1 hWl hget hend
  generalize hR : (allP T).drop m = R at hc hget hend
  refine JoinA_i ?_
  refine loop_h Wl.length (fun i v' H' => v' = (((lim : Int), some c, Wl.take i, ()), ()) ∧ i ≤ lim ∧ Fm [c] H H' ∧ Cur H' c n r T (R.drop i)) ⟨rfl, Nat.zero_le _, hfm, hc⟩ ?_
  rintro i v' H' C hi ⟨rfl, hil, hfm, hc⟩ hC
  dsimp only at hC ⊢
  have hTI := h.fm hfm htc hnc
  have hl : (Wl.take i).length = i := by simp; omega
  have fin : i = Wl.length ∨ i = lim → ∀ H', Fm [c] H H' → K (Wl.take i, .nilIface, ()) H' := fun he H' hf => by
    have := k1 H' hcn hf
    rcases he with rfl | rfl
    · rw [List.take_length]
      rw [List.take_of_length_le hil] at this; exact this
    · exact this
  refine lenA_i fun _ => ?_
  rw [hl]
  refine ifLt (fun hlt => ?_) fun hge => fin (.inr (by omega)) _ hfm
  refine c_next hTI hb hc (fun H2 hf2 hc2 hhd => ifT rfl (fin (.inl ?_) _ (hfm.trans hf2))) fun p q H2 hpq hin hf2 hc2 => ifF rfl (appA_i (by omega) ?_)
  · rcases Nat.lt_or_ge i Wl.length with h5 | h5
    · exfalso
      obtain ⟨p, hp, _, hin⟩ := hget i h5
      have := hhd p (by rw [List.head?_drop]; exact hp)
      unfold inP at hin; rw [this] at hin; cases hin
    · omega
  · have hp : R[i]? = some p := by rw [← List.head?_drop, hpq]; rfl
    rcases Nat.lt_or_ge i Wl.length with h5 | h5
    · obtain ⟨p', hp', hw, _⟩ := hget i h5
      rw [hp] at hp'
      injection hp' with hp'
      subst hp'
      have e : Wl.take (i + 1) = Wl.take i ++ [p] := by rw [take_snoc h5, (List.getElem?_eq_some_iff.1 hw).2]
      have hC := hC h5
      rw [e] at hC
      refine hC _ _ ⟨rfl, by omega, hfm.trans hf2, ?_⟩
      have : R.drop (i + 1) = q := by rw [← List.drop_drop, hpq]; rfl
      rw [this]; exact hc2
    · exfalso
      have he : i = Wl.length := by omega
      rw [he] at hp
      have := hend p hp
      unfold inP at this; rw [hin] at this; cases this)
theorem c_range_nil (r : Key × Key) (lim : Int) {K : HT [(false, .row (.cons (.row .byte) (.row .byte))), (false, .one .any)] → HP → Prop} (hk : K ([], eC 1, ()) H) : C76 none r lim H K := callA76 _ _ _ _ _ (by
  unfold A76
  refine callA43 _ _ _ _ ?_
  unfold A43
  exact ifT rfl ⟨rfl, ifT rfl hk⟩)
theorem filt_all' {l : List Pr} : l.filter (inP ([], [])) = l := List.filter_eq_self.2 fun p _ => by unfold inP inR; rw [less_nil_r]; rfl
theorem c_middle (h : TI H t n o many T v f u) (hm : many = ((allP T).length : Int)) (h3 : 3 ≤ o) (hb : (allP T).length ≤ 100000) (h2 : 2 ≤ (allP T).length) {p : Pr} (hp : (allP T)[(allP T).length / 2]? = some p) {K : HT [(false, .row .byte), (false, .one .bool)] → HP → Prop} (hk : ∀ c H', H c = none → Fm [c] H H' → K (p.1, true, ()) H') : C77 (some t) H K := callA77 _ _ _ (by
  unfold A77
  subst hm
  have hw : IntKind.i64.wrap (Int.tdiv ((allP T).length : Int) 2) = (((allP T).length / 2 : Nat) : Int) := by rw [Int.tdiv_eq_ediv_of_nonneg (by omega), w64 (by omega) (by omega)]; omega
  refine ifF rfl (refA_i (ldO_i h.ht (ifF (decide_eq_false (by dsimp only; omega)) (refA_i (ldO_i h.ht ⟨by decide, ?_⟩)))))
  dsimp only
  rw [hw, w1 (by omega)]
  refine c_range h h3 hb ([], []) _ (by omega) (fun hs => by cases hs) fun _ c H1 hcn hfm => ⟨rfl, ifF rfl (lenA_i fun _ => ?_)⟩
  have htc : t ∉ [c] := by simp only [List.mem_singleton]; exact fun e => by rw [← e, h.ht] at hcn; cases hcn
  have ht1 : H1 t = some ⟨TRk, (some n, (T.id : Int), (o : Int), ((allP T).length : Int))⟩ := by rw [hfm t htc]; exact h.ht
  have hle : (allP T).length / 2 + 1 ≤ (allP T).length := by omega
  dsimp only
  rw [filt_all']
  refine refA_i (ldO_i ht1 ⟨by decide, ?_⟩)
  dsimp only
  rw [hw, List.length_take, Nat.min_eq_left hle]
  refine ifF (decide_eq_false (by omega)) (refA_i (ldO_i ht1 ⟨by decide, ?_⟩))
  dsimp only
  rw [hw]
  refine atA_g rfl (x := p) ?_ (hk c H1 hcn hfm)
  rw [List.getElem?_take, if_pos (by omega)]; exact hp)
end
set_option maxRecDepth 10000 in
theorem c_up10 : S42 (true, ()) := pure_forget rfl fun H => callA42 _ _ (by
  unfold A42
  refine byteA_c (by decide) (by decide) (byteA_c (by decide) (by decide) (byteA_c (by decide) (by decide) ?_))
  refine c_made 3 _ (fun h => by omega) fun q t n H1 hq h3 h16 ht hn hne hfm hT => byteA_c (by decide) (by decide) (byteA_c (by decide) (by decide) ?_)
  have hcap : capOf [([UInt8.ofNat (97 : Int).toNat], []), ([UInt8.ofNat (98 : Int).toNat], []), ([UInt8.ofNat (99 : Int).toNat], [])] = [([97], []), ([98], []), ([99], [])] := by decide
  rw [hcap] at hT
  obtain ⟨hh, T, v, f, u, hTI, hps⟩ := hT
  refine c_range hTI h3 (by rw [hps]; simp) _ 9 (by omega) (fun hs => by cases hs) fun _ c1 H2 hc1 hf1 => c_range_nil _ _ ?_
  have htc : t ∉ [c1] := by simp only [List.mem_singleton]; exact fun e => by rw [← e, hTI.ht] at hc1; cases hc1
  have hnc : n ∉ [c1] := by simp only [List.mem_singleton]; exact fun e => by rw [← e, hTI.hn] at hc1; cases hc1
  have hTI2 := hTI.fm hf1 htc hnc
  refine c_middle hTI2 (by rw [hps]) h3 (by rw [hps]; simp) (by rw [hps]; decide) (p := ([98], [])) (by rw [hps]; rfl) fun c2 H3 hc2 hf2 => ⟨rfl, ifT rfl ?_⟩
  rw [hps]
  refine lenA_i fun _ => ifT rfl (atA_g (i := 0) rfl (x := ([98], [])) rfl (ifT ?_ (er_self (ifT rfl (ifT rfl ?_)))))
  · show (ByteArray.toList (bys _) == ByteArray.toList (bys [98])) = true
    rw [strB_eq]; rfl
  · refine ⟨fun m hm => ?_, ?_⟩
    · have e1 := fm_new ht hn hfm m hm
      have e2 : H2 m = H1 m := hf1 m (by simp only [List.mem_singleton]; exact fun e => by rw [← e1, e, hc1] at hm; cases hm)
      have e3 : H3 m = H2 m := hf2 m (by simp only [List.mem_singleton]; exact fun e => by rw [← e1, ← e2, e, hc2] at hm; cases hm)
      rw [e3, e2, e1]
    · have e : (ByteArray.toList (bys [98]) == ByteArray.toList (bys [98])) = true := by rw [strB_eq]; rfl
      exact congrArg (fun b => (b, ())) e)
end Go.Proofs.Ytdglfbeddbcbpaa
set_option linter.unusedSimpArgs false
set_option linter.unusedVariables false
namespace Go.Proofs.Ytdglfbeddbcbpaa
open Go Go.Gp Go.Ga Go.Th
theorem cursorTells_walk (o : Int) (l : List Pr) (r : Key × Key) (H : HP) (K : HT [(false, .one .bool)] → HP → Prop) (hk : ∀ H', K (true, ()) H') : A8 o l r H K := by
  unfold A8
  refine retA_i _ c_up10 (retA_i _ (c_few l 200) (c_made o l (fun h => ifT rfl (hk _)) fun q t n H1 hq h3 h16 ht hn hne hfm hT => ifF rfl (ifNot (fun _ => hk _) fun hf => lenA_i fun _ => ifD (fun _ => hk _) fun _ => lenA_i fun _ => ifD (fun _ => hk _) fun _ => ?_)))
  simp only at hf
  have hll := fewB_len hf
  rw [capOf_few (by omega)] at hT
  have hlen : (rowOf l).length ≤ 200 := by have := rowOf_len l; omega
  obtain ⟨hh, T, v, f, u, hTI, hps⟩ := hT
  rw [← hps] at hlen hTI
  clear hps
  refine c_open hTI h3 (by omega) r (fun _ => ifT rfl (ifT rfl (ifT rfl (er_self (hk _))))) fun hs c H2 m hcn hfm2 hc hm hlo hhi => ifF rfl ⟨rfl, ifF rfl ?_⟩
  have htc : t ∉ [c] := by simp only [List.mem_singleton]; exact fun e => by rw [← e, hTI.ht] at hcn; cases hcn
  have hnc : n ∉ [c] := by simp only [List.mem_singleton]; exact fun e => by rw [← e, hTI.hn] at hcn; cases hcn
  have hTI2 := hTI.fm hfm2 htc hnc
  refine retH_i _ (fun K' hk' => c_tpairs hTI2 h3 (by omega) hk') ?_
  have hsort := hTI.row.sort
  have hrow := hTI.row
  have hord := sortK_keys.1 hsort
  dsimp only
  -- the pairs at their places
  have hlt : ∀ (j : Nat) (p : Pr), j < m → (allP T)[j]? = some p → lessL p.1 r.1 = true := fun j p hj hp => hlo p (List.mem_of_getElem? (i := j) (by rw [List.getElem?_take, if_pos hj]; exact hp))
  have hge : ∀ (j : Nat) (p : Pr), m ≤ j → (allP T)[j]? = some p → lessL p.1 r.1 = false := fun j p hj hp => hhi p (List.mem_of_getElem? (i := j - m) (by rw [List.getElem?_drop, show m + (j - m) = j from by omega]; exact hp))
  have hsj : ∀ (i j : Nat) (p q : Pr), i < j → (allP T)[i]? = some p → (allP T)[j]? = some q → lessL p.1 q.1 = true := fun i j p q hij hp hq => hsort.get hij (by rw [keys_get, hp]; rfl) (by rw [keys_get, hq]; rfl)
  have hTI3 := hTI2
  generalize hall : allP T = all at *
  refine JoinA_r (fun v' H' => ∃ (at_ : Nat) (rest : List Pr), v' = (((), true, some c, all, (at_ : Int), ()), (r.1, r.2, ()), ()) ∧ at_ ≤ all.length ∧ Fm [c] H2 H' ∧ Cur H' c n r T rest ∧ (∀ j p, at_ ≤ j → all[j]? = some p → inP r p = false) ∧ ∀ p, rest.head? = some p → inP r p = false) ?_ fun hB => ?_
  · rintro v' H' ⟨at_, rest, rfl, hat, hf', hc', hno, hhd⟩
    refine loop_n (all.length - at_) (fun j => (((), true, some c, all, ((at_ + j : Nat) : Int), ()), (r.1, r.2, ()), ())) (fun _ => True) rfl trivial fun j C hj _ hC => ?_
    dsimp only at hC ⊢
    refine lenA_i fun _ => ifLt (fun h1 => ?_) fun h1 => ?_
    · have hC := hC (by omega) trivial
      refine atA_lt h1 (retA_i _ (c_rin (r.1, r.2) _) (ifF (hno _ _ (by omega) (List.getElem?_eq_getElem h1)) ?_))
      rw [w1 (by omega)]
      exact hC
    · refine c_next (hTI3.fm hf' htc hnc) (by rw [hall]; omega) hc' (fun H'' _ _ _ => ifT rfl (hk _)) fun p q' H'' hpq hin _ _ => ?_
      exfalso
      have := hhd p (by rw [hpq]; rfl)
      unfold inP at this
      rw [hin] at this; cases this
  · refine loop_h (all.length - m) (fun i v' H' => v' = (((), true, some c, all, (((if i = 0 then 0 else m + i : Nat)) : Int), (i : Int), ()), (r.1, r.2, ()), ()) ∧ Fm [c] H2 H' ∧ Cur H' c n r T (all.drop (m + i))) ⟨rfl, Fm.refl _ _, by rw [Nat.add_zero]; exact hc⟩ ?_
    rintro i v' H' C hi ⟨rfl, hf', hc'⟩ hC
    dsimp only at hC ⊢
    have hat : (if i = 0 then 0 else m + i) ≤ m + i := by split <;> omega
    have hat2 : ∀ j, (if i = 0 then 0 else m + i) ≤ j → j < m + i → j < m := fun j h1 h2 => by split at h1 <;> omega
    generalize (if i = 0 then 0 else m + i) = at0 at hat hat2
    refine lenA_i fun _ => ifT (decide_eq_true (by omega)) ?_
    refine c_next (hTI3.fm hf' htc hnc) (by rw [hall]; omega) hc' (fun H'' hf2 hc2 hhd => ifT rfl (hB _ _ ⟨at0, all.drop (m + i), rfl, by omega, hf'.trans hf2, hc2, fun j p hj hp => ?_, hhd⟩)) fun p rest' H'' hpq hin hf2 hc2 => ifF rfl ?_
    · rcases Nat.lt_or_ge j m with h1 | h1
      · exact in_lt (hlt j p h1 hp)
      · have hj2 : m + i ≤ j := by
          rcases Nat.lt_or_ge j (m + i) with h2 | h2
          · have := hat2 j hj h2; omega
          · exact h2
        have hjl := (List.getElem?_eq_some_iff.1 hp).1
        have hp0 : all[m + i]? = some all[m + i] := List.getElem?_eq_getElem (by omega)
        have h3' := hhd all[m + i] (by rw [List.head?_drop]; exact hp0)
        rcases Nat.eq_or_lt_of_le hj2 with h4 | h4
        · subst h4
          rw [hp0] at hp
          injection hp with hp
          rw [← hp]; exact h3'
        · exact in_after (hge _ _ (by omega) hp0) h3' (hsj _ _ _ _ h4 hp0 hp)
    · have hp : all[m + i]? = some p := by rw [← List.head?_drop, hpq]; rfl
      have hml := (List.getElem?_eq_some_iff.1 hp).1
      refine retA_i _ (c_rin (r.1, r.2) p.1) ?_
      dsimp only
      rw [show inR r.1 r.2 p.1 = true from hin]
      refine loop_n (m + i - at0) (fun j => (((), true, some c, all, ((at0 + j : Nat) : Int), (i : Int), (), true, ()), (r.1, r.2, ()), (p.1, p.2, ()), ())) (fun _ => True) rfl trivial fun j C' hj _ hC' => ?_
      dsimp only at hC' ⊢
      have hjl : at0 + j < all.length := by omega
      refine lenA_i fun _ => ifT (decide_eq_true (by omega)) (atA_lt hjl ?_)
      rw [strB_eq]
      have hx := List.getElem?_eq_getElem hjl
      rcases Nat.lt_or_ge (at0 + j) (m + i) with h1 | h1
      · have h2 := hlt _ _ (hat2 (at0 + j) (by omega) h1) hx
        have hne : all[at0 + j].1 ≠ p.1 := less_ne (hsj _ _ _ _ h1 hx hp)
        refine ifT (by simp [hne]) (atA_lt hjl (retA_i _ (c_rin (r.1, r.2) _) (ifF (in_lt h2) ?_)))
        rw [w1 (by omega)]
        exact hC' (by omega) trivial
      · have hje : at0 + j = m + i := by omega
        have hpe : all[at0 + j] = p := by
          have := hx
          simp only [hje] at this ⊢
          rw [hp] at this
          injection this with this
          exact this.symm
        rw [hpe]
        refine ifF (by simp) (ifF rfl (lenA_i fun _ => ifF (decide_eq_false (by omega)) (atA_lt hjl ?_)))
        rw [hpe]
        refine ifF (by rw [strB_eq]; simp) ?_
        rw [w1 (by omega), w1 (by omega), hje]
        have hd : rest' = all.drop (m + (i + 1)) := by
          rw [show m + (i + 1) = m + i + 1 from rfl, ← List.drop_drop, hpq]; rfl
        refine hC (by omega) _ _ ⟨?_, hf'.trans hf2, by rw [← hd]; exact hc2⟩
        rw [if_neg (by omega)]; rfl
theorem fitRange : fitT Try.prog 9 (.cons (.row .byte) (.row .byte)) 77 = true := by kernel_rfl
theorem cursorTells_row (W : World) (m : Int) (b : Sl) (c : Array Value) (w0 : (Lit.int .i64 m).wf = true) (n1 : Nat) (h1 : RdT Try.prog W n1 22 [.slice b.a b.len b.cap]) (n2 : Nat) (h2 : RdT Try.prog W n2 77 c.toList) :
    callG Try.prog 8 [.int .i64 m, .slice b.a b.len b.cap, .agg c] [.one .bool] W fun x W' => x = (true, ()) ∧ Keeps [] W W' := by
  obtain ⟨y, hy, _⟩ := fit_dat _ fitPairs8 h1
  obtain ⟨z, hz, _⟩ := fit_dat _ fitRange h2
  exact callG_of (callA8 m y z _ _ (cursorTells_walk m y z _ _ fun _ => rfl)) (arg_int (arg_cons rfl rfl hy rfl (arg_cons rfl rfl hz rfl arg_nil)))
end Go.Proofs.Ytdglfbeddbcbpaa
