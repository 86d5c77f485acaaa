/-
  JournalOnce.
-/
import Derived.Test.YtalniaipgdbbcaaJour2
set_option linter.unusedSimpArgs false
set_option linter.unusedVariables false
namespace Go.Proofs.Ytalniaipgdbbcaa
open Go Go.Gp Go.Ga Go.Th
theorem c_janswered' {H : HP} {n b be : Nat} {s se : Sl} {gs : List (List Itm)} {ap an : Nat} (h : JAt H n b be s se gs ap an) (K : HT [(false, .one .any)] → HP → Prop) (h10 : dnG gs ap ≤ an → K (er 10, ()) H)
    (yes : an < dnG gs ap → ∀ H', ((an + 1 ≠ gs.flatten.length ∧ JAt H' n b be s se gs ap (an + 1)) ∨ (an + 1 = gs.flatten.length ∧ JAt H' n 0 0 ⟨none, 0, 0⟩ ⟨none, 0, 0⟩ [] 0 0)) → FrJ H H' → K (er 0, ()) H') : C55 (some n) H K :=
  c_janswered h K h10 (fun a b' H' h' f => yes a H' (.inl ⟨b', h'⟩) f) fun a b' H' h' f => yes a H' (.inr ⟨b', h'⟩) f
def OkJ (H : HP) (n : Nat) (G : List (List Itm)) (ap an : Nat) : Prop := ∃ b be s se gs ap' an', JAt H n b be s se gs ap' an' ∧ ((gs = apG G ap ∧ ap' = ap ∧ an' = an ∧ an < G.flatten.length) ∨ (gs = [] ∧ ap' = 0 ∧ an' = 0 ∧ an = G.flatten.length ∧ ap = G.length))
def phJ (T n m i ap an : Nat) : Prop := (T ≤ i → i ≤ T + n → i - T ≤ ap ∨ ap = m) ∧ (T + n ≤ i → ap = m ∧ i - (T + n) ≤ an)
theorem fR_short (R : List Req) : ∀ a ∈ R.map fR, shortA a := fun a ha => by
  obtain ⟨r, _, rfl⟩ := List.mem_map.1 ha
  exact ⟨by show (0 : Nat) ≤ 100; decide, by show (0 : Nat) ≤ 1000; decide, fun p hp => by have hp : p ∈ ([] : List Pr) := hp; cases hp⟩
theorem er_b {c : Int} {b : Bool} {A B : Prop} (hb : b = decide (c = 0)) (h : B) : isIfc (er c) = true ∧ ifB (! (isNilV (er c) == b)) A B := ⟨er_ifc c, by rw [er_nil, hb]; exact ifF (by simp) h⟩
theorem journalOnce_walk (slots : List Int) (l : List Req) (turns : List Bool) (H : HP) (K : HT [(false, .one .bool)] → HP → Prop) (hk : ∀ H', K (true, ()) H') : A8 slots l turns H K := by
  unfold A8
  refine c_up17 H _ fun H1 => c_jnew H1 _ fun nJ H2 hJ0 _ => retA_i _ (c_qfew l 40) (ifF rfl ?_)
  dsimp only
  cases hf : fewQ l 40 with
  | false => exact ifT rfl (ifT rfl (hk _))
  | true =>
    have hl40 := fewQ_len hf
    have hsh : ∀ r ∈ l, shortQ r := fun r hr => by
      obtain ⟨j, hj, rfl⟩ := List.getElem_of_mem hr
      unfold fewQ at hf
      rw [Bool.and_eq_true] at hf
      have := allN_at hf.1 hj
      rw [List.getElem?_eq_getElem hj] at this
      exact smallQ_short this
    refine ifF rfl (lenA_i fun _ => ifD (fun _ => ifT rfl (hk _)) fun hs60 => lenA_i fun _ => ifD (fun _ => ifT rfl (hk _)) fun ht200 => ?_)
    have hs60 : ¬ (slots.length : Int) > 60 := hs60
    have ht200 : ¬ (turns.length : Int) > 200 := ht200
    refine c_jbegin hJ0 slots l (by omega) hsh _ (fun h => absurd rfl h) (fun _ _ => ?_) (fun _ _ _ _ => ?_) fun _ hsl hfit hl32 H3 b be s se hJ1 _ => ?_
    · refine ⟨er_ifc 1, ?_⟩
      rw [er_nil]
      exact ifT rfl (ifT rfl (retH_r _ (fun K' hk' => c_jopen hJ0 K' hk') (hk _)))
    · refine ⟨er_ifc 2, ?_⟩
      rw [er_nil]
      exact ifT rfl (ifT rfl (retH_r _ (fun K' hk' => c_jopen hJ0 K' hk') (hk _)))
    refine ⟨er_ifc 0, ?_⟩
    rw [er_nil]
    refine ifF rfl ?_
    have hnd := fit_nodup hsl hfit
    have hN := bgG_len slots l
    have hflat := bgG_flat slots l
    have hne : ∀ g ∈ bgG slots l, g ≠ [] := bgG_ne
    have hm := len_flat hne
    have hpos : 0 < l.length := by
      unfold fitJ at hfit
      rw [Bool.and_eq_true, decide_eq_true_eq] at hfit; exact hfit.1
    have hG0 : OkJ H3 nJ (bgG slots l) 0 0 := ⟨b, be, s, se, _, 0, 0, hJ1, .inl ⟨(apG_zero _).symm, rfl, rfl, by omega⟩⟩
    have hord : ∀ j, j < l.length → ∃ o : Nat, o < slots.length ∧ (ordL l)[j]? = some (o : Int) ∧ (bgG slots l).flatten[j]? = some ((slots[o]?).getD 0, rq l o, zRes) ∧ l[o]? = some (rq l o) := fun j hj => by
      obtain ⟨x, hx, hq⟩ := ordL_at hj
      obtain ⟨h1, h2⟩ := hq
      refine ⟨x.toNat, by omega, by rw [hx]; congr 1; omega, ?_, ?_⟩
      · rw [hflat, List.getElem?_map, hx]
        have e : ((x.toNat : Nat) : Int) = x := by omega
        rw [e]; rfl
      · have := rq_at (l := l) ⟨h1, h2⟩
        have e : ((x.toNat : Nat) : Int) = x := by omega
        rw [e]; exact this
    have hinj : ∀ i j x, (ordL l)[i]? = some x → (ordL l)[j]? = some x → i = j := fun i j x h1 h2 => by
      obtain ⟨a1, a2⟩ := List.getElem?_eq_some_iff.1 h1
      obtain ⟨b1, b2⟩ := List.getElem?_eq_some_iff.1 h2
      have hr := List.pairwise_iff_getElem.1 (show List.Pairwise (ltQ l) (ordL l) from ordN_rise l _ (Nat.le_refl _))
      apply Classical.byContradiction
      intro hne
      rcases Nat.lt_or_gt_of_ne hne with h | h
      · have := hr i j a1 b1 h
        rw [a2, b2] at this
        exact ltQ_as l _ _ this this
      · have := hr j i b1 a1 h
        rw [b2, a2] at this
        exact ltQ_as l _ _ this this
    clear hJ1
    generalize hGd : bgG slots l = G at hN hflat hne hm hG0 hord
    refine loop_h (turns.length + 2 * l.length) (fun i v H' => ∃ ap an, OkJ H' nJ G ap an ∧ an ≤ dnG G ap ∧ ap ≤ G.length ∧ phJ turns.length l.length G.length i ap an ∧ v = ((slots, l, turns, true, some nJ, (G.flatten.take an).map (·.1), (dnG G ap : Int), (i : Int), ()), ())) ⟨0, 0, hG0, Nat.zero_le _, Nat.zero_le _, ⟨fun h1 h2 => .inl (by omega), fun h => by omega⟩, by simp [dnG]⟩ ?_
    rintro i v H' C hi ⟨ap, an, hO, han, hap, hph, rfl⟩ hC
    dsimp only
    have hC : ∀ (hlt : i < turns.length + 2 * l.length) ap' an' H'', OkJ H'' nJ G ap' an' → an' ≤ dnG G ap' → ap' ≤ G.length → phJ turns.length l.length G.length (i + 1) ap' an' → C ((slots, l, turns, true, some nJ, (G.flatten.take an').map (·.1), (dnG G ap' : Int), ((i + 1 : Nat) : Int), ()), ()) H'' := fun hlt ap' an' H'' h1 h2 h3 h4 => hC hlt _ _ ⟨ap', an', h1, h2, h3, h4, rfl⟩
    refine lenA_i fun _ => lenA_i fun _ => ?_
    rw [wI (x := 2 * (l.length : Int)) (by omega) (by omega), wI (by omega) (by omega), show (turns.length : Int) + 2 * (l.length : Int) = ((turns.length + 2 * l.length : Nat) : Int) from by omega]
    have hdle := dnG_le G ap
    refine ifLt (fun hlt => ?_) fun hge => ?_
    rotate_left
    · -- the end
      obtain rfl : i = turns.length + 2 * l.length := by omega
      obtain ⟨e1, e2⟩ := hph.2 (by omega)
      obtain ⟨b, be, s, se, gs, ap', an', hJ, hc⟩ := hO
      rcases hc with ⟨_, _, _, hc⟩ | ⟨rfl, rfl, rfl, hc, _⟩
      · omega
      · subst e1
        rw [dnG_all]
        refine ifT rfl (lenA_i fun _ => lenA_i fun _ => ifT (by rw [List.length_map, List.length_take, beq_iff_eq]; omega) (lenA_i fun _ => ifT (by rw [beq_iff_eq]; omega) (retH_r _ (fun K' hk' => c_jopen hJ K' hk') (hk _))))
    refine lenA_i fun _ => lenA_i fun _ => ?_
    refine JoinA_w (fun v H2 => H2 = H' ∧ ∃ ans : Bool, v = ((slots, l, turns, true, some nJ, (G.flatten.take an).map (·.1), (dnG G ap : Int), (i : Int), ans, ()), ()) ∧ (turns.length ≤ i → ans = decide (turns.length + l.length ≤ i))) ?_ ?_
    rotate_left
    · intro C' hC'
      refine lenA_i fun _ => ifLt (fun h1 => atA_lt h1 (hC' _ _ ⟨rfl, _, rfl, fun h => by omega⟩)) fun h1 => hC' _ _ ⟨rfl, _, rfl, fun _ => ?_⟩
      rw [wI (by omega) (by omega), Bool.eq_iff_iff, decide_eq_true_eq, decide_eq_true_eq]; omega
    rintro _ _ ⟨rfl, ans, rfl, hans⟩
    dsimp only
    rw [← w1 (by omega)] at hC
    obtain ⟨b, be, s, se, gs, ap', an', hJ, hc⟩ := hO
    cases ans with
    | false =>
      refine ifT rfl (retH_r _ (fun K' hk' => c_jnext hJ K' hk') ?_)
      dsimp only
      have hR : (nxG gs ap').length = ((gs[ap']?).getD []).length := by unfold nxG; rw [List.length_map]
      have hR32 : (nxG gs ap').length ≤ 32 := by
        rw [hR]
        cases hg : gs[ap']? with
        | none => simp
        | some g => exact grp_le hJ hg
      generalize hRd : nxG gs ap' = R at hR hR32 ⊢
      refine loop_n R.length (fun k => ((slots, l, turns, true, some nJ, (G.flatten.take an).map (·.1), (dnG G ap : Int), (i : Int), R, (R.take k).map fR, (k : Int), ()), ())) (fun _ => True) (by simp) trivial fun k C' hk2 _ hC' => ?_
      dsimp only
      refine lenA_i fun _ => ifLt (fun h1 => ?_) fun h1 => ?_
      · refine atA_lt h1 (atA_lt h1 ⟨by decide, appA_i (by rw [List.length_map, List.length_take]; omega) ?_⟩)
        have := hC' h1 trivial
        rw [take_snoc h1, List.map_append, ← w1 (by omega)] at this
        exact this
      · obtain rfl : k = R.length := by omega
        rw [List.take_length]
        refine c_japply hJ (R.map fR) (fR_short R) (by rw [List.length_map]; omega) _ (fun h10 => ?_) (fun g hg hl2 => ?_) fun g hg hl2 H4 hJ4 _ => ?_
        · -- nothing is left
          rw [h10] at hR
          have hR0 : R.length = 0 := hR
          rw [hR0]
          refine ⟨er_ifc 10, lenA_i fun _ => ?_⟩
          rw [er_nil]
          refine ifF rfl (lenA_i fun _ => ?_)
          have e : IntKind.i64.wrap ((dnG G ap : Int) + ((0 : Nat) : Int)) = (dnG G ap : Int) := by rw [wI (by omega) (by omega)]; omega
          rw [e]
          have hapm : ap = G.length := by
            rcases hc with ⟨rfl, rfl, rfl, _⟩ | ⟨_, _, _, _, h⟩
            · have := List.getElem?_eq_none_iff.1 h10
              rw [apG_len] at this; omega
            · exact h
          refine hC hlt ap an _ ⟨b, be, s, se, gs, ap', an', hJ, hc⟩ han hap ⟨fun _ _ => .inr hapm, fun h => ⟨hapm, ?_⟩⟩
          rcases Nat.lt_or_ge i (turns.length + l.length) with h5 | h5
          · omega
          · have := (hans (by omega)).symm
            rw [decide_eq_false_iff_not] at this; omega
        · rw [hg] at hR
          rw [List.length_map] at hl2
          exact absurd hR hl2
        · rw [hg] at hR
          have hR : R.length = g.length := hR
          rcases hc with ⟨rfl, rfl, rfl, hc⟩ | ⟨rfl, _, _, _, _⟩
          · have hg' : G[ap']? = some g := by rw [← apG_at hap]; exact hg
            have hgG := dnG_succ hg'
            have hg0 := List.length_pos_iff.2 (hne g (List.mem_of_getElem? hg'))
            have hk1 := (List.getElem?_eq_some_iff.1 hg').1
            have hd1 := dnG_le G (ap' + 1)
            have eR : R = g.map fun x => x.2.1 := by rw [← hRd]; unfold nxG; rw [hg]; rfl
            rw [eR, zipG_fR, apG_succ hg'] at hJ4
            refine ⟨er_ifc 0, lenA_i fun _ => ?_⟩
            rw [er_nil]
            refine ifF (by rw [show decide ((R.length : Int) > 0) = true from decide_eq_true (by omega)]; rfl) (lenA_i fun _ => ?_)
            rw [wI (x := (dnG G ap' : Int) + (R.length : Int)) (by omega) (by omega), hR, show (dnG G ap' : Int) + (g.length : Int) = (dnG G (ap' + 1) : Int) from by omega]
            refine hC hlt (ap' + 1) an' _ ⟨b, be, s, se, _, _, _, hJ4, .inl ⟨rfl, rfl, rfl, hc⟩⟩ (by omega) (by omega) ⟨fun h3 h4 => ?_, fun h3 => ?_⟩
            · left
              rcases Nat.lt_or_ge i turns.length with h5 | h5
              · omega
              · rcases hph.1 h5 (by omega) with h6 | h6 <;> omega
            · rcases Nat.lt_or_ge i (turns.length + l.length) with h5 | h5
              · rcases hph.1 (by omega) (by omega) with h6 | h6 <;> exact ⟨by omega, by omega⟩
              · have := (hans (by omega)).symm
                rw [decide_eq_false_iff_not] at this; omega
          · simp at hg
    | true =>
      refine ifF rfl (retH_r _ (fun K' hk' => c_jready hJ K' hk') ?_)
      dsimp only
      refine c_janswered' hJ _ (fun h10 => ?_) fun hyes H4 hJ4 _ => ?_
      · have e : rdG gs ap' an' = (0, zRes, false) := by unfold rdG; rw [if_pos h10]
        rw [e]
        refine er_b (c := 10) (b := false) rfl (ifT rfl ?_)
        refine hC hlt ap an _ ⟨b, be, s, se, gs, ap', an', hJ, hc⟩ han hap ?_
        rcases hc with ⟨rfl, rfl, rfl, hc⟩ | ⟨_, _, _, hc, hc2⟩
        · rw [apG_dn] at h10
          have hno : ¬ turns.length + l.length ≤ i := fun h => by
            have := (hph.2 h).1
            rw [this, dnG_all] at h10; omega
          have hiT : i < turns.length := by
            rcases Nat.lt_or_ge i turns.length with h5 | h5
            · exact h5
            · have := (hans h5).symm
              rw [decide_eq_true_eq] at this; omega
          exact ⟨fun h3 h4 => .inl (by omega), fun h => by omega⟩
        · exact ⟨fun _ _ => .inr hc2, fun h => ⟨hc2, by omega⟩⟩
      · rcases hc with ⟨rfl, rfl, rfl, hc⟩ | ⟨rfl, rfl, rfl, _, _⟩
        case inr => simp [dnG] at hyes
        have hdn : an' < dnG G ap' := by rw [apG_dn] at hyes; exact hyes
        obtain ⟨o, ho, eo, ey, er1⟩ := hord an' (by omega)
        have ex := apG_flat hdn ey
        obtain ⟨x, hx, e⟩ := rdG_some hJ hyes
        rw [hx] at ex
        injection ex with ex
        subst ex
        rw [e]
        have so : slots[o]? = some slots[o] := List.getElem?_eq_getElem ho
        have ey2 : (G.flatten[an']?).map (·.1) = some slots[o] := by rw [ey, so]; rfl
        rw [so] at ey
        refine er_b (c := 0) (b := true) rfl (ifF rfl ?_)
        rw [so]
        show LoopA ((slots, l, turns, true, some nJ, (G.flatten.take an').map (·.1), (dnG G ap' : Int), (i : Int), slots[o], (), -1, 0, ()), ((fR (rq l o)).1, (fR (rq l o)).2.1, (fR (rq l o)).2.2.1, (fR (rq l o)).2.2.2.1, (fR (rq l o)).2.2.2.2, ()), ()) _ _
        refine loop_n slots.length (fun k => ((slots, l, turns, true, some nJ, (G.flatten.take an').map (·.1), (dnG G ap' : Int), (i : Int), slots[o], (), (if o < k then (o : Int) else -1), (k : Int), ()), ((fR (rq l o)).1, (fR (rq l o)).2.1, (fR (rq l o)).2.2.1, (fR (rq l o)).2.2.2.1, (fR (rq l o)).2.2.2.2, ()), ())) (fun _ => True) rfl trivial fun k C' hk2 _ hC' => ?_
        dsimp only
        refine lenA_i fun _ => ifLt (fun h1 => ?_) fun h1 => ?_
        · have nx := hC' h1 trivial
          rw [← w1 (by omega)] at nx
          refine atA_lt h1 (ifB_i (fun h2 => ?_) fun h2 => ?_)
          · rw [beq_iff_eq] at h2
            obtain rfl := slots_inj hnd h1 ho h2
            rw [if_pos (by omega)] at nx; exact nx
          · have : k ≠ o := fun e => by subst e; simp at h2
            have e2 : (if o < k + 1 then (o : Int) else -1) = if o < k then (o : Int) else -1 := by
              by_cases h3 : o < k
              · rw [if_pos h3, if_pos (by omega)]
              · rw [if_neg h3, if_neg (by omega)]
            rw [e2] at nx; exact nx
        · obtain rfl : k = slots.length := by omega
          rw [if_pos ho]
          refine ifF (decide_eq_false (by omega)) (atA_g rfl er1 (ifF (by simp [fR]) (atA_g rfl er1 ⟨by decide, ifF (by simp [fR]) ?_⟩)))
          have hlen : ((G.flatten.take an').map (·.1)).length = an' := by rw [List.length_map, List.length_take]; omega
          refine loop_n an' (fun k => ((slots, l, turns, true, some nJ, (G.flatten.take an').map (·.1), (dnG G ap' : Int), (i : Int), slots[o], (k : Int), ()), ())) (fun _ => True) rfl trivial fun k C' hk3 _ hC' => ?_
          dsimp only
          refine lenA_i fun _ => ?_
          rw [hlen]
          refine ifLt (fun h3 => ?_) fun h3 => ?_
          · obtain ⟨o', ho', eo', ek, _⟩ := hord k (by omega)
            have so' : slots[o']? = some slots[o'] := List.getElem?_eq_getElem ho'
            have hk4 : ((G.flatten.take an').map (·.1))[k]? = some slots[o'] := by
              rw [List.getElem?_map, List.getElem?_take, if_pos h3, ek, so']; rfl
            refine ⟨by omega, by omega, elA_i (by rw [Int.toNat_natCast]; exact hk4) (ifF ?_ ?_)⟩
            · rw [beq_eq_false_iff_ne]
              intro e2
              have := slots_inj hnd ho' ho e2
              subst this
              exact absurd (hinj _ _ _ eo' eo) (by omega)
            · rw [w1 (by omega)]; exact hC' h3 trivial
          · refine appA_i (by omega) ?_
            have hx2 : an' < G.flatten.length := hc
            have e3 : (G.flatten.take an').map (·.1) ++ [slots[o]] = (G.flatten.take (an' + 1)).map (·.1) := by
              rw [take_snoc hx2, List.map_append]
              congr 1
              rw [List.getElem?_eq_getElem hx2] at ey2
              injection ey2 with ey2
              rw [← ey2]; rfl
            rw [e3]
            rw [apG_flen] at hJ4
            have ph' : ∀ hfull : an' + 1 ≤ G.flatten.length, phJ turns.length l.length G.length (i + 1) ap' (an' + 1) := fun hfull => by
              refine ⟨fun h4 h5 => ?_, fun h4 => ?_⟩
              · rcases Nat.lt_or_ge i turns.length with h6 | h6
                · left; omega
                · have := (hans h6).symm
                  rw [decide_eq_true_eq] at this
                  exact .inr (hph.2 this).1
              · rcases Nat.lt_or_ge i (turns.length + l.length) with h6 | h6
                · have : i < turns.length := by
                    rcases Nat.lt_or_ge i turns.length with h7 | h7
                    · exact h7
                    · have := (hans h7).symm
                      rw [decide_eq_true_eq] at this; omega
                  omega
                · obtain ⟨h7, h8⟩ := hph.2 h6
                  exact ⟨h7, by omega⟩
            rcases hJ4 with ⟨hne2, hJ4⟩ | ⟨heq, hJ4⟩
            · exact hC hlt ap' (an' + 1) _ ⟨b, be, s, se, _, _, _, hJ4, .inl ⟨rfl, rfl, rfl, by omega⟩⟩ (by omega) hap (ph' (by omega))
            · exact hC hlt ap' (an' + 1) _ ⟨_, _, _, _, _, _, _, hJ4, .inr ⟨rfl, rfl, rfl, heq, dn_full hne hap (by omega)⟩⟩ (by omega) hap (ph' (by omega))
theorem fitInts : fitT Try.prog 9 (.row (.one (.int .i64))) 81 = true := by kernel_rfl
theorem fitBools : fitT Try.prog 9 (.row (.one .bool)) 82 = true := by kernel_rfl
theorem journalOnce_row (W : World) (a : Sl) (b : Sl) (c : Sl) (n1 : Nat) (h1 : RdT Try.prog W n1 81 [.slice a.a a.len a.cap]) (n2 : Nat) (h2 : RdT Try.prog W n2 71 [.slice b.a b.len b.cap]) (n3 : Nat) (h3 : RdT Try.prog W n3 82 [.slice c.a c.len c.cap]) :
    callG Try.prog 8 [.slice a.a a.len a.cap, .slice b.a b.len b.cap, .slice c.a c.len c.cap] [.one .bool] W fun x W' => x = (true, ()) ∧ Keeps [] W W' := by
  obtain ⟨x, hx, _⟩ := fit_dat _ fitInts h1
  obtain ⟨y, hy, _⟩ := fit_dat _ fitReqs h2
  obtain ⟨z, hz, _⟩ := fit_dat _ fitBools h3
  exact callG_of (callA8 x y z _ _ (journalOnce_walk x y z _ _ fun _ => rfl)) (arg_cons rfl rfl hx rfl (arg_cons rfl rfl hy rfl (arg_cons rfl rfl hz rfl arg_nil)))
end Go.Proofs.Ytalniaipgdbbcaa
