/-
  The document's journal, over data.
-/
import Derived.Test.YtalniaipgdbbcaaDjref
import Derived.Test.YtalniaipgdbbcaaJour2
import Derived.Test.YtalniaipgdbbcaaKt
set_option linter.unusedSimpArgs false
set_option linter.unusedVariables false
namespace Go.Proofs.Ytalniaipgdbbcaa
open Go Go.Gp Go.Ga Go.Th
def FrM (H H' : HP) : Prop := ∀ m o, H m = some o → tagK o.k = 1 → H' m = some o
theorem FrM.refl (H : HP) : FrM H H := fun _ _ h _ => h
theorem FrM.set {H H' : HP} (h : FrM H H') {n : Nat} {k : AK} {x : k.T} (hn : ∀ o, H n = some o → tagK o.k ≠ 1) : FrM H (H'.set n k x) := fun m o h1 h2 => by
  have : m ≠ n := fun e => by subst e; exact hn o h1 h2
  rw [hp_ne this]; exact h m o h1 h2
structure MAt (H : HP) (n b : Nat) (s : Sl) (gs : List (List Itm)) (ap an : Nat) : Prop where
  hdr : H n = some ⟨kMK, (s, (ap : Int), (an : Int))⟩
  sl : s.len = gs.flatten.length
  z : gs = [] → s = ⟨none, 0, 0⟩
  at0 : gs ≠ [] → s.a = some ⟨b, 0, none⟩ ∧ ArrAt H b kIU 159 s (Lg gs)
  ne : ∀ g ∈ gs, g ≠ []
  le : gs.flatten.length ≤ 32
  apl : ap ≤ gs.length
  anl : an ≤ dnG gs ap
theorem MAt.frJ {H H' : HP} {n b : Nat} {s : Sl} {gs : List (List Itm)} {ap an : Nat} (h : MAt H n b s gs ap an) (f : FrJ H H') : MAt H' n b s gs ap an :=
  ⟨f _ _ h.hdr (by show (0 : Nat) ≠ 1; decide), h.sl, h.z, fun hg => ⟨(h.at0 hg).1, f _ _ (h.at0 hg).2 (by show (0 : Nat) ≠ 1; decide)⟩, h.ne, h.le, h.apl, h.anl⟩
theorem JAt.frM {H H' : HP} {n b be : Nat} {s se : Sl} {gs : List (List Itm)} {ap an : Nat} (h : JAt H n b be s se gs ap an) (f : FrM H H') : JAt H' n b be s se gs ap an :=
  ⟨f _ _ h.hdr rfl, h.sl, h.el, h.cap, h.z, fun hg => by obtain ⟨a1, a2, a3, a4⟩ := h.at0 hg; exact ⟨a1, f _ _ a2 rfl, a3, f _ _ a4 rfl⟩, h.ne, h.le, h.apl, h.anl, h.short⟩
theorem JAt.le' {H H' : HP} {n b be : Nat} {s se : Sl} {gs : List (List Itm)} {ap an : Nat} (h : JAt H n b be s se gs ap an) (f : H.le H') : JAt H' n b be s se gs ap an := h.frM fun m o hm _ => f.get hm
section
variable {H : HP} {n b : Nat} {s : Sl} {gs : List (List Itm)} {ap an : Nat}
theorem MAt.tag (h : MAt H n b s gs ap an) {o : OB} : (H n = some o → tagK o.k ≠ 1) ∧ (gs ≠ [] → H b = some o → tagK o.k ≠ 1) := by
  refine ⟨fun e => by rw [h.hdr] at e; injection e with e; subst e; show (0 : Nat) ≠ 1; decide, fun hg e => ?_⟩
  obtain ⟨_, a2⟩ := h.at0 hg
  rw [show H b = _ from a2] at e; injection e with e; subst e
  show (0 : Nat) ≠ 1; decide
theorem MAt.nn (h : MAt H n b s gs ap an) (hg : gs ≠ []) : n ≠ b := by
  obtain ⟨_, a2⟩ := h.at0 hg
  have h1 := h.hdr
  intro e
  rw [e, show H b = _ from a2] at h1; injection h1 with h1; injection h1 with h1; cases h1
theorem MAt.few (h : MAt H n b s gs ap an) : gs.length ≤ 32 := Nat.le_trans (len_flat h.ne) h.le
theorem MAt.nil' (h : MAt H n b s gs ap an) (hg : gs = []) : ap = 0 ∧ an = 0 := by
  have h1 := h.apl
  have h2 := h.anl
  subst hg
  simp [dnG] at h1 h2
  exact ⟨h1, h2⟩
theorem nfU_one (ap : Nat) (u : Itu) : nfU ap [u] = if (u.2.1 == (ap : Int)) = true then [u.2.2.1] else [] := by
  unfold nfU
  rw [List.filter_cons]
  split <;> simp
theorem c_mnext (h : MAt H n b s gs ap an) (K : HT [(false, .row kRQ)] → HP → Prop) (hk : K (nxG gs ap, ()) H) : C58 (some n) H K := callA58 _ _ _ (by
  unfold A58
  have hle := h.le
  have hL := Lg_len gs
  have e : nfU ap (Lg gs) = nxG gs ap := nfU_Lg gs ap
  refine loop_n gs.flatten.length (fun i => ((some n, nfU ap ((Lg gs).take i), (i : Int), ()), ())) (fun _ => True) (by simp [nfU]) trivial fun i C hi _ hC => ?_
  dsimp only
  refine refA_r (ldO_r h.hdr ?_)
  dsimp only
  rw [h.sl]
  refine ifLt (fun h1 => ?_) fun h1 => ?_
  · have hgs : gs ≠ [] := fun e => by rw [e] at h1; simp at h1
    obtain ⟨a1, a2⟩ := h.at0 hgs
    have hu := List.getElem?_eq_getElem (by rw [hL]; exact h1 : i < (Lg gs).length)
    have nx := hC h1 trivial
    rw [take_snoc (by rw [hL]; exact h1), nfU_app, nfU_one, ← w1 (by omega)] at nx
    have hfl : (nfU ap ((Lg gs).take i)).length ≤ 32 := by
      unfold nfU
      rw [List.length_map]
      refine Nat.le_trans (List.length_filter_le _ _) ?_
      rw [List.length_take]; omega
    refine refA_r (ldO_r h.hdr (arrA_r (i := i) a1 rfl (by rw [h.sl]; exact h1) (ldE_r a2 hu (refA_r (ldO_r h.hdr (ifB_i (fun h2 => ?_) fun h2 => ?_))))))
    · rw [if_pos h2] at nx
      exact refA_r (ldO_r h.hdr (arrA_r (i := i) a1 rfl (by rw [h.sl]; exact h1) (ldE_r a2 hu (appA_i (by omega) nx))))
    · have h2' : ¬ (((Lg gs)[i]'(by rw [hL]; exact h1)).2.1 == (ap : Int)) = true := by rw [show (((Lg gs)[i]'(by rw [hL]; exact h1)).2.1 == (ap : Int)) = false from h2]; simp
      rw [if_neg h2', List.append_nil] at nx; exact nx
  · obtain rfl : i = gs.flatten.length := by omega
    rw [← hL, List.take_length, e]; exact hk)
theorem c_mleft (h : MAt H n b s gs ap an) (K : HT [(false, .one (.int .i64)), (false, .one (.int .i64))] → HP → Prop) (hk : K (((gs.flatten.length - dnG gs ap : Nat) : Int), ((gs.flatten.length - an : Nat) : Int), ()) H) : C62 (some n) H K := callA62 _ _ _ (by
  unfold A62
  have hle := h.le
  have h2 := h.anl
  have h3 := dnG_le gs ap
  refine loop_n gs.flatten.length (fun i => ((some n, ((i - dnG gs ap : Nat) : Int), (i : Int), ()), ())) (fun _ => True) (by simp) trivial fun i C hi _ hC => ?_
  dsimp only
  refine refA_r (ldO_r h.hdr ?_)
  dsimp only
  rw [h.sl]
  refine ifLt (fun h1 => ?_) fun h1 => ?_
  · have hgs : gs ≠ [] := fun e => by rw [e] at h1; simp at h1
    obtain ⟨a1, a2⟩ := h.at0 hgs
    obtain ⟨j, x, hu, _, hj⟩ := Lg_at h.apl h1
    have nx := hC h1 trivial
    rw [← w1 (by omega)] at nx
    refine refA_r (ldO_r h.hdr (arrA_r (i := i) a1 rfl (by rw [h.sl]; exact h1) (ldE_r a2 hu (refA_r (ldO_r h.hdr (ifD (fun h4 => ?_) fun h4 => ?_))))))
    · have h4 : (j : Int) ≥ (ap : Int) := h4
      have h5 : ¬ i < dnG gs ap := fun h6 => by have := hj.2 h6; omega
      rw [w1 (by omega), show i - dnG gs ap + 1 = i + 1 - dnG gs ap from by omega]; exact nx
    · have h4 : ¬ (j : Int) ≥ (ap : Int) := h4
      have h5 : i < dnG gs ap := hj.1 (by omega)
      rw [show i - dnG gs ap = i + 1 - dnG gs ap from by omega]; exact nx
  · obtain rfl : i = gs.flatten.length := by omega
    refine refA_r (ldO_r h.hdr (refA_r (ldO_r h.hdr ?_)))
    dsimp only
    rw [h.sl, wI (by omega) (by omega), show (gs.flatten.length : Int) - (an : Int) = ((gs.flatten.length - an : Nat) : Int) from by omega]
    exact hk)
theorem c_mready (h : MAt H n b s gs ap an) (K : HT [(false, .one (.int .i64)), (true, kRS), (false, .one .bool)] → HP → Prop) (hk : K ((rdG gs ap an).1, (rdG gs ap an).2.1, (rdG gs ap an).2.2, ()) H) : C63 (some n) H K := callA63 _ _ _ (by
  unfold A63
  have h3 := dnG_le gs ap
  refine refA_r (ldO_r h.hdr (refA_r (ldO_r h.hdr ?_)))
  dsimp only
  rw [h.sl]
  unfold rdG at hk
  by_cases h1 : an < gs.flatten.length
  · have hgs : gs ≠ [] := fun e => by rw [e] at h1; simp at h1
    obtain ⟨a1, a2⟩ := h.at0 hgs
    obtain ⟨j, x, hu, hx, hj⟩ := Lg_at h.apl h1
    refine ifF (decide_eq_false (by omega)) (refA_r (ldO_r h.hdr (refA_r (ldO_r h.hdr (arrA_r (i := an) a1 rfl (by rw [h.sl]; exact h1) (ldE_r a2 hu (refA_r (ldO_r h.hdr (ifD (fun h4 => ?_) fun h4 => ?_)))))))))
    · have h4 : (j : Int) ≥ (ap : Int) := h4
      have h5 : ¬ an < dnG gs ap := fun h6 => by have := hj.2 h6; omega
      rw [if_pos (by omega)] at hk; exact hk
    · have h4 : ¬ (j : Int) ≥ (ap : Int) := h4
      have h5 : an < dnG gs ap := hj.1 (by omega)
      rw [if_neg (by omega), hx] at hk; exact hk
  · rw [if_pos (by omega)] at hk
    exact ifT (decide_eq_true (by omega)) hk)
theorem rdG_b (gs : List (List Itm)) (ap an : Nat) : (rdG gs ap an).2.2 = decide (an < dnG gs ap) := by
  have h1 := dnG_le gs ap
  unfold rdG
  by_cases h : dnG gs ap ≤ an
  · rw [if_pos h, decide_eq_false (by omega)]
  · rw [if_neg h, List.getElem?_eq_getElem (by omega : an < gs.flatten.length), decide_eq_true (by omega)]
theorem c_mdone (h : MAt H n b s gs ap an) (K : HT [(false, .one (.int .i64))] → HP → Prop) (h10 : dnG gs ap ≤ an → K (10, ()) H)
    (yes : an < dnG gs ap → ∀ H', ((an + 1 ≠ gs.flatten.length ∧ MAt H' n b s gs ap (an + 1)) ∨ (an + 1 = gs.flatten.length ∧ MAt H' n 0 ⟨none, 0, 0⟩ [] 0 0)) → FrM H H' → K (0, ()) H') : C60 (some n) H K := callA60 _ _ _ (by
  unfold A60
  refine retH_r _ (fun K' hk' => c_mready h K' hk') ?_
  dsimp only
  rw [rdG_b]
  have hle := h.le
  have h3 := dnG_le gs ap
  by_cases hlt : an < dnG gs ap
  case neg => exact ifT (by rw [decide_eq_false hlt]; rfl) (h10 (by omega))
  have hgs : gs ≠ [] := fun e => by rw [e] at hlt; simp [dnG] at hlt
  have n1 := h.nn hgs
  refine ifF (by rw [decide_eq_true hlt]; rfl) (refA_r (ldO_r h.hdr (refA_r (ldO_r h.hdr ?_))))
  dsimp only
  rw [w1 (by omega)]
  have hs := hp_at H n kMK (s, (ap : Int), ((an + 1 : Nat) : Int))
  refine refA_r (ldO_r hs (refA_r (ldO_r hs ?_)))
  dsimp only
  rw [h.sl]
  by_cases hl : an + 1 = gs.flatten.length
  · refine ifT (by rw [beq_iff_eq]; omega) (refA_r (ldO_r hs (refA_r (ldO_r (hp_at _ _ _ _) (refA_r (ldO_r (hp_at _ _ _ _) ?_))))))
    rw [hp_set2, hp_set2, hp_set2]
    exact yes hlt _ (.inr ⟨hl, ⟨hp_at _ _ _ _, rfl, fun _ => rfl, fun h => absurd rfl h, by simp, by simp, by simp, by simp⟩⟩) (FrM.set (FrM.refl H) fun o e => h.tag.1 e)
  · refine ifF (by rw [beq_eq_false_iff_ne]; omega) ?_
    exact yes hlt _ (.inl ⟨hl, ⟨hp_at _ _ _ _, h.sl, h.z, fun hg => ⟨(h.at0 hg).1, (hp_ne (Ne.symm n1)).trans (h.at0 hg).2⟩, h.ne, h.le, h.apl, by omega⟩⟩) (FrM.set (FrM.refl H) fun o e => h.tag.1 e))
theorem c_mapply (h : MAt H n b s gs ap an) (res : List Res) (hrl : res.length ≤ 1000) (K : HT [(false, .one (.int .i64))] → HP → Prop) (h10 : gs[ap]? = none → K (10, ()) H) (h1 : ∀ g, gs[ap]? = some g → res.length ≠ g.length → K (1, ()) H)
    (ok : ∀ g, gs[ap]? = some g → res.length = g.length → ∀ H', MAt H' n b s (gs.set ap (zipG g res)) (ap + 1) an → FrM H H' → K (0, ()) H') : C59 (some n) res H K := callA59 _ _ _ _ (by
  unfold A59
  refine retH_r _ (fun K' hk' => c_mnext h K' hk') ?_
  dsimp only
  have hR : (nxG gs ap).length = ((gs[ap]?).getD []).length := by unfold nxG; rw [List.length_map]
  rw [hR]
  refine lenA_i fun _ => ?_
  cases hg : gs[ap]? with
  | none => exact ifT rfl (h10 hg)
  | some g =>
    have hgm : g ∈ gs := List.mem_of_getElem? hg
    have hg0 := List.length_pos_iff.2 (h.ne g hgm)
    have hap := (List.getElem?_eq_some_iff.1 hg).1
    have hgs : gs ≠ [] := fun e => by rw [e] at hap; simp at hap
    obtain ⟨b1, b2⟩ := h.at0 hgs
    have n1 := h.nn hgs
    have hle := h.le
    have hf := h.few
    have hsucc := dnG_succ hg
    have hd1 := dnG_le gs (ap + 1)
    show ifB ((g.length : Int) == 0) _ _
    refine ifF (by rw [beq_eq_false_iff_ne]; omega) (lenA_i fun _ => ?_)
    show ifB ((res.length : Int) != (g.length : Int)) _ _
    by_cases hr : res.length = g.length
    case neg => exact ifT (by rw [bne_iff_ne]; omega) (h1 g hg hr)
    refine ifF (by simp [hr]) ?_
    have zl : ∀ j, (zipA g res j).length = g.length := fun j => zipA_len hr j
    have fl : ∀ j, (gs.set ap (zipA g res j)).flatten.length = gs.flatten.length := fun j => by rw [set_split hg, gs_split hg]; simp only [List.length_append, zl]
    refine loop_h gs.flatten.length (fun i v H' => v = ((some n, res, ((min (i - dnG gs ap) g.length : Nat) : Int), (i : Int), ()), ()) ∧ H' = H.set b (.arr kIU 159) (s, Lg (gs.set ap (zipA g res (min (i - dnG gs ap) g.length))))) ⟨by simp, ?_⟩ ?_
    · rw [Nat.zero_sub, Nat.zero_min, zipA_zero, set_self hg]; exact (hp_same b2).symm
    rintro i v H' C hi ⟨rfl, rfl⟩ hC
    dsimp only at hC ⊢
    generalize hjd : min (i - dnG gs ap) g.length = j at hC ⊢
    have hd : (H.set b (.arr kIU 159) (s, Lg (gs.set ap (zipA g res j)))) n = some ⟨kMK, (s, (ap : Int), (an : Int))⟩ := (hp_ne n1).trans h.hdr
    have ha : ArrAt (H.set b (.arr kIU 159) (s, Lg (gs.set ap (zipA g res j)))) b kIU 159 s (Lg (gs.set ap (zipA g res j))) := hp_at _ _ _ _
    refine refA_r (ldO_r hd ?_)
    dsimp only
    rw [h.sl]
    refine ifLt (fun h2 => ?_) fun h2 => ?_
    · have hlen : i < (Lg (gs.set ap (zipA g res j))).length := by rw [Lg_len, fl]; exact h2
      have same : j = min (i + 1 - dnG gs ap) g.length → ∀ u, (Lg (gs.set ap (zipA g res j)))[i]? = some u → u.2.1 ≠ (ap : Int) → refA (some n) fun i9 => ldO kMK i9 (H.set b (.arr kIU 159) (s, Lg (gs.set ap (zipA g res j)))) fun x10 => arrA x10.1 (i : Int) 15 fun x11 => ldE kIU x11 (H.set b (.arr kIU 159) (s, Lg (gs.set ap (zipA g res j)))) fun x12 => refA (some n) fun i13 => ldO kMK i13 (H.set b (.arr kIU 159) (s, Lg (gs.set ap (zipA g res j)))) fun x14 => ifB ((x12.2.1 : Int) == x14.2.1) (refA (some n) fun i15 => ldO kMK i15 (H.set b (.arr kIU 159) (s, Lg (gs.set ap (zipA g res j)))) fun x16 => atA res (j : Int) fun x17 => arrA x16.1 (i : Int) 15 fun x18 => stE kIU x18 (H.set b (.arr kIU 159) (s, Lg (gs.set ap (zipA g res j)))) fun x19 B20 => C ((some n, res, IntKind.i64.wrap ((j : Int) + 1), IntKind.i64.wrap ((i : Int) + 1), ()), ()) (B20 (x19.1, x19.2.1, x19.2.2.1, x17.1, x17.2.1, x17.2.2.1, x17.2.2.2.1, x17.2.2.2.2))) (C ((some n, res, (j : Int), IntKind.i64.wrap ((i : Int) + 1), ()), ()) (H.set b (.arr kIU 159) (s, Lg (gs.set ap (zipA g res j))))) := fun ej u hu hne => by
        refine refA_r (ldO_r hd (arrA_r (i := i) b1 rfl (by rw [h.sl]; exact h2) (ldE_r ha hu (refA_r (ldO_r hd (ifF (by rw [beq_eq_false_iff_ne]; exact hne) ?_))))))
        refine hC h2 _ _ ⟨by rw [w1 (by omega), ← ej], by rw [← ej]⟩
      have hsetl : (gs.set ap (zipA g res j)).length = gs.length := List.length_set
      rcases Nat.lt_or_ge i (dnG gs ap) with c1 | c1
      · obtain ⟨j', x, hu, _, hj⟩ := Lg_at (gs := gs.set ap (zipA g res j)) (ap := ap) (i := i) (by rw [hsetl]; omega) (by rw [fl]; exact h2)
        rw [dnG_set hg (zl j)] at hj
        exact same (by omega) _ hu (by have := hj.2 c1; show (j' : Int) ≠ (ap : Int); omega)
      · rcases Nat.lt_or_ge i (dnG gs (ap + 1)) with c2 | c2
        case inr =>
          obtain ⟨j', x, hu, _, hj⟩ := Lg_at (gs := gs.set ap (zipA g res j)) (ap := ap + 1) (i := i) (by rw [hsetl]; omega) (by rw [fl]; exact h2)
          rw [dnG_set hg (zl j)] at hj
          exact same (by omega) _ hu (by have : ¬ j' < ap + 1 := fun hc => by have := hj.1 hc; omega
                                         show (j' : Int) ≠ (ap : Int); omega)
        · have hj : j = i - dnG gs ap := by omega
          have hjl : j < g.length := by omega
          have hjr : j < res.length := by omega
          obtain ⟨z1, z2⟩ := zipA_step hr hjl
          have lP : (LgF 0 (gs.take ap)).length = dnG gs ap := LgF_len _ _
          have hu : (Lg (gs.set ap (zipA g res j)))[i]? = some (toU ap g[j]) := by
            rw [Lg_set hg, List.getElem?_append_right (by rw [lP]; exact c1), lP, ← hj, List.getElem?_append_left (by rw [List.length_map, zl]; exact hjl), List.getElem?_map, z1]; rfl
          refine refA_r (ldO_r hd (arrA_r (i := i) b1 rfl (by rw [h.sl]; exact h2) (ldE_r ha hu (refA_r (ldO_r hd (ifT (by rw [beq_iff_eq]; rfl) ?_))))))
          refine refA_r (ldO_r hd (atA_g rfl (List.getElem?_eq_getElem hjr) (arrA_r (i := i) b1 rfl (by rw [h.sl]; exact h2) (stE_r ha hu ?_))))
          dsimp only
          rw [hp_set2]
          have ej : j + 1 = min (i + 1 - dnG gs ap) g.length := by omega
          refine hC h2 _ _ ⟨by rw [w1 (by omega), w1 (by omega), ← ej], ?_⟩
          rw [← ej]
          congr 2
          rw [Lg_set hg, Lg_set hg, List.set_append_right _ _ (by rw [lP]; exact c1), lP, ← hj, List.set_append_left _ _ (by rw [List.length_map, zl]; exact hjl)]
          congr 2
          rw [← z2, List.map_set]
          rfl
    · obtain rfl : i = gs.flatten.length := by omega
      have hj : j = g.length := by omega
      subst hj
      rw [zipA_all hr] at hd ⊢
      refine refA_r (ldO_r hd (refA_r (ldO_r hd ?_)))
      dsimp only
      rw [w1 (by omega)]
      have zl' := zipG_len hr
      have fl' : (gs.set ap (zipG g res)).flatten.length = gs.flatten.length := by rw [← zipA_all hr]; exact fl _
      refine ok g hg hr _ ⟨hp_at _ _ _ _, by rw [h.sl, fl'], fun e => ?_, fun _ => ⟨b1, (hp_ne (Ne.symm n1)).trans (hp_at _ _ _ _)⟩, fun x hx => ?_, by rw [fl']; exact hle, by rw [List.length_set]; omega, ?_⟩ (FrM.set (FrM.set (FrM.refl H) fun o e => h.tag.2 hgs e) fun o e => h.tag.1 e)
      · have := congrArg List.length e; rw [List.length_set] at this; exact absurd (List.eq_nil_of_length_eq_zero this) hgs
      · rcases List.mem_or_eq_of_mem_set hx with hx | rfl
        · exact h.ne x hx
        · exact fun e => by rw [e] at zl'; simp at zl'; omega
      · rw [dnG_set hg zl']; exact Nat.le_trans h.anl (dnG_mono gs (Nat.le_succ ap)))
theorem c_mbegin (h : MAt H n b s gs ap an) (slots : List Int) (l : List Req) (hl : l.length ≤ 1000) (K : HT [(false, .one (.int .i64))] → HP → Prop) (h10 : gs ≠ [] → K (10, ()) H) (h1 : gs = [] → slots.length ≠ l.length ∨ fitJ slots l = false → K (1, ()) H)
    (h2 : gs = [] → slots.length = l.length → fitJ slots l = true → 32 < l.length → K (2, ()) H)
    (ok : gs = [] → slots.length = l.length → fitJ slots l = true → l.length ≤ 32 → ∀ H' b s, MAt H' n b s (bgG slots l) 0 0 → FrM H H' → K (0, ()) H') : C57 (some n) slots l H K := callA57 _ _ _ _ _ (by
  unfold A57
  refine refA_r (ldO_r h.hdr ?_)
  dsimp only
  rw [h.sl]
  by_cases hgs : gs = []
  case neg => exact ifT (decide_eq_true (by have := len_flat h.ne; have := List.length_pos_iff.2 hgs; omega)) (h10 hgs)
  refine ifF (decide_eq_false (by rw [hgs]; simp)) (lenA_i fun _ => lenA_i fun _ => ?_)
  by_cases hs : slots.length = l.length
  case neg => exact ifT (by rw [bne_iff_ne]; omega) (h1 hgs (.inl hs))
  refine ifF (by simp [hs]) (lenA_i fun _ => ?_)
  by_cases hl0 : l.length = 0
  · exact ifT (by rw [beq_iff_eq]; omega) (h1 hgs (.inr (by unfold fitJ; rw [decide_eq_false (by omega), Bool.false_and])))
  refine ifF (by rw [beq_eq_false_iff_ne]; omega) ?_
  refine loop_n l.length (fun i => ((some n, slots, l, (i : Int), ()), ())) (fun i => allN i (ftJ slots l) = true) rfl (by rfl) fun i C hi hP hC => ?_
  dsimp only
  refine lenA_i fun _ => ifLt (fun h3 => ?_) fun h3 => ?_
  · have hsl : i < slots.length := by omega
    have ef : ftJ slots l i = (mayQ l[i] && !decide (slots[i] ∈ slots.take i)) := by
      unfold ftJ; rw [List.getElem?_eq_getElem h3, List.getElem?_eq_getElem hsl]
    refine atA_lt h3 (retA_i _ (c_qmay _) ?_)
    refine loop_n i (fun k => ((some n, slots, l, (i : Int), mayQ l[i] && !decide (slots[i] ∈ slots.take k), (k : Int), ()), ())) (fun _ => True) (by simp) trivial fun k C' hk2 _ hC' => ?_
    dsimp only
    refine ifLt (fun h4 => ?_) fun h4 => ?_
    · have hsk : k < slots.length := by omega
      have nx := hC' h4 trivial
      rw [← w1 (by omega), take_snoc hsk] at nx
      cases hb : (mayQ l[i] && !decide (slots[i] ∈ slots.take k)) with
      | true =>
        refine ifT rfl (atA_lt hsk (atA_lt hsl ?_))
        rw [Bool.and_eq_true] at hb
        have hnm : slots[i] ∉ slots.take k := by simpa using hb.2
        have e : (mayQ l[i] && !decide (slots[i] ∈ slots.take k ++ [slots[k]])) = (slots[k] != slots[i]) := by
          rw [hb.1, Bool.true_and, Bool.eq_iff_iff]
          simp only [Bool.not_eq_true', decide_eq_false_iff_not, List.mem_append, List.mem_singleton, bne_iff_ne]
          exact ⟨fun h e => h (.inr e.symm), fun h e => e.elim hnm fun e => h e.symm⟩
        rw [e] at nx; exact nx
      | false =>
        refine ifF rfl ?_
        have e : (mayQ l[i] && !decide (slots[i] ∈ slots.take k ++ [slots[k]])) = false := by
          cases hm : mayQ l[i] with
          | false => rfl
          | true =>
            rw [hm, Bool.true_and, Bool.not_eq_false', decide_eq_true_eq] at hb
            rw [Bool.true_and, Bool.not_eq_false', decide_eq_true_eq]
            exact List.mem_append_left _ hb
        rw [e] at nx; exact nx
    · obtain rfl : k = i := by omega
      rw [← ef]
      cases hf : ftJ slots l k with
      | false => exact ifT rfl (h1 hgs (.inr (by unfold fitJ; rw [allN_false h3 hf, Bool.and_false])))
      | true =>
        refine ifF rfl ?_
        rw [w1 (by omega)]
        exact hC h3 (by rw [allN_snoc, hP, hf]; rfl)
  · obtain rfl : i = l.length := by omega
    have hf : fitJ slots l = true := by unfold fitJ; rw [hP, decide_eq_true (by omega)]; rfl
    refine lenA_i fun _ => ?_
    by_cases hb : 32 < l.length
    · exact ifT (decide_eq_true (by omega)) (h2 hgs hs hf hb)
    refine ifF (decide_eq_false (by omega)) (retA_i _ (c_rgroups l hl) (refA_r (ldO_r h.hdr ?_)))
    have z := h.z hgs
    obtain ⟨rfl, rfl⟩ := h.nil' hgs
    refine ⟨[], H.del n, .inl ⟨z, rfl, rfl⟩, ?_⟩
    have gok := grpL_ok l
    have hbl : (bgG slots l).length = (grpL l).length := by unfold bgG; rw [List.length_map]
    have hbt := bgG_len slots l
    have hTl : (grpL l).length ≤ 32 := by have := gok.len; omega
    refine loop_n (grpL l).length (fun i => (((), slots, l, grpL l, (i : Int), ()), (LgF 0 ((bgG slots l).take i), 0, 0, ()), ())) (fun _ => True) (by simp [LgF]) trivial fun i C hi _ hC => ?_
    dsimp only
    refine lenA_i fun _ => ifLt (fun h3 => ?_) fun h3 => ?_
    · have e2 : (grpL l)[i]? = some (grpL l)[i] := List.getElem?_eq_getElem h3
      have e3 : (bgG slots l)[i]? = some ((grpL l)[i].map (bgI slots l)) := by unfold bgG; rw [List.getElem?_map, e2]; rfl
      have hgok := gok.ok (grpL l)[i] (List.getElem_mem h3)
      have nx := hC h3 trivial
      have hbk : i < (bgG slots l).length := by omega
      have e4 : (bgG slots l)[i] = (grpL l)[i].map (bgI slots l) := by rw [List.getElem?_eq_getElem hbk] at e3; injection e3
      rw [take_snoc hbk, LgF_app, e4, LgF, LgF, List.append_nil, List.length_take, Nat.zero_add, Nat.min_eq_left (by omega), ← w1 (by omega)] at nx
      generalize (grpL l)[i] = g at e2 e3 hgok nx
      have hsucc := dnG_succ e3
      rw [List.length_map] at hsucc
      refine loop_n g.length (fun j => (((), slots, l, grpL l, (i : Int), (j : Int), ()), (LgF 0 ((bgG slots l).take i) ++ ((g.take j).map (bgI slots l)).map (toU i), 0, 0, ()), ())) (fun _ => True) (by simp) trivial fun j C' hj _ hC' => ?_
      dsimp only
      refine atA_g rfl e2 (lenA_i fun _ => ifLt (fun h4 => ?_) fun h4 => ?_)
      · have hq := hgok g[j] (List.getElem_mem h4)
        obtain ⟨jj, ej, r1, r2⟩ := bgI_at hs hq
        have hpre := dn_pre (bgG slots l) e3 (j := j) (by rw [List.length_map]; omega)
        have hd : (LgF 0 ((bgG slots l).take i)).length = dnG (bgG slots l) i := LgF_len _ _
        have eg := List.getElem?_eq_getElem h4
        refine atA_g rfl e2 (atA_g rfl eg (atA_g ej r1 (atA_g rfl e2 (atA_g rfl eg (atA_g ej r2 (appA_i (by rw [List.length_append, List.length_map, List.length_map, List.length_take]; omega) ⟨rfl, ?_⟩))))))
        have := hC' h4 trivial
        rw [take_snoc h4, List.map_append, List.map_append, ← List.append_assoc, ← w1 (by omega)] at this
        exact this
      · obtain rfl : j = g.length := by omega
        rw [List.take_length]
        exact ⟨rfl, nx⟩
    · obtain rfl : i = (grpL l).length := by omega
      rw [← hbl, List.take_length]
      have hne : bgG slots l ≠ [] := fun e => by rw [e] at hbt; simp at hbt; omega
      have hfn : LgF 0 (bgG slots l) ≠ [] := fun e => by have := LgF_len 0 (bgG slots l); rw [e, hbt, List.length_nil] at this; omega
      refine pubA_r hfn fun s' b' hb' hs' hnb => ?_
      have nb : n ≠ b' := fun e => hnb _ hs'.at0 e.symm
      have := ok hgs hs hf (by omega) (((H.del n).set b' (.arr kIU 159) (s', Lg (bgG slots l))).set n kMK (s', ((0 : Nat) : Int), ((0 : Nat) : Int))) b' s' ?_ ?_
      · exact this
      · exact ⟨hp_at _ _ _ _, hs'.len.trans (LgF_len _ _), fun e => absurd e hne, fun _ => ⟨hs'.at0, (hp_ne (Ne.symm nb)).trans (hp_at _ _ _ _)⟩, bgG_ne, by rw [hbt]; omega, Nat.zero_le _, Nat.zero_le _⟩
      · intro m o hm ho
        have m1 : m ≠ n := fun e => by subst e; exact h.tag.1 hm ho
        have m2 : (H.del n) m = some o := by show (if m = n then none else H m) = _; rw [if_neg m1]; exact hm
        have m4 : m ≠ b' := fun e => by subst e; rw [hb'] at m2; cases m2
        rw [hp_ne m1, hp_ne m4]; exact m2)
end
end Go.Proofs.Ytalniaipgdbbcaa
