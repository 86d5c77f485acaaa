/-
  The journal, over data: the program's own functions.
-/
import Derived.Test.YtalniaipgdbbcaaDjour
import Derived.Test.YtalniaipgdbbcaaSlot3
import Derived.Test.YtalniaipgdbbcaaElord2
import Derived.Test.YtalniaipgdbbcaaKt
set_option linter.unusedSimpArgs false
set_option linter.unusedVariables false
namespace Go.Proofs.Ytalniaipgdbbcaa
open Go Go.Gp Go.Ga Go.Th
def tagK : AK → Nat
  | .arr (.one _) _ => 1
  | .arr (.cons _ (.cons (.cons _ _) _)) _ => 1
  | .cons (.one .sl) (.cons (.one .sl) _) => 1
  | _ => 0
def FrJ (H H' : HP) : Prop := ∀ m o, H m = some o → tagK o.k ≠ 1 → H' m = some o
theorem FrJ.refl (H : HP) : FrJ H H := fun _ _ h _ => h
theorem FrJ.trans {H H' H'' : HP} (h : FrJ H H') (h' : FrJ H' H'') : FrJ H H'' := fun m o h1 h2 => h' m o (h m o h1 h2) h2
theorem FrJ.set {H H' : HP} (h : FrJ H H') {n : Nat} {k : AK} {x : k.T} (hn : ∀ o, H n = some o → tagK o.k = 1) : FrJ H (H'.set n k x) := fun m o h1 h2 => by
  have : m ≠ n := fun e => by subst e; exact h2 (hn o h1)
  rw [hp_ne this]; exact h m o h1 h2
structure JAt (H : HP) (n b be : Nat) (s se : Sl) (gs : List (List Itm)) (ap an : Nat) : Prop where
  hdr : H n = some ⟨kJK, (s, se, (ap : Int), (an : Int))⟩
  sl : s.len = gs.flatten.length
  el : se.len = gs.length
  cap : s.len ≤ s.cap
  z : gs = [] → s = ⟨none, 0, 0⟩ ∧ se = ⟨none, 0, 0⟩
  at0 : gs ≠ [] → s.a = some ⟨b, 0, none⟩ ∧ ArrAt H b kIT 156 s gs.flatten ∧ se.a = some ⟨be, 0, none⟩ ∧ ArrAt H be IK 3 se (endsG gs)
  ne : ∀ g ∈ gs, g ≠ []
  le : gs.flatten.length ≤ 32
  apl : ap ≤ gs.length
  anl : an ≤ dnG gs ap
  short : ∀ g ∈ gs, ∀ x ∈ g, shortQ x.2.1 ∧ shortA x.2.2
theorem len_flat : ∀ {gs : List (List Itm)}, (∀ g ∈ gs, g ≠ []) → gs.length ≤ gs.flatten.length
  | [], _ => by simp
  | g :: gs, h => by
    have h1 := len_flat (gs := gs) fun a ha => h a (List.mem_cons_of_mem _ ha)
    have h2 := List.length_pos_iff.2 (h g List.mem_cons_self)
    rw [List.flatten_cons, List.length_append, List.length_cons]; omega
section
variable {H : HP} {n b be : Nat} {s se : Sl} {gs : List (List Itm)} {ap an : Nat}
theorem JAt.few (h : JAt H n b be s se gs ap an) : gs.length ≤ 32 := Nat.le_trans (len_flat h.ne) h.le
theorem JAt.dn (h : JAt H n b be s se gs ap an) (k : Nat) : dnG gs k ≤ 32 := Nat.le_trans (dnG_le gs k) h.le
theorem JAt.nn (h : JAt H n b be s se gs ap an) (hg : gs ≠ []) : n ≠ b ∧ n ≠ be ∧ b ≠ be := by
  obtain ⟨_, a2, _, a4⟩ := h.at0 hg
  have h1 := h.hdr
  refine ⟨fun e => ?_, fun e => ?_, fun e => ?_⟩
  · rw [e, show H b = _ from a2] at h1; injection h1 with h1; injection h1 with h1; cases h1
  · rw [e, show H be = _ from a4] at h1; injection h1 with h1; injection h1 with h1; cases h1
  · rw [e] at a2; have := (show H be = _ from a2).symm.trans (show H be = _ from a4); injection this with h1; injection h1 with h1; injection h1 with h1; cases h1
theorem c_jnew (H : HP) (K : HT [(false, .ref)] → HP → Prop) (hk : ∀ n H', JAt H' n 0 0 ⟨none, 0, 0⟩ ⟨none, 0, 0⟩ [] 0 0 → H.le H' → K (some n, ()) H') : C49 H K := callA49 _ _ (by
  unfold A49
  intro n hn
  exact hk n _ ⟨hp_at _ _ _ _, rfl, rfl, Nat.le_refl _, fun _ => ⟨rfl, rfl⟩, fun h => absurd rfl h, by simp, by simp, by simp, by simp, by simp⟩ (hp_le_new hn))
theorem c_jopen (h : JAt H n b be s se gs ap an) (K : HT [(false, .one .bool)] → HP → Prop) (hk : K (decide (gs ≠ []), ()) H) : C51 (some n) H K := callA51 _ _ _ (by
  unfold A51
  refine refA_r (ldO_r h.hdr ?_)
  have e : decide (((s.len : Nat) : Int) > 0) = decide (gs ≠ []) := by
    rw [Bool.eq_iff_iff, decide_eq_true_eq, decide_eq_true_eq, h.sl]
    have := len_flat h.ne
    constructor
    · intro h1 h2; rw [h2] at h1; simp at h1
    · intro h1; have := List.length_pos_iff.2 h1; omega
  show K (decide (((s.len : Nat) : Int) > 0), ()) H
  rw [e]; exact hk)
theorem c_jdone (h : JAt H n b be s se gs ap an) (K : HT [(false, .one (.int .i64))] → HP → Prop) (hk : K ((dnG gs ap : Int), ()) H) : C99 (some n) H K := callA99 _ _ _ (by
  unfold A99
  have hf := h.few
  have hl := h.apl
  refine refA_r (ldO_r h.hdr ?_)
  by_cases h0 : ap = 0
  · subst h0; rw [dnG_zero] at hk; exact ifT rfl hk
  · have hgs : gs ≠ [] := fun e => by rw [e] at hl; simp at hl; exact h0 hl
    obtain ⟨_, _, a3, a4⟩ := h.at0 hgs
    refine ifF (by simp; omega) (refA_r (ldO_r h.hdr (refA_r (ldO_r h.hdr ?_))))
    refine arrA_r (i := ap - 1) a3 (by dsimp only; rw [wI (by omega) (by omega)]; omega) (by rw [h.el]; omega) (ldE_r a4 (endsG_at (by omega)) ?_)
    rw [show ap - 1 + 1 = ap from by omega]; exact hk)
theorem c_jleft (h : JAt H n b be s se gs ap an) (K : HT [(false, .one (.int .i64)), (false, .one (.int .i64))] → HP → Prop) (hk : K (((gs.flatten.length - dnG gs ap : Nat) : Int), ((gs.flatten.length - an : Nat) : Int), ()) H) : C61 (some n) H K := callA61 _ _ _ (by
  unfold A61
  have h1 := dnG_le gs ap
  have h2 := h.anl
  have h3 := h.le
  refine refA_r (ldO_r h.hdr (retH_r _ (fun K' hk' => c_jdone h K' hk') (refA_r (ldO_r h.hdr (refA_r (ldO_r h.hdr ?_))))))
  dsimp only
  rw [h.sl, wI (by omega) (by omega), wI (by omega) (by omega), show (gs.flatten.length : Int) - (dnG gs ap : Int) = ((gs.flatten.length - dnG gs ap : Nat) : Int) from by omega, show (gs.flatten.length : Int) - (an : Int) = ((gs.flatten.length - an : Nat) : Int) from by omega]
  exact hk)
def grpS (s : Sl) (gs : List (List Itm)) (ap : Nat) : Sl := if ap = gs.length then ⟨none, 0, 0⟩ else ⟨if s.cap = dnG gs ap then s.a else s.a.map (·.add (dnG gs ap * 14)), dnG gs (ap + 1) - dnG gs ap, s.cap - dnG gs ap⟩
theorem grp_len (h : JAt H n b be s se gs ap an) : (grpS s gs ap).len = ((gs[ap]?).getD []).length := by
  unfold grpS
  split
  · rename_i e; rw [e]; simp
  · rename_i e
    have hl := h.apl
    have hg : gs[ap]? = some gs[ap] := List.getElem?_eq_getElem (by omega)
    rw [dnG_succ hg, hg]
    simp
theorem grp_at (h : JAt H n b be s se gs ap an) {g : List Itm} (hg : gs[ap]? = some g) : (grpS s gs ap).a = some ⟨b, dnG gs ap * 14, none⟩ ∧ gs ≠ [] := by
  obtain ⟨hk, e⟩ := List.getElem?_eq_some_iff.1 hg
  have hne : gs ≠ [] := fun e => by rw [e] at hk; simp at hk
  obtain ⟨a1, _⟩ := h.at0 hne
  have h1 := dnG_succ hg
  have h2 := dnG_le gs (ap + 1)
  have h3 := List.length_pos_iff.2 (h.ne g (e ▸ List.getElem_mem hk))
  have h4 := h.cap
  rw [h.sl] at h4
  unfold grpS
  rw [if_neg (by omega), if_neg (by omega), a1]
  refine ⟨?_, hne⟩
  show some ((Addr.mk b 0 none).add (dnG gs ap * 14)) = _
  rw [addr_add, Nat.zero_add]
theorem arrA_o {s : Sl} {m : Int} {b o i sz : Nat} {K : Addr → Prop} (hs : s.a = some ⟨b, o * sz, none⟩) (hm : m = (i : Int)) (hi : i < s.len) (h : K (elAd b (o + i) sz)) : arrA s m sz K := by
  subst hm
  refine ⟨by omega, by omega, _, hs, ?_⟩
  rw [addr_add, Int.toNat_natCast, ← Nat.add_mul]; exact h
theorem c_jgroup (h : JAt H n b be s se gs ap an) (K : HT [(false, .one .sl)] → HP → Prop) (hk : K (grpS s gs ap, ()) H) : C97 (some n) H K := callA97 _ _ _ (by
  unfold A97
  have hf := h.few
  have hl := h.apl
  refine refA_r (ldO_r h.hdr (refA_r (ldO_r h.hdr ?_)))
  dsimp only
  rw [h.el]
  unfold grpS at hk
  by_cases e : ap = gs.length
  · rw [if_pos e] at hk
    exact ifT (by rw [beq_iff_eq]; omega) hk
  · rw [if_neg e] at hk
    have hgs : gs ≠ [] := fun e' => by rw [e'] at hl e; simp at hl e; exact e hl
    obtain ⟨_, _, a3, a4⟩ := h.at0 hgs
    refine ifF (by rw [beq_eq_false_iff_ne]; omega) (refA_r (ldO_r h.hdr (retH_r _ (fun K' hk' => c_jdone h K' hk') (refA_r (ldO_r h.hdr (refA_r (ldO_r h.hdr ?_)))))))
    refine arrA_r (i := ap) a3 rfl (by rw [h.el]; omega) (ldE_r a4 (endsG_at (by omega)) ?_)
    have h1 := dnG_mono gs (show ap ≤ ap + 1 from by omega)
    have h2 := dnG_le gs (ap + 1)
    have h3 := h.cap
    rw [h.sl] at h3
    refine ⟨by dsimp only; omega, by dsimp only; omega, by dsimp only; omega, ?_⟩
    simp only [Int.toNat_natCast]
    exact hk)
theorem c_jasked (r : Req) (hr : shortQ r) : S96 r (r, ()) := pure96 r fun H K hk => by
  unfold A96
  obtain ⟨h1, h2, h3, h4⟩ := hr
  exact retA_i _ (c_bclone _ (by show r.key.length ≤ _; omega)) (retA_i _ (c_bclone _ (by show r.val.length ≤ _; omega)) (retA_i _ (c_bclone _ (by show r.old.length ≤ _; omega)) (retA_i _ (c_bclone _ (by show r.to.length ≤ _; omega)) hk)))
theorem c_jtold (a : Res) (ha : shortA a) : S98 a (a, ()) := pure98 a fun H K hk => by
  obtain ⟨h1, h2, h3⟩ := ha
  obtain ⟨c, f, v, l, st⟩ := a
  simp only at h1 h2 h3
  unfold A98
  refine retA_i _ (c_bclone _ (by show v.length ≤ _; omega)) (lenA_i fun _ => ?_)
  refine loop_n l.length (fun i => (((), (), l, (l.length : Int), (i : Int), ()), (c, f, v, l.take i, st, ()), (0, false, (), (), 0, ()), ())) (fun _ => True) (by simp) trivial fun i C hi _ hC => ?_
  dsimp only at hC ⊢
  refine ifLt (fun hlt => ?_) fun hge => ?_
  · have hp := h3 _ (List.getElem_mem hlt)
    refine atA_lt hlt (retA_i _ (c_bclone _ (by omega)) (retA_i _ (c_bclone _ (by omega)) (appA_i (by rw [List.length_take]; omega) ?_)))
    rw [w1 (by omega)]
    have := hC hlt trivial
    rw [take_snoc hlt] at this
    exact this
  · obtain rfl : i = l.length := by omega
    rw [List.take_length]; exact hk
def nxG (gs : List (List Itm)) (ap : Nat) : List Req := ((gs[ap]?).getD []).map fun x => x.2.1
theorem flat_at {gs : List (List Itm)} {k i : Nat} {g : List Itm} {x : Itm} (hg : gs[k]? = some g) (hx : g[i]? = some x) : gs.flatten[dnG gs k + i]? = some x := by
  obtain ⟨hi, _⟩ := List.getElem?_eq_some_iff.1 hx
  rw [gs_split hg]
  unfold dnG
  rw [List.getElem?_append_right (by omega), show (gs.take k).flatten.length + i - (gs.take k).flatten.length = i from by omega, List.getElem?_append_left hi]
  exact hx
theorem grp_le (h : JAt H n b be s se gs ap an) {g : List Itm} (hg : gs[ap]? = some g) : g.length ≤ 32 := by
  have h1 := dnG_succ hg
  have h2 := h.dn (ap + 1)
  omega
theorem c_jnext (h : JAt H n b be s se gs ap an) (K : HT [(false, .row kRQ)] → HP → Prop) (hk : K (nxG gs ap, ()) H) : C52 (some n) H K := callA52 _ _ _ (by
  unfold A52
  refine retH_r _ (fun K' hk' => c_jgroup h K' hk') ?_
  dsimp only
  rw [grp_len h]
  unfold nxG at hk
  cases hg : gs[ap]? with
  | none =>
    rw [hg] at hk
    refine loop_n 0 (fun i => (([], grpS s gs ap, 0, 0, ()), ())) (fun _ => True) rfl trivial fun i C hi _ hC => ifF rfl hk
  | some g =>
    rw [hg] at hk
    have hgm : g ∈ gs := List.mem_of_getElem? hg
    have hl := grp_len h
    rw [hg] at hl
    have hl : (grpS s gs ap).len = g.length := hl
    have hgl := grp_le h hg
    obtain ⟨a1, a2⟩ := grp_at h hg
    obtain ⟨_, a3, _, _⟩ := h.at0 a2
    show LoopA (([], grpS s gs ap, (g.length : Int), 0, ()), ()) _ _
    refine loop_n g.length (fun i => (((g.take i).map fun x => x.2.1, grpS s gs ap, (g.length : Int), (i : Int), ()), ())) (fun _ => True) rfl trivial fun i C hi _ hC => ?_
    dsimp only
    refine ifLt (fun h1 => ?_) fun h1 => ?_
    · have hsh := (h.short g hgm g[i] (List.getElem_mem h1)).1
      refine arrA_o (b := b) (o := dnG gs ap) (i := i) a1 rfl (by rw [hl]; exact h1) (ldE_r a3 (flat_at hg (List.getElem?_eq_getElem h1)) (retA_i _ (c_jasked _ hsh) (appA_i (by simp; omega) ?_)))
      have := hC h1 trivial
      rw [take_snoc h1, List.map_append] at this
      rw [w1 (by omega)]
      exact this
    · obtain rfl : i = g.length := by omega
      rw [List.take_length]; exact hk)
def rdG (gs : List (List Itm)) (ap an : Nat) : Int × Res × Bool := if dnG gs ap ≤ an then (0, zRes, false) else match gs.flatten[an]? with | some x => (x.1, x.2.2, true) | none => (0, zRes, false)
theorem flat_mem {gs : List (List Itm)} {i : Nat} {x : Itm} (h : gs.flatten[i]? = some x) : ∃ g ∈ gs, x ∈ g := List.mem_flatten.1 (List.mem_of_getElem? h)
theorem rdG_some (h : JAt H n b be s se gs ap an) (hlt : an < dnG gs ap) : ∃ x, gs.flatten[an]? = some x ∧ rdG gs ap an = (x.1, x.2.2, true) := by
  have h1 := dnG_le gs ap
  have hx : gs.flatten[an]? = some gs.flatten[an] := List.getElem?_eq_getElem (by omega)
  refine ⟨_, hx, ?_⟩
  unfold rdG
  rw [if_neg (by omega), hx]
theorem c_jready (h : JAt H n b be s se gs ap an) (K : HT [(false, .one (.int .i64)), (true, kRS), (false, .one .bool)] → HP → Prop) (hk : K ((rdG gs ap an).1, (rdG gs ap an).2.1, (rdG gs ap an).2.2, ()) H) : C54 (some n) H K := callA54 _ _ _ (by
  unfold A54
  refine refA_r (ldO_r h.hdr (retH_r _ (fun K' hk' => c_jdone h K' hk') ?_))
  dsimp only
  by_cases hlt : dnG gs ap ≤ an
  · unfold rdG at hk
    rw [if_pos hlt] at hk
    exact ifT (decide_eq_true (by omega)) hk
  · obtain ⟨x, hx, e⟩ := rdG_some h (by omega)
    rw [e] at hk
    have h1 := dnG_le gs ap
    have hgs : gs ≠ [] := fun e' => by rw [e'] at hlt; simp [dnG] at hlt
    obtain ⟨a1, a3, _, _⟩ := h.at0 hgs
    obtain ⟨g, hg, hxg⟩ := flat_mem hx
    refine ifF (decide_eq_false (by omega)) (refA_r (ldO_r h.hdr (refA_r (ldO_r h.hdr ?_))))
    exact arrA_r (i := an) a1 rfl (by rw [h.sl]; omega) (ldE_r a3 hx (retA_i _ (c_jtold _ (h.short g hg x hxg).2) hk)))
theorem JAt.tag (h : JAt H n b be s se gs ap an) {o : OB} : (H n = some o → tagK o.k = 1) ∧ (gs ≠ [] → H b = some o → tagK o.k = 1) := by
  refine ⟨fun e => by rw [h.hdr] at e; injection e with e; subst e; rfl, fun hg e => ?_⟩
  obtain ⟨_, a2, _, _⟩ := h.at0 hg
  rw [show H b = _ from a2] at e; injection e with e; subst e; rfl
theorem c_japply (h : JAt H n b be s se gs ap an) (res : List Res) (hres : ∀ a ∈ res, shortA a) (hrl : res.length ≤ 1000) (K : HT [(false, .one .any)] → HP → Prop) (h10 : gs[ap]? = none → K (er 10, ()) H) (h1 : ∀ g, gs[ap]? = some g → res.length ≠ g.length → K (er 1, ()) H)
    (ok : ∀ g, gs[ap]? = some g → res.length = g.length → ∀ H', JAt H' n b be s se (gs.set ap (zipG g res)) (ap + 1) an → FrJ H H' → K (er 0, ()) H') : C53 (some n) res H K := callA53 _ _ _ _ (by
  unfold A53
  refine retH_r _ (fun K' hk' => c_jgroup h K' hk') ?_
  dsimp only
  rw [grp_len h]
  cases hg : gs[ap]? with
  | none =>
    refine ifT rfl ?_
    rw [er_of (by decide)]; exact h10 hg
  | some g =>
    have hgm : g ∈ gs := List.mem_of_getElem? hg
    have hg0 := List.length_pos_iff.2 (h.ne g hgm)
    have hl := grp_len h
    rw [hg] at hl
    have hl : (grpS s gs ap).len = g.length := hl
    have hgl := grp_le h hg
    obtain ⟨a1, a2⟩ := grp_at h hg
    obtain ⟨b1, b2, b3, b4⟩ := h.at0 a2
    obtain ⟨n1, n2, n3⟩ := h.nn a2
    have hap := (List.getElem?_eq_some_iff.1 hg).1
    have hf := h.few
    show ifB ((g.length : Int) == 0) _ _
    refine ifF (by rw [beq_eq_false_iff_ne]; omega) (lenA_i fun _ => ?_)
    show ifB ((res.length : Int) != (g.length : Int)) _ _
    by_cases hr : res.length = g.length
    case neg =>
      refine ifT (by rw [bne_iff_ne]; omega) ?_
      rw [er_of (by decide)]; exact h1 g hg hr
    refine ifF (by simp [hr]) (lenA_i fun _ => ?_)
    have sp := gs_split hg
    refine loop_h g.length (fun i v H' => v = ((some n, grpS s gs ap, res, (res.length : Int), (i : Int), ()), ()) ∧ H' = H.set b (.arr kIT 156) (s, (gs.take ap).flatten ++ (zipA g res i ++ (gs.drop (ap + 1)).flatten))) ⟨rfl, ?_⟩ ?_
    · rw [zipA_zero, ← sp]; exact (hp_same b2).symm
    rintro i v H' C hi ⟨rfl, rfl⟩ hC
    dsimp only at hC ⊢
    rw [hr]
    refine ifLt (fun h2 => ?_) fun h2 => ?_
    · have hir : i < res.length := by omega
      obtain ⟨z1, z2⟩ := zipA_step hr h2
      have hzl := zipA_len hr i
      refine atA_g rfl (List.getElem?_eq_getElem hir) (retA_i _ (c_jtold _ (hres _ (List.getElem_mem hir))) ?_)
      refine arrA_o (b := b) (o := dnG gs ap) (i := i) a1 rfl (by rw [hl]; exact h2) (stE_r (hp_at _ _ _ _) (x := g[i]) ?_ ?_)
      · unfold dnG
        rw [List.getElem?_append_right (by omega), show (gs.take ap).flatten.length + i - (gs.take ap).flatten.length = i from by omega, List.getElem?_append_left (by omega)]
        exact z1
      · dsimp only
        rw [hp_set2]
        refine hC h2 _ _ ⟨by rw [w1 (by omega), hr], ?_⟩
        congr 2
        unfold dnG
        rw [List.set_append_right _ _ (by omega), show (gs.take ap).flatten.length + i - (gs.take ap).flatten.length = i from by omega, List.set_append_left _ _ (by omega)]
        rw [← z2]
    · obtain rfl : i = g.length := by omega
      rw [zipA_all hr, ← set_split (g' := zipG g res) hg]
      have hd : (H.set b (.arr kIT 156) (s, (gs.set ap (zipG g res)).flatten)) n = some ⟨kJK, (s, se, (ap : Int), (an : Int))⟩ := (hp_ne n1).trans h.hdr
      refine refA_r (ldO_r hd (refA_r (ldO_r hd ?_)))
      dsimp only
      rw [w1 (by omega)]
      have zl := zipG_len hr
      have fl : (gs.set ap (zipG g res)).flatten.length = gs.flatten.length := by rw [set_split hg, sp]; simp only [List.length_append, zl]
      have := ok g hg hr ((H.set b (.arr kIT 156) (s, (gs.set ap (zipG g res)).flatten)).set n kJK (s, se, ((ap + 1 : Nat) : Int), (an : Int))) ?_ ?_
      · rw [show er 0 = Value.nilIface from rfl] at this; exact this
      · refine ⟨hp_at _ _ _ _, by rw [h.sl, fl], by rw [h.el, List.length_set], h.cap, fun e => ?_, fun _ => ⟨b1, (hp_ne (Ne.symm n1)).trans (hp_at _ _ _ _), b3, ?_⟩, fun x hx => ?_, by rw [fl]; exact h.le, by rw [List.length_set]; omega, ?_, fun x hx => ?_⟩
        · have := congrArg List.length e; rw [List.length_set] at this; exact absurd (List.eq_nil_of_length_eq_zero this) a2
        · rw [endsG_set hg zl]
          exact (hp_ne (Ne.symm n2)).trans ((hp_ne (Ne.symm n3)).trans b4)
        · rcases List.mem_or_eq_of_mem_set hx with hx | rfl
          · exact h.ne x hx
          · exact fun e => by rw [e] at zl; simp at zl; omega
        · rw [dnG_set hg zl]; exact Nat.le_trans h.anl (dnG_mono gs (Nat.le_succ ap))
        · rcases List.mem_or_eq_of_mem_set hx with hx | rfl
          · exact h.short x hx
          · intro y hy
            unfold zipG at hy
            obtain ⟨i, hi, rfl⟩ := List.getElem_of_mem hy
            rw [List.getElem_zipWith]
            exact ⟨(h.short g hgm _ (List.getElem_mem _)).1, hres _ (List.getElem_mem _)⟩
      · exact FrJ.set (FrJ.set (FrJ.refl H) fun o e => h.tag.2 a2 e) fun o e => h.tag.1 e)
theorem c_janswered (h : JAt H n b be s se gs ap an) (K : HT [(false, .one .any)] → HP → Prop) (h10 : dnG gs ap ≤ an → K (er 10, ()) H)
    (mid : an < dnG gs ap → an + 1 ≠ gs.flatten.length → ∀ H', JAt H' n b be s se gs ap (an + 1) → FrJ H H' → K (er 0, ()) H')
    (fin : an < dnG gs ap → an + 1 = gs.flatten.length → ∀ H', JAt H' n 0 0 ⟨none, 0, 0⟩ ⟨none, 0, 0⟩ [] 0 0 → FrJ H H' → K (er 0, ()) H') : C55 (some n) H K := callA55 _ _ _ (by
  unfold A55
  refine retH_r _ (fun K' hk' => c_jready h K' hk') ?_
  dsimp only
  by_cases hlt : dnG gs ap ≤ an
  · have e : rdG gs ap an = (0, zRes, false) := by unfold rdG; rw [if_pos hlt]
    rw [e]
    refine ifT rfl ?_
    rw [er_of (by decide)]; exact h10 hlt
  · obtain ⟨x, hx, e⟩ := rdG_some h (by omega)
    rw [e]
    have hd := h.dn ap
    have hgs : gs ≠ [] := fun e' => by rw [e'] at hlt; simp [dnG] at hlt
    obtain ⟨n1, n2, n3⟩ := h.nn hgs
    refine ifF rfl (refA_r (ldO_r h.hdr (refA_r (ldO_r h.hdr ?_))))
    dsimp only
    rw [w1 (by omega)]
    have hs := hp_at H n kJK (s, se, (ap : Int), ((an + 1 : Nat) : Int))
    refine refA_r (ldO_r hs (refA_r (ldO_r hs ?_)))
    dsimp only
    rw [h.sl]
    by_cases hl : an + 1 = gs.flatten.length
    · refine ifT (by rw [beq_iff_eq]; omega) (refA_r (ldO_r hs ?_))
      rw [hp_set2]
      have := fin (by omega) hl (H.set n kJK (⟨none, 0, 0⟩, ⟨none, 0, 0⟩, 0, 0)) ⟨hp_at _ _ _ _, rfl, rfl, Nat.le_refl _, fun _ => ⟨rfl, rfl⟩, fun h => absurd rfl h, by simp, by simp, by simp, by simp, by simp⟩ (FrJ.set (FrJ.refl H) fun o e => h.tag.1 e)
      exact this
    · refine ifF (by rw [beq_eq_false_iff_ne]; omega) ?_
      have := mid (by omega) hl (H.set n kJK (s, se, (ap : Int), ((an + 1 : Nat) : Int))) ⟨hp_at _ _ _ _, h.sl, h.el, h.cap, h.z, fun hg => by obtain ⟨b1, b2, b3, b4⟩ := h.at0 hg; exact ⟨b1, (hp_ne (Ne.symm n1)).trans b2, b3, (hp_ne (Ne.symm n2)).trans b4⟩, h.ne, h.le, h.apl, by omega, h.short⟩ (FrJ.set (FrJ.refl H) fun o e => h.tag.1 e)
      exact this)
end
end Go.Proofs.Ytalniaipgdbbcaa
