/-
  The journal is begun; JournalOnce.
-/
import Derived.Test.YtalniaipgdbbcaaDjlaw
import Derived.Test.YtalniaipgdbbcaaJour1
set_option linter.unusedSimpArgs false
set_option linter.unusedVariables false
namespace Go.Proofs.Ytalniaipgdbbcaa
open Go Go.Gp Go.Ga Go.Th
theorem allN_at {n j : Nat} {f : Nat → Bool} (h : allN n f = true) (hj : j < n) : f j = true := by
  cases e : f j with
  | true => rfl
  | false => rw [allN_false hj e] at h; cases h
theorem c_jfit (slots : List Int) (l : List Req) (hs : slots.length = l.length) : S95 slots l (fitJ slots l, ()) := pure95 slots l fun H K hk => by
  unfold A95
  refine lenA_i fun hlen => ?_
  refine loop_n l.length (fun i => ((slots, l, l, (l.length : Int), (i : Int), ()), ())) (fun i => allN i (ftJ slots l) = true) rfl (by rfl) fun i C hi hP hC => ?_
  dsimp only
  refine ifLt (fun h1 => ?_) fun h1 => ?_
  · have hsl : i < slots.length := by omega
    have no : ftJ slots l i = false → K (false, ()) H := fun hf => by
      have : fitJ slots l = false := by unfold fitJ; rw [allN_false h1 hf, Bool.and_false]
      rw [this] at hk; exact hk
    have ef : ftJ slots l i = (mayQ l[i] && !decide (slots[i] ∈ slots.take i)) := by
      unfold ftJ; rw [List.getElem?_eq_getElem h1, List.getElem?_eq_getElem hsl]
    refine atA_lt h1 (retA_i _ (c_omay _) ?_)
    show ifB (!(mayQ l[i])) _ _
    cases hm : mayQ l[i] with
    | false => exact ifT rfl (no (by rw [ef, hm, Bool.false_and]))
    | true =>
      refine ifF rfl (slcA_z (a := 0) (b := i) rfl rfl (Nat.zero_le _) (by omega) (atA_lt hsl (retA_i _ (c_contains _ _) ?_)))
      rw [sub_zero, Nat.sub_zero]
      show ifB (decide (slots[i] ∈ slots.take i)) _ _
      cases hd : decide (slots[i] ∈ slots.take i) with
      | true => exact ifT rfl (no (by rw [ef, hd]; simp))
      | false =>
        refine ifF rfl ?_
        rw [w1 (by omega)]
        refine hC h1 ?_
        rw [allN_snoc, hP, ef, hm, hd]; rfl
  · obtain rfl : i = l.length := by omega
    refine lenA_i fun _ => ?_
    unfold fitJ at hk
    rw [hP, Bool.and_true] at hk
    have e : decide ((l.length : Int) > 0) = decide (0 < l.length) := by rw [Bool.eq_iff_iff, decide_eq_true_eq, decide_eq_true_eq]; omega
    rw [e]; exact hk
theorem bgI_at {slots : List Int} {l : List Req} (hs : slots.length = l.length) {x : Int} (h : inQ l x) : ∃ j : Nat, x = (j : Int) ∧ slots[j]? = some (bgI slots l x).1 ∧ l[j]? = some (rq l x) := by
  obtain ⟨h1, h2⟩ := h
  refine ⟨x.toNat, by omega, ?_, rq_at ⟨h1, h2⟩⟩
  unfold bgI
  rw [List.getElem?_eq_getElem (by omega : x.toNat < slots.length)]; rfl
theorem grpL_ok (l : List Req) : GrOk l (grpL l) l.length := grpN_ok (fun x hx => ordL_ok hx) l.length
theorem bgG_ne {slots : List Int} {l : List Req} : ∀ g ∈ bgG slots l, g ≠ [] := fun g hg => by
  unfold bgG at hg
  obtain ⟨g0, h0, rfl⟩ := List.mem_map.1 hg
  have := (grpL_ok l).ne g0 h0
  simpa using this
theorem dn_pre (gs : List (List Itm)) {i j : Nat} {g : List Itm} (h : gs[i]? = some g) (hj : j ≤ g.length) : dnG gs i + j ≤ gs.flatten.length := by
  have h1 := dnG_succ h
  have h2 := dnG_le gs (i + 1)
  omega
theorem endsT_succ (gs : List (List Itm)) (i : Nat) : List.map (fun k : Nat => (dnG gs (k + 1) : Int)) (List.range (i + 1)) = List.map (fun k : Nat => (dnG gs (k + 1) : Int)) (List.range i) ++ [(dnG gs (i + 1) : Int)] := by rw [List.range_succ, List.map_append]; rfl
section
variable {H : HP} {n b be : Nat} {s se : Sl} {gs : List (List Itm)} {ap an : Nat}
theorem c_jbegin (h : JAt H n b be s se gs ap an) (slots : List Int) (l : List Req) (hl : l.length ≤ 1000) (hsh : ∀ r ∈ l, shortQ r) (K : HT [(false, .one .any)] → HP → Prop) (h10 : gs ≠ [] → K (er 10, ()) H) (h1 : gs = [] → slots.length ≠ l.length ∨ fitJ slots l = false → K (er 1, ()) H)
    (h2 : gs = [] → slots.length = l.length → fitJ slots l = true → 32 < l.length → K (er 2, ()) H)
    (ok : gs = [] → slots.length = l.length → fitJ slots l = true → l.length ≤ 32 → ∀ H' b be s se, JAt H' n b be s se (bgG slots l) 0 0 → FrJ H H' → K (er 0, ()) H') : C50 (some n) slots l H K := callA50 _ _ _ _ _ (by
  unfold A50
  refine retH_r _ (fun K' hk' => c_jopen h K' hk') ?_
  dsimp only
  by_cases hgs : gs = []
  case neg =>
    refine ifT (decide_eq_true hgs) ?_
    rw [er_of (by decide)]; exact h10 hgs
  refine ifF (decide_eq_false (by simpa using hgs)) (lenA_i fun _ => lenA_i fun _ => ?_)
  by_cases hs : slots.length = l.length
  case neg =>
    refine ifT (by rw [bne_iff_ne]; omega) ?_
    rw [er_of (by decide)]; exact h1 hgs (.inl hs)
  refine ifF (by simp [hs]) (retA_i _ (c_jfit slots l hs) ?_)
  dsimp only
  cases hf : fitJ slots l with
  | false =>
    refine ifT rfl ?_
    rw [er_of (by decide)]; exact h1 hgs (.inr hf)
  | true =>
    refine ifF rfl (lenA_i fun _ => ?_)
    by_cases hb : 32 < l.length
    · refine ifT (decide_eq_true (by omega)) ?_
      rw [er_of (by decide)]; exact h2 hgs hs hf hb
    refine ifF (decide_eq_false (by omega)) (refA_r (ldO_r h.hdr ?_))
    obtain ⟨z1, z2⟩ := h.z hgs
    have hap : ap = 0 := by have := h.apl; rw [hgs] at this; simpa using this
    have han : an = 0 := by have := h.anl; rw [hgs] at this; simpa [dnG] using this
    subst hap han
    refine ⟨[], H.del n, .inl ⟨z1, rfl, rfl⟩, [], H.del n, .inl ⟨z2, rfl, rfl⟩, ?_⟩
    refine c_groups l hl (H.del n) _ fun H1 T hle hT eT => lenA_i fun _ => ?_
    dsimp only
    have gok := grpL_ok l
    have hbl : (bgG slots l).length = T.length := by unfold bgG; rw [List.length_map, ← eT, List.length_map]
    have hbt := bgG_len slots l
    have hlpos : 0 < l.length := by
      unfold fitJ at hf
      rw [Bool.and_eq_true, decide_eq_true_eq] at hf; exact hf.1
    have hTl : T.length ≤ 32 := by have := gok.len; rw [← eT, List.length_map] at this; omega
    rw [List.length_map]
    refine loop_n T.length (fun i => (((), slots, l, gSl T, (T.length : Int), (i : Int), ()), (((bgG slots l).take i).flatten, List.map (fun k : Nat => (dnG (bgG slots l) (k + 1) : Int)) (List.range i), 0, 0, ()), ())) (fun _ => True) (by simp) trivial fun i C hi _ hC => ?_
    dsimp only
    refine ifLt (fun h3 => ?_) fun h3 => ?_
    · obtain ⟨a1, a2, a3⟩ := hT.at0 T[i] (List.getElem_mem h3)
      have e1 : (gSl T)[i]? = some T[i].2.1 := by rw [List.getElem?_map, List.getElem?_eq_getElem h3]; rfl
      have e2 : (grpL l)[i]? = some T[i].2.2 := by rw [← eT, List.getElem?_map, List.getElem?_eq_getElem h3]; rfl
      have e3 : (bgG slots l)[i]? = some (T[i].2.2.map (bgI slots l)) := by unfold bgG; rw [List.getElem?_map, e2]; rfl
      have hgm : T[i].2.2 ∈ grpL l := List.mem_of_getElem? e2
      have hgok := gok.ok T[i].2.2 hgm
      have nx := hC h3 trivial
      refine atA_g rfl e1 ?_
      generalize T[i].2.1 = si at a1 a2 a3 ⊢
      generalize T[i].2.2 = g at a2 a3 e2 e3 hgok ⊢
      generalize T[i].1 = bi at a1 a3
      rw [a2]
      have hsucc := dnG_succ e3
      rw [List.length_map] at hsucc
      refine loop_n g.length (fun j => (((), slots, l, gSl T, (T.length : Int), (i : Int), si, (g.length : Int), (j : Int), ()), (((bgG slots l).take i).flatten ++ (g.take j).map (bgI slots l), List.map (fun k : Nat => (dnG (bgG slots l) (k + 1) : Int)) (List.range i), 0, 0, ()), ())) (fun _ => True) (by simp) trivial fun j C' hj _ hC' => ?_
      dsimp only
      refine ifLt (fun h4 => ?_) fun h4 => ?_
      · have hq := hgok g[j] (List.getElem_mem h4)
        obtain ⟨jj, ej, r1, r2⟩ := bgI_at hs hq
        have hpre := dn_pre (bgG slots l) e3 (j := j) (by rw [List.length_map]; omega)
        have hd : ((bgG slots l).take i).flatten.length = dnG (bgG slots l) i := rfl
        refine arrA_r (i := j) a1 rfl (by rw [a2]; exact h4) (ldE_r a3 (List.getElem?_eq_getElem h4) (atA_g ej r1 (atA_g ej r2 (retA_i _ (c_jasked _ (hsh _ (List.mem_of_getElem? r2))) (appA_i (by rw [List.length_append, List.length_map, List.length_take]; omega) ⟨rfl, ?_⟩)))))
        have := hC' h4 trivial
        rw [take_snoc h4, List.map_append, ← List.append_assoc] at this
        rw [w1 (by omega)]
        exact this
      · obtain rfl : j = g.length := by omega
        rw [List.take_length]
        have ef : ((bgG slots l).take i).flatten ++ g.map (bgI slots l) = ((bgG slots l).take (i + 1)).flatten := by
          obtain ⟨hk, e⟩ := List.getElem?_eq_some_iff.1 e3
          rw [take_snoc hk, e, List.flatten_append]; simp
        rw [ef]
        refine lenA_i fun _ => appA_i (by rw [List.length_map, List.length_range]; omega) ⟨rfl, ?_⟩
        rw [w1 (by omega)]
        rw [endsT_succ] at nx
        exact nx
    · obtain rfl : i = T.length := by omega
      rw [← hbl, List.take_length]
      have hne : bgG slots l ≠ [] := fun e => by rw [e] at hbt; simp at hbt; omega
      have hfn : (bgG slots l).flatten ≠ [] := fun e => by rw [e] at hbt; simp at hbt; omega
      have hen : endsG (bgG slots l) ≠ [] := fun e => by have := endsG_len (bgG slots l); rw [e] at this; exact hne (List.eq_nil_of_length_eq_zero this.symm)
      refine pubA_r hfn fun s' b' hb' hs' hnb => pubA_r hen fun se' be' hbe' hse' hnbe => ?_
      have nb : n ≠ b' := fun e => hnb _ hs'.at0 e.symm
      have nbe : n ≠ be' := fun e => hnbe _ hse'.at0 e.symm
      have bbe : be' ≠ b' := fun e => by rw [e, hp_at] at hbe'; cases hbe'
      have := ok hgs hs hf (by omega) (((H1.set b' (.arr kIT 156) (s', (bgG slots l).flatten)).set be' (.arr IK 3) (se', endsG (bgG slots l))).set n kJK (s', se', ((0 : Nat) : Int), ((0 : Nat) : Int))) b' be' s' se' ?_ ?_
      · exact this
      · refine ⟨hp_at _ _ _ _, hs'.len, hse'.len.trans (endsG_len _), by rw [hs'.len]; exact hs'.cap, fun e => absurd e hne, fun _ => ⟨hs'.at0, ?_, hse'.at0, ?_⟩, bgG_ne, by rw [hbt]; omega, Nat.zero_le _, Nat.zero_le _, fun g hg x hx => ?_⟩
        · exact (hp_ne (Ne.symm nb)).trans ((hp_ne (Ne.symm bbe)).trans (hp_at _ _ _ _))
        · exact (hp_ne (Ne.symm nbe)).trans (hp_at _ _ _ _)
        · unfold bgG at hg
          obtain ⟨g0, h0, rfl⟩ := List.mem_map.1 hg
          obtain ⟨y, hy, rfl⟩ := List.mem_map.1 hx
          have hq := gok.ok g0 h0 y hy
          exact ⟨hsh _ (List.mem_of_getElem? (rq_at hq)), by show (0 : Nat) ≤ 100; decide, by show (0 : Nat) ≤ 1000; decide, fun p hp => by have hp : p ∈ ([] : List Pr) := hp; cases hp⟩
      · intro m o hm ho
        have m1 : m ≠ n := fun e => by subst e; exact ho (h.tag.1 hm)
        have m2 : (H.del n) m = some o := by show (if m = n then none else H m) = _; rw [if_neg m1]; exact hm
        have m3 : H1 m = some o := hle.get m2
        have m4 : m ≠ b' := fun e => by subst e; rw [hb'] at m3; cases m3
        have m5 : m ≠ be' := fun e => by subst e; rw [hp_ne bbe] at hbe'; rw [hbe'] at m3; cases m3
        rw [hp_ne m1, hp_ne m5, hp_ne m4]; exact m3)
end
def reqJ : Req := (0, 0, 1, [97], [], [], [], 0)
theorem short_reqJ : ∀ r ∈ [reqJ], shortQ r := by
  intro r hr
  rcases List.mem_cons.1 hr with rfl | hr
  · exact ⟨by decide, by decide, by decide, by decide⟩
  · cases hr
theorem short_resJ : ∀ a ∈ ([(0, true, [], [], 0)] : List Res), shortA a := by
  intro r hr
  rcases List.mem_cons.1 hr with rfl | hr
  · exact ⟨by decide, by decide, fun p hp => by cases hp⟩
  · cases hr
theorem c_up17 (H : HP) (K : HT [(false, .one .bool)] → HP → Prop) (hk : ∀ H', K (true, ()) H') : C48 H K := callA48 _ _ (by
  unfold A48
  refine c_jnew H _ fun n H1 hJ _ => ifF rfl (byteA_n (n := 97) (by decide) ?_)
  have f4 : fitJ [4] [reqJ] = true := by kernel_rfl
  have e4 : bgG [4] [reqJ] = [[(4, reqJ, zRes)]] := by kernel_rfl
  refine c_jbegin hJ [4] [reqJ] (by decide) short_reqJ _ (fun h => absurd rfl h) (fun _ h => by rcases h with h | h; exact absurd rfl h; rw [f4] at h; cases h) (fun _ _ _ h => absurd h (by decide)) fun _ _ _ _ H2 b be s se hJ2 _ => ?_
  rw [e4] at hJ2
  refine byteA_n (n := 97) (by decide) ?_
  refine c_jbegin hJ2 [5] [reqJ] (by decide) short_reqJ _ (fun _ => ?_) (fun h => by cases h) (fun h => by cases h) (fun h => by cases h)
  refine c_japply hJ2 [(0, true, [], [], 0)] short_resJ (by decide) _ (fun h => by cases h) (fun g hg h => by injection hg with hg; subst hg; exact absurd rfl h) fun g hg _ H3 hJ3 _ => ?_
  injection hg with hg
  subst hg
  have e5 : ([[(4, reqJ, zRes)]] : List (List Itm)).set 0 (zipG [(4, reqJ, zRes)] [(0, true, [], [], 0)]) = [[(4, reqJ, (0, true, [], [], 0))]] := by kernel_rfl
  rw [e5] at hJ3
  refine retH_r _ (fun K' hk' => c_jready hJ3 K' hk') ?_
  have e6 : rdG [[(4, reqJ, (0, true, [], [], 0))]] (0 + 1) 0 = (4, (0, true, [], [], 0), true) := by kernel_rfl
  rw [e6]
  refine c_janswered hJ3 _ (fun h => absurd h (by decide)) (fun _ h => absurd rfl h) fun _ _ H4 hJ4 _ => ?_
  refine ⟨er_ifc 0, ?_⟩
  refine ifT rfl (er_eq (a := 10) (b := 10) (by decide) (ifT rfl ⟨er_ifc 0, ifT rfl (ifT rfl (ifT rfl (ifT rfl ⟨er_ifc 0, ifT rfl (retH_r _ (fun K' hk' => c_jopen hJ4 K' hk') ?_)⟩)))⟩))
  exact hk H4)
end Go.Proofs.Ytalniaipgdbbcaa
