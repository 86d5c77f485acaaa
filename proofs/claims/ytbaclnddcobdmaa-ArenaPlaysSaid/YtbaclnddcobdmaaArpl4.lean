/-
  ArenaPlays: the walk.
-/
import Derived.Test.YtbaclnddcobdmaaArpl3
set_option linter.unusedSimpArgs false
set_option linter.unusedVariables false
namespace Go.Proofs.Ytbaclnddcobdmaa
open Go Go.Gp Go.Ga Go.Th
def e3 : Value := .iface 29 (.int .i64 3)
theorem undC : Try.prog.underlying 29 = some (.int .i64) := by kernel_rfl
theorem infC : (Try.prog.info? 29).map (·.comparable) = some true := by kernel_rfl
theorem e3_eq {b : Int} {K : Bool → Prop} (hk : K (decide ((3 : Int) = b))) : ifcEq Try.prog e3 (.iface 29 (.int .i64 b)) K := by
  have hi := infC
  cases hh : Try.prog.info? 29 with
  | none => rw [hh] at hi; cases hi
  | some i =>
    rw [hh] at hi
    simp only [Option.map_some, Option.some.injEq] at hi
    refine ⟨decide ((3 : Int) = b), .inl ⟨29, .i64, 3, b, i, rfl, rfl, undC, hh, hi, ?_⟩, hk⟩
    rw [Bool.eq_iff_iff]; simp
theorem c_code3 : S22 e3 (3, ()) := pure22 _ fun H K hk => by
  unfold A22
  refine ⟨rfl, ifF rfl ?_⟩
  refine loop_n 11 (fun i => ((e3, (i : Int) + 1, ()), ())) (fun i => (i : Int) < 3) rfl (by omega) fun i C hi hP hC => ?_
  dsimp only at hC ⊢
  refine ifD (fun h2 => e3_eq (ifD (fun h => by rw [← h]; exact hk) fun h => ?_)) fun h2 => ?_
  · have h : ¬ (3 : Int) = (i : Int) + 1 := h
    rw [wI (by omega) (by omega)]
    have := hC (by omega) (by omega)
    rw [show ((i + 1 : Nat) : Int) + 1 = (i : Int) + 1 + 1 from by omega] at this
    exact this
  · have h2 : ¬ (i : Int) + 1 ≤ 11 := h2
    omega
theorem c_up07 (H : HP) (K : HT [(false, .one .bool)] → HP → Prop) (hk : ∀ H', K (true, ()) H') : C43 H K := callA43 _ _ (by
  unfold A43
  refine c_anew _ fun n hn => ifF rfl ?_
  have k0 : ∀ H : HP, KidsAt H ⟨none, 0, 0⟩ [] := fun H => .inl ⟨rfl, rfl⟩
  have o0 : ArOk ([], [], []) := ⟨rfl, by simp, by simp, by simp, by simp⟩
  have d1 : NdOk (true, [], [], [], 0) := ⟨by decide, by decide, by decide, (by intro p hp; have hp : p ∈ ([] : List Pr) := hp; cases hp), (by intro p hp; have hp : p ∈ ([] : List Key) := hp; cases hp)⟩
  have d2 : NdOk (false, [], [], [], 7) := ⟨by decide, by decide, by decide, (by intro p hp; have hp : p ∈ ([] : List Pr) := hp; cases hp), (by intro p hp; have hp : p ∈ ([] : List Key) := hp; cases hp)⟩
  refine c_amake (hp_at _ _ _ _) o0 (true, [], [], [], 0) d1 (k0 _) _ ?_
  rw [mkS_nil]
  refine c_afree (hp_at _ _ _ _) rfl (by decide) 0 _ (fun h => by cases h) fun _ => ?_
  refine c_afree (hp_at _ _ _ _) rfl (by decide) 0 _ (fun _ => ?_) fun h => by cases h
  refine c_amake (x := (false, [], [], [], 7)) (hp_at _ _ _ _) ⟨rfl, fun q hq => ⟨0, by simpa [frS] using hq, by decide⟩, by decide, by decide, fun x hx => by (obtain rfl : x = zeroNd := by simpa [frS] using hx); exact zero_ok⟩ d2 (k0 _) _ ?_
  refine c_aget' (hp_at _ _ _ _) rfl (fun x hx => by (obtain rfl : x = (false, [], [], [], 7) := by simpa [frS, mkS] using hx); exact d2) 0 _ fun x s H' hs hx hle hj => ?_
  obtain ⟨j, e, hx2⟩ := hj rfl
  obtain rfl : j = 0 := by omega
  have hx2 : some ((false, [], [], [], 7) : Nd) = some x := hx2
  injection hx2 with hx2
  subst hx2
  refine ifT rfl ⟨rfl, ifT rfl (e3_eq (ifT rfl (ifT rfl (ifT rfl (retH_i _ (fun K' hk' => c_aused (hle.get (hp_at _ _ _ _)) (by decide) (by decide) K' hk') (hk _))))))⟩)
structure Ix (H : HP) (nA i6 : Nat) (v : ArV) : Prop where
  a : H nA = some ⟨kAR, v⟩
  m : H i6 = none
theorem Ix.ne {H : HP} {nA i6 : Nat} {v : ArV} (h : Ix H nA i6 v) : nA ≠ i6 := fun e => by have := h.a; rw [e, h.m] at this; cases this
theorem Ix.arr {H : HP} {nA i6 : Nat} {v : ArV} (h : Ix H nA i6 v) {b t : Nat} {s : Sl} {xs ys : List Int} (hb : ArrAt H b IK t s xs) : Ix (H.set b (.arr IK t) (s, ys)) nA i6 v := by
  have h1 : nA ≠ b := fun e => by have := h.a; rw [e, show H b = _ from hb] at this; injection this with e; injection e with e; cases e
  have h2 : i6 ≠ b := fun e => by have := h.m; rw [e, show H b = _ from hb] at this; cases this
  exact ⟨(hp_ne h1).trans h.a, (hp_ne h2).trans h.m⟩
theorem Ix.pub {H H' : HP} {nA i6 : Nat} {v : ArV} (h : Ix H nA i6 v) {xs : List Int} {s : Sl} (hp : PubR IK 3 xs H s H') (hnb : ∀ a, s.a = some a → a.block ≠ i6) : Ix H' nA i6 v := by
  obtain ⟨_, _, _, h4⟩ := hp
  rcases h4 with ⟨_, _, rfl⟩ | ⟨n, h5, h6, rfl⟩
  · exact h
  · have h1 : nA ≠ n := fun e => by have := h.a; rw [e, h6] at this; cases this
    have h2 : i6 ≠ n := fun e => hnb _ h5 e.symm
    exact ⟨(hp_ne h1).trans h.a, (hp_ne h2).trans h.m⟩
theorem kids_up {H : HP} {nA i6 : Nat} {v : ArV} (h : Ix H nA i6 v) {s : Sl} {xs : List Int} (hs : KidsAt H s xs) {k : Nat} (hk : k < xs.length) {K : HP → Prop} (hK : ∀ y, Ix y nA i6 v → (∃ ys, KidsAt y s ys ∧ ys.length = xs.length) → K y) :
    arrA s (k : Int) 1 fun a1 => ldE IK a1 H fun n1 => arrA s (k : Int) 1 fun a2 => stE IK a2 H fun _ B => K (B (IntKind.i64.wrap (n1 + 1))) := by
  rcases hs with ⟨_, e⟩ | ⟨b, a1, a2, a3⟩
  · rw [e] at hk; simp at hk
  have hg := List.getElem?_eq_getElem hk
  refine arrA_r a2 rfl (by rw [a3]; exact hk) (ldE_r a1 hg (arrA_r a2 rfl (by rw [a3]; exact hk) (stE_r a1 hg ?_)))
  exact hK _ (h.arr a1) ⟨_, .inr ⟨b, hp_at _ _ _ _, a2, by rw [List.length_set]; exact a3⟩, List.length_set⟩
theorem arenaPlays_walk (d : List (Int × Int × Nd)) (H : HP) (K : HT [(false, .one .bool)] → HP → Prop) (hk : ∀ H', K (true, ()) H') : A10 d H K := by
  unfold A10
  refine c_up07 H _ fun H1 => c_anew _ fun nA hnA => ifF rfl (lenA_i fun _ => ifD (fun _ => ifT rfl (hk _)) fun hd => ?_)
  have hd : ¬ (d.length : Int) > 100 := hd
  intro i6 hi6
  refine ldO_r (hp_at _ _ _ _) ?_
  rw [setdel hi6]
  have I0 : Ix (H1.set nA kAR ([], [], [])) nA i6 ([], [], []) := ⟨hp_at _ _ _ _, hi6⟩
  refine loop_h d.length (fun i vv H' => ∃ l th fr l2, Ix H' nA i6 (l, th, fr) ∧ ArOk (l, th, fr) ∧ l.length ≤ i ∧ fr.length ≤ i ∧ Rel (l, th, fr) l2 ∧ vv = ((d, true, some nA, (), (i : Int), ()), (l2, th, fr, ()), ())) ⟨[], [], [], [], I0, ⟨rfl, by simp, by simp, by simp, by simp⟩, Nat.le_refl _, Nat.le_refl _, ⟨rfl, by simp, by simp⟩, rfl⟩ ?_
  rintro i _ H' C hi ⟨l, th, fr, l2, hI, hok, hl, hfr, hrel, rfl⟩ hC
  dsimp only
  refine lenA_i fun _ => ifLt (fun h1 => ?_) fun _ => hk _
  refine atA_lt h1 (retA_i _ (c_few07 _) ?_)
  generalize d[i] = x
  obtain ⟨what, at_, lf, ps, ks, kd, nx⟩ := x
  dsimp only
  cases hf : few7 (lf, ps, ks, kd, nx) with
  | false => exact ifT rfl (hk _)
  | true =>
  obtain ⟨hx, hkd⟩ := few7_ok hf
  dsimp only at hkd
  refine ifF rfl (appA_i (by omega) ?_)
  rw [List.nil_append]
  intro s H3 hp hnb
  obtain ⟨hs, hle3⟩ := KidsAt.pub hp
  have hI3 := hI.pub hp hnb
  have hth : th.length = l2.length := by have h1 := hrel.len; have h2 := hok.len; dsimp only at h1 h2; omega
  refine retH_r _ (fun K' hk' => c_mis (hp_at _ _ _ _) hth _ K' hk') ⟨rfl, ldO_r (hp_at _ _ _ _) ?_⟩
  rw [hrel.isE, setdel hI3.m]
  dsimp only
  refine JoinA_w (fun vv H2 => ∃ l th fr l2, Ix H2 nA i6 (l, th, fr) ∧ ArOk (l, th, fr) ∧ l.length ≤ i + 1 ∧ fr.length ≤ i + 1 ∧ Rel (l, th, fr) l2 ∧ KidsAt H2 s kd ∧ vv = ((d, true, some nA, (), (i : Int), (), ()), (l2, th, fr, ()), (lf, ps, ks, s, nx, ()), ())) ?_ ?_
  · -- what is told
    clear hrel hok hl hfr hI hI3 hth hs
    rintro _ H2 ⟨l, th, fr, l2, hI, hok, hl, hfr, hrel, hs, rfl⟩
    have hl2 := hrel.len
    have hll := hok.len
    dsimp only at hl2 hll
    have hth : th.length = l2.length := by omega
    have hsl := hs.len
    dsimp only
    refine loop_h kd.length (fun k vv H4 => Ix H4 nA i6 (l, th, fr) ∧ (∃ xs, KidsAt H4 s xs ∧ xs.length = kd.length) ∧ vv = ((d, true, some nA, (), (i : Int), (), (k : Int), ()), (l2, th, fr, ()), (lf, ps, ks, s, nx, ()), ())) ⟨hI, ⟨kd, hs, rfl⟩, rfl⟩ ?_
    rintro k _ H4 C' hk2 ⟨hI4, ⟨xs, hxs, hxl⟩, rfl⟩ hC'
    dsimp only
    rw [hsl]
    refine ifLt (fun h2 => ?_) fun h2 => ?_
    · refine kids_up (K := fun y => i6 = i6 ∧ C' ((d, true, some nA, (), (i : Int), (), IntKind.i64.wrap ((k : Int) + 1), ()), (l2, th, fr, ()), (lf, ps, ks, s, nx, ()), ()) y) hI4 hxs (k := k) (by omega) fun y hy ⟨ys, h5, h6⟩ => ⟨rfl, ?_⟩
      rw [w1 (by omega)]
      exact hC' h2 _ _ ⟨hy, ⟨ys, h5, by omega⟩, rfl⟩
    clear hC'
    refine loop_h (l2.length + 2) (fun k vv H5 => Ix H5 nA i6 (l, th, fr) ∧ vv = ((d, true, some nA, (), (i : Int), (k : Int) - 1, ()), (l2, th, fr, ()), ())) ⟨hI4, rfl⟩ ?_
    rintro k _ H5 C' hk2 ⟨hI5, rfl⟩ hC'
    dsimp only
    refine lenA_i fun _ => ifD (fun h3 => ?_) fun h3 => ?_
    · have h3 : (k : Int) - 1 ≤ (l2.length : Int) := h3
      have hn := hI5.ne
      refine c_aget' ((hp_ne hn).trans hI5.a) hok.len hok.nd _ _ fun x s5 H6 hs5 hx5 hle6 hj => ?_
      have hm6 : H6 i6 = some ⟨kMA, (l2, th, fr)⟩ := hle6.get (hp_at _ _ _ _)
      have ha6 : H6 nA = some ⟨kAR, (l, th, fr)⟩ := hle6.get ((hp_ne hn).trans hI5.a)
      refine retH_r _ (fun K' hk' => c_mis hm6 hth _ K' hk') ⟨rfl, ldO_r hm6 ?_⟩
      rw [hrel.isE]
      have hI7 : Ix (H6.del i6) nA i6 (l, th, fr) := ⟨by show (if nA = i6 then none else H6 nA) = _; rw [if_neg hn]; exact ha6, if_pos rfl⟩
      have hs7 : KidsAt (H6.del i6) s5 x.2.2.2.1 := hs5.del (noArrM hm6)
      refine ifF (by simp) ?_
      refine JoinA_w (fun vv H7 => H7 = H6.del i6 ∧ vv = ((d, true, some nA, (), (i : Int), (k : Int) - 1, (), ()), (l2, th, fr, ()), (x.1, x.2.1, x.2.2.1, s5, x.2.2.2.2, ()), ())) ?_ ?_
      · rintro _ _ ⟨rfl, rfl⟩
        dsimp only
        have hsl5 := hs7.len
        have hkb := hx5.kids
        refine loop_h x.2.2.2.1.length (fun q vv H8 => Ix H8 nA i6 (l, th, fr) ∧ (∃ xs, KidsAt H8 s5 xs ∧ xs.length = x.2.2.2.1.length) ∧ vv = ((d, true, some nA, (), (i : Int), (k : Int) - 1, (), (q : Int), ()), (l2, th, fr, ()), (x.1, x.2.1, x.2.2.1, s5, x.2.2.2.2, ()), ())) ⟨hI7, ⟨_, hs7, rfl⟩, rfl⟩ ?_
        rintro q _ H8 C'' hq ⟨hI8, ⟨ys, hys, hyl⟩, rfl⟩ hC''
        dsimp only
        rw [hsl5]
        refine ifLt (fun h4 => ?_) fun h4 => ?_
        · refine kids_up (K := fun y => i6 = i6 ∧ C'' ((d, true, some nA, (), (i : Int), (k : Int) - 1, (), IntKind.i64.wrap ((q : Int) + 1), ()), (l2, th, fr, ()), (x.1, x.2.1, x.2.2.1, s5, x.2.2.2.2, ()), ()) y) hI8 hys (k := q) (by omega) fun y hy ⟨zs, h5, h6⟩ => ⟨rfl, ?_⟩
          rw [w1 (by omega)]
          exact hC'' h4 _ _ ⟨hy, ⟨zs, h5, by omega⟩, rfl⟩
        · refine ⟨rfl, ?_⟩
          have := hC' (by omega) _ H8 ⟨hI8, rfl⟩
          rw [wI (by omega) (by omega), show (k : Int) - 1 + 1 = ((k + 1 : Nat) : Int) - 1 from by omega]
          exact this
      · intro C'' hC''
        dsimp only
        refine ifB_i (fun h4 => ?_) fun _ => ⟨rfl, hC'' _ _ ⟨rfl, rfl⟩⟩
        obtain ⟨j, ej, hxj⟩ := hj h4
        have hj2 : l2[j]? = some x := by
          have h4 : isA l th ((k : Int) - 1) = true := h4
          rw [ej] at h4
          unfold isA at h4
          simp only [Bool.and_eq_true, Int.toNat_natCast, List.getD_eq_getElem?_getD] at h4
          have ht : th[j]? = some true := by
            cases e : th[j]? with
            | none => rw [e] at h4; simp at h4
            | some b => rw [e] at h4; simp at h4; rw [h4.2]
          have := hrel.at_ j ht
          dsimp only at this
          rw [this]; exact hxj
        have hjl := (List.getElem?_eq_some_iff.1 hj2).1
        refine retA_i _ (r_as07 _) ?_
        rw [ej]
        refine inA_i hjl (elA_i hj2 (retH_r _ (fun K' hk' => c_nodes x hx5 hs7 K' hk') (ifF rfl ⟨rfl, ?_⟩)))
        exact hC'' _ _ ⟨rfl, by rw [ej]⟩
    · refine retH_r _ (fun K' hk' => c_aused hI5.a (by omega) (by omega) K' hk') (lenA_i fun _ => lenA_i fun _ => ?_)
      dsimp only
      rw [wI (by omega) (by omega), hl2]
      refine ifF (by simp) (retH_r _ (fun K' hk' => c_alen hI5.a K' hk') (lenA_i fun _ => ifF (by simp [hl2]) ⟨rfl, ?_⟩))
      rw [w1 (by omega)]
      exact hC h1 _ _ ⟨l, th, fr, l2, hI5, hok, hl, hfr, hrel, rfl⟩
  intro B57 hB57
  have hB57 : ∀ l th fr l2 H2, Ix H2 nA i6 (l, th, fr) → ArOk (l, th, fr) → l.length ≤ i + 1 → fr.length ≤ i + 1 → Rel (l, th, fr) l2 → KidsAt H2 s kd → B57 ((d, true, some nA, (), (i : Int), (), ()), (l2, th, fr, ()), (lf, ps, ks, s, nx, ()), ()) H2 := fun l th fr l2 H2 a b c e f g => hB57 _ _ ⟨l, th, fr, l2, a, b, c, e, f, g, rfl⟩
  have hn := hI3.ne
  refine retA_i _ (c_pick07 what 4 (by decide)) ?_
  dsimp only
  refine JoinA_w (fun vv H2 => H2 = H3 ∧ ∃ (p : Int) (b : Bool), vv = ((d, true, some nA, (), (i : Int), (), (), isA l th at_, p, b, ()), (l2, th, fr, ()), (what, at_, lf, ps, ks, kd, nx, ()), (lf, ps, ks, s, nx, ()), ())) ?_ ?_
  rotate_left
  · intro C' hC'
    exact ifB_i (fun h => ⟨rfl, hC' _ _ ⟨rfl, _, _, rfl⟩⟩) fun h => ⟨rfl, hC' _ _ ⟨rfl, _, _, rfl⟩⟩
  rintro _ H3 ⟨rfl, p, b, rfl⟩
  dsimp only
  refine ifB_i (fun _ => ?_) fun _ => ifB_i (fun _ => ?_) fun _ => ?_
  · -- a node is made
    obtain ⟨q, l', th', fr', l2', e1, e2, ok', rel', b1, b2⟩ := mk_all hok hrel hx (by omega) hl hfr
    refine c_amake ((hp_ne hn).trans hI3.a) hok _ hx (hs.set fun t s' xs' e => by rw [hI3.m] at e; cases e) _ ?_
    rw [e1]
    refine retA_i _ (c_as07 _) (c_mmake ((hp_ne (Ne.symm hn)).trans (hp_at _ _ _ _)) (hok.two hrel) _ _ ?_)
    rw [e2]
    refine ⟨rfl, ldO_r (hp_at _ _ _ _) (ifF (by simp) ⟨rfl, ?_⟩)⟩
    have eH : ((((H3.set i6 kMA (l2, th, fr)).set nA kAR (l', th', fr')).set i6 kMA (l2', th', fr')).del i6) = H3.set nA kAR (l', th', fr') := by
      rw [hp_comm (Ne.symm hn), hp_set2, setdel ((hp_ne (Ne.symm hn)).trans hI3.m)]
    rw [eH]
    exact hB57 _ _ _ _ _ ⟨hp_at _ _ _ _, (hp_ne (Ne.symm hn)).trans hI3.m⟩ ok' b1 b2 rel' (hs.set (noArrA hI3.a))
  · -- one is set
    refine c_aset hI3.a hok.len _ hx hs _ _ (fun h => ?_) fun h => ?_
    · rw [h]
      exact ifF rfl (ifT rfl (retA_i _ c_code3 (ifF rfl (ifF rfl ⟨rfl, hB57 _ _ _ _ _ hI3 hok (by omega) (by omega) hrel hs⟩))))
    · obtain ⟨j, rfl, hj⟩ := isA_at h
      rw [h]
      obtain ⟨ok', rel'⟩ := set_all hok hrel hx hj
      have hj2 : j < l2.length := by have := hrel.len; dsimp only at this; omega
      refine ifT rfl ⟨rfl, ifF rfl (ifF rfl (ifT rfl (retA_i _ (c_as07 _) (inA_i hj2 (elA_i (List.getElem?_eq_getElem hj2) ⟨rfl, ?_⟩)))))⟩
      exact hB57 _ _ _ _ _ ⟨hp_at _ _ _ _, (hp_ne (Ne.symm hn)).trans hI3.m⟩ ok' (by rw [List.length_set]; omega) (by omega) rel' (hs.set (noArrA hI3.a))
  · -- one is freed
    refine c_afree hI3.a hok.len (by omega) _ _ (fun h => ?_) fun h => ?_
    · rw [h]
      exact ifF rfl (ifT rfl (retA_i _ c_code3 (ifF rfl (ifF rfl ⟨rfl, hB57 _ _ _ _ _ hI3 hok (by omega) (by omega) hrel hs⟩))))
    · obtain ⟨j, rfl, hj⟩ := isA_at h
      rw [h]
      obtain ⟨ok', rel'⟩ := free_all hok hrel hj (by omega)
      have hj2 : j < th.length := by have := hok.len; dsimp only at this; omega
      refine ifT rfl ⟨rfl, ifF rfl (ifF rfl (ifT rfl (inA_i hj2 (elA_i (List.getElem?_eq_getElem hj2) (appA_i (by omega) ⟨rfl, ?_⟩)))))⟩
      exact hB57 _ _ _ _ _ ⟨hp_at _ _ _ _, (hp_ne (Ne.symm hn)).trans hI3.m⟩ ok' (by rw [List.length_set]; show l.length ≤ i + 1; omega) (by rw [List.length_append, List.length_singleton]; show fr.length + 1 ≤ i + 1; omega) rel' (hs.set (noArrA hI3.a))
theorem fitDeeds : fitT Try.prog 21 (.row (.cons (.one (.int .i64)) (.cons (.one (.int .i64)) kND))) 69 = true := by kernel_rfl
theorem arenaPlays_row (W : World) (a : Sl) (n1 : Nat) (h1 : RdT Try.prog W n1 69 [.slice a.a a.len a.cap]) :
    callG Try.prog 10 [.slice a.a a.len a.cap] [.one .bool] W fun x W' => x = (true, ()) ∧ Keeps [] W W' := by
  obtain ⟨y, hy, _⟩ := fit_dat _ fitDeeds h1
  exact callG_of (callA10 y _ _ (arenaPlays_walk y _ _ fun _ => rfl)) (arg_cons rfl rfl hy rfl arg_nil)
end Go.Proofs.Ytbaclnddcobdmaa
