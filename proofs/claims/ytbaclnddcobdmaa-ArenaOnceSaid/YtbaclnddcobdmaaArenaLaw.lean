/-
  The law ArenaOnce.
-/
import Derived.Test.YtbaclnddcobdmaaArena6
import Derived.OpenShut
set_option linter.unusedSimpArgs false
set_option linter.unusedVariables false
namespace Go.Proofs.Ytbaclnddcobdmaa
open Go Go.Gp
theorem bare_node (W : World) (l : Bool) (x : Int) : NdA (fun _ => False) W (l, ⟨none, 0, 0⟩, ⟨none, 0, 0⟩, ⟨none, 0, 0⟩, x) ⟨l, [], [], [], x⟩ := ⟨rfl, RowOf.none .., RowOf.none .., RowOf.none .., rfl⟩
theorem bare_small (l : Bool) (x : Int) : (⟨l, [], [], [], x⟩ : Nd).Small := ⟨by simp, by simp, by simp, by simp, by simp⟩
theorem arenaPick_spec {W : World} {c n : Int} (hc : -9223372036854775808 ≤ c) (hc' : c ≤ 9223372036854775807) (hn : n ≠ 0) {K : Int × Unit → World → Prop} (hk : K (pickN c n, ()) W) : callG Try.prog 45 [.int .i64 c, .int .i64 n] [.one (.int .i64)] W K := by
  apply call45
  unfold G45 JoinG
  refine ifD (fun h _ => ⟨hn, ?_⟩) fun h _ => ⟨hn, ?_⟩
  · dsimp only
    rw [w64 (x := c + 1) (by omega) (by omega), w64 (by omega) (by omega), show (0 : Int) - (c + 1) = -c - 1 from by omega]
    rwa [pickN, if_pos h] at hk
  · rwa [pickN, if_neg h] at hk
theorem StepA.keeps {A : Nat → Prop} {W0 W W' : World} (h : StepA A W W') (k : Keeps [] W0 W) (hA : ∀ b, A b → W0.heap.size ≤ b) : Keeps [] W0 W' :=
  let ⟨S, hS, hk⟩ := h
  k.push hk fun b hb => hA b (hS b hb)
theorem StepA.size {A : Nat → Prop} {W W' : World} (h : StepA A W W') : W.heap.size ≤ W'.heap.size := let ⟨_, _, hk⟩ := h; hk.size
theorem AA.lo {A : Nat → Prop} {n : Nat} {W W' : World} (hA : ∀ b, A b → n ≤ b) (hn : n ≤ W.heap.size) : ∀ b, AA A W W' b → n ≤ b := fun b hb => hb.elim (hA b) fun h => Nat.le_trans hn h.1
theorem arenaUp_spec {W : World} {K : Bool × Unit → World → Prop} (hk : ∀ W', Keeps [] W W' → K (true, ()) W') : callG Try.prog 43 [] [.one .bool] W K := by
  apply call43
  unfold G43
  refine anew_spec fun a W1 ha k1 ⟨sl1, st1', sf1, xs1, h1⟩ => ifB_f rfl ?_
  have lo1 : ∀ b, newA W W1 b → W.heap.size ≤ b := fun b hb => hb.1
  refine amake_spec (x := (true, ⟨none, 0, 0⟩, ⟨none, 0, 0⟩, ⟨none, 0, 0⟩, 0)) h1 (by simp) (by simp) (bare_node W1 true 0) (fun b hb => hb.elim) (bare_small true 0) (fun fr0 k h => by simp at h) fun _ W2 s2 ⟨sl2, st2', sf2, xs2, h2⟩ => ?_
  have k2 := s2.keeps k1 lo1
  have lo2 := AA.lo (W' := W2) lo1 k1.size
  refine afree_spec h2 (by simp) 0 (fun h => by simp [there] at h) fun _ W3 s3 ⟨sl3, st3', sf3, xs3, h3⟩ => ?_
  have k3 := s3.keeps k2 lo2
  have lo3 := AA.lo (W' := W3) lo2 k2.size
  refine afree_spec h3 (by simp) 0 (fun _ => ?_) fun h => by simp [there] at h
  refine amake_spec (x := (false, ⟨none, 0, 0⟩, ⟨none, 0, 0⟩, ⟨none, 0, 0⟩, 7)) h3 (by simp) (by simp) (bare_node W3 false 7) (fun b hb => hb.elim) (bare_small false 7) (fun fr0 k h W4 s4 ⟨sl4, st4', sf4, xs4, h4⟩ => ?_) fun h => by simp at h
  have k4 := s4.keeps k3 lo3
  obtain ⟨rfl, rfl⟩ : fr0 = [] ∧ k = 0 := by
    have hh : ([] : List Nat) ++ [0] = fr0 ++ [k] := by simpa using h
    have := List.append_inj_right' hh rfl
    have h2 := List.append_inj_left' hh rfl
    simp at this
    exact ⟨h2.symm, this.symm⟩
  have lo4 := AA.lo (W' := W4) lo3 k3.size
  refine aget_spec h4 0 (fun n hn => ?_) (fun h => by simp [there] at h) fun n _ hn y W5 k5 hy => ?_
  · simp at hn
    subst hn
    exact bare_small false 7
  simp at hn
  subst hn
  have h5 := h4.keep k5 (by simp)
  refine new_blk fun b W6 hb k6 e6 => st5 _ _ _ _ _ e6 fun W7 k7 e7 => ?_
  have h7 := (h5.keep k6 (by simp)).keep k7 fun c hc he => by simp at hc; subst hc; have := h5.lt _ he; omega
  have kk := (k4.trans k5).trans (k6.push k7 (by simp [hb]))
  refine ifE (fun _ => ⟨er_ifc 0, ifB_t rfl ?_⟩) fun h => absurd rfl h
  refine er_eq (a := 3) (b := 3) (by decide) (ifB_t (by decide) (ifB_t rfl ?_))
  have hnx := hy.next
  rw [addr0]
  refine ld_int (by rw [e7.cell]; rfl) (ifE (fun _ => aused_spec h7 (by simp) (by simp) fun W8 k8 => ?_) fun h => absurd hnx h)
  exact hk W8 (kk.trans k8)
structure AO (W0 w : World) (A : Nat → Prop) (a : Nat) (ns : List (Option Nd)) (fr : List Nat) (us : Sl) (used : List Nat) : Prop where
  k : Keeps [] W0 w
  ar : ArenaAt A w a ns fr
  A0 : ∀ b, A b → W0.heap.size ≤ b
  ou : OwnS w 0 3 1 us (used.map frC)
  un : ∀ b ∈ sblk us, ¬ A b ∧ W0.heap.size ≤ b
  uin : ∀ j ∈ used, ∃ n, ns[j]? = some (some n)
  nod : used.Nodup
  cnt : ns.length = used.length + fr.length
theorem AO.ul {W0 w : World} {A : Nat → Prop} {a : Nat} {ns : List (Option Nd)} {fr : List Nat} {us : Sl} {used : List Nat} (h : AO W0 w A a ns fr us used) : us.len = used.length := by
  have := h.ou.len
  simp only [List.length_map, Nat.mul_one] at this
  omega

theorem app_rs' {P : Program} {W : World} {t e : TypeId} {i : TypeInfo} {z : Value} {size bytes : Nat} (ht : P.underlying t = some (.slice e)) (hi : P.info? e = some i) (hz : i.zero = some z) (hsz : i.size = size) (hby : i.bytes = bytes)
    (hzs : z.cells.size = size) (h0 : 0 < size) {B : Nat} {s u : Sl} {xs ys : List Value} (ho : OwnS W B e size s xs) (hu : Rs W size u ys) (hnone : u.a = none → u.len = 0 ∧ u.cap = 0) (h1 : ∀ u ∈ ys, u.oneCell' = true)
    (hb : (s.len + u.len) * bytes ≤ 140737488355328) (h63 : s.len + u.len ≤ 9223372036854775807) (hB : B ≤ W.heap.size) {K : Sl → World → Prop}
    (hk : ∀ r W', OwnS W' B e size r (xs ++ ys) → Keeps (sblk s) W W' → r.len = s.len + u.len → (∀ b ∈ sblk r, b ∈ sblk s ∨ newA W W' b) → K r W') :
    runG' P (.val (.one .sl)) (Builtin.append_ #[t, t] t #[.slice s.a s.len s.cap, .slice u.a u.len u.cap]) W K := by
  obtain ⟨a, m, c⟩ := u
  cases a with
  | some p =>
    refine app_own' ht hi hz hsz hby hzs h0 ho ys hu.len (fun j v hj => ?_) h1 hb h63 hB fun r W' h1 h2 h3 h4 _ => hk r W' h1 h2 h3 h4
    obtain ⟨q, hq, hc⟩ := hu.at_ j v hj
    simp only [Option.some.injEq] at hq
    subst hq
    exact hc
  | none =>
    obtain ⟨h2, h3⟩ := hnone rfl
    simp only at h2 h3
    subst h2 h3
    have : ys = [] := List.eq_nil_of_length_eq_zero (by rw [hu.len]; simp)
    subst this
    rw [List.append_nil] at hk
    exact ⟨s, W, run_append_owned_none (P := P) W B t t e i size ht hi _ _ xs ho, hk s W ho (Keeps.refl _ _) rfl fun b hb => .inl hb⟩
theorem arenaOnce_walk (W0 : World) (s : Sl) (hr : ∀ i, i < s.len → ∃ p x y, s.a = some p ∧ W0.cell? (p.add (i * 7)) = some (.int .i64 x) ∧ W0.cell? ((p.add (i * 7)).add 1) = some (.int .i64 y) ∧ (-9223372036854775808 ≤ x ∧ x ≤ 9223372036854775807) ∧ -9223372036854775808 ≤ y ∧ y ≤ 9223372036854775807) {K : Bool × Unit → World → Prop} (hk : ∀ W', Keeps [] W0 W' → K (true, ()) W') :
    callG Try.prog 7 [.slice s.a s.len s.cap] [.one .bool] W0 K := by
  apply call7
  unfold G7
  refine arenaUp_spec fun W1 k1 => anew_spec fun a W2 ha k2 ha2 => ifB_f rfl ?_
  refine ifD (fun _ => ifB_t rfl (hk W2 (k1.trans k2))) fun hlen => ?_
  have s1 := k1.size
  obtain ⟨iI, hiI, hzI, hsI, hbI⟩ := nInt
  refine LoopG.rule (fun v w => ∃ (i : Nat) (A : Nat → Prop) (ns : List (Option Nd)) (fr : List Nat) (us : Sl) (used : List Nat), i ≤ s.len ∧ ns.length ≤ i ∧ v = (s, true, some ⟨a, 0, none⟩, us, ((ns.length : Nat) : Int), (i : Int), ()) ∧ AO W0 w A a ns fr us used) (fun v _ => s.len - v.2.2.2.2.2.1.toNat)
    ⟨0, _, [], [], ⟨none, 0, 0⟩, [], Nat.zero_le _, Nat.le_refl _, rfl, k1.trans k2, ha2, fun b hb => Nat.le_trans s1 hb.1, OwnS.nil .., by simp [sblk], by simp, by simp, rfl⟩ ?_
  rintro v w ⟨i, A, ns, fr, us, used, hi, hni, rfl, ao⟩ C hC j
  dsimp only
  refine ifD (fun hlt => ?_) fun hge => hk w ao.k
  obtain ⟨p, x, y, hp, hx, hy, ⟨x0, x1⟩, y0, y1⟩ := hr i (by omega)
  have hul := ao.ul
  have hcnt := ao.cnt
  obtain ⟨sl, st, sf, xs, hax⟩ := ao.ar
  rw [hp]
  refine idx_some (by omega) (by omega) ?_
  rw [Int.toNat_natCast]
  refine ld_int (ao.k.cell hy (by simp)) ?_
  rw [w64 (by omega) (by omega)]
  refine arenaPick_spec y0 y1 (by omega) ?_
  obtain ⟨q0, q1⟩ := pickN_lt (c := y) (n := ((us.len : Nat) : Int) + 1) (by omega)
  generalize pickN y (((us.len : Nat) : Int) + 1) = kk at q0 q1 ⊢
  obtain ⟨k, rfl⟩ := Int.eq_ofNat_of_zero_le q0
  refine JoinG.rule (fun v w => ∃ (A : Nat → Prop) (ns' : List (Option Nd)) (fr : List Nat) (us : Sl) (used : List Nat), ns'.length ≤ i + 1 ∧ ns.length ≤ ns'.length ∧ (ns.length < ns'.length → used.length = ns'.length) ∧ v = (s, true, some ⟨a, 0, none⟩, us, ((ns.length : Nat) : Int), (i : Int), ()) ∧ AO W0 w A a ns' fr us used) ?_ fun B hB => ?_
  · rintro v w ⟨A, ns', fr, us, used, hn1, hn2, hn3, rfl, ao⟩ j
    dsimp only
    have hul := ao.ul
    have hcnt := ao.cnt
    refine JoinG.rule (fun v w' => w' = w ∧ v = (s, true, some ⟨a, 0, none⟩, us, ((ns'.length : Nat) : Int), (i : Int), ())) ?_ fun B hB => ?_
    · rintro v w' ⟨rfl, rfl⟩ j
      dsimp only
      obtain ⟨sl, st, sf, xs, hax⟩ := ao.ar
      refine aused_spec hax (by omega) (by omega) fun W3 k3 => ?_
      have h3 := hax.keep k3 (by simp)
      refine ifN (fun h => absurd h (by simp only; omega)) fun _ => alen_spec h3 (ifN (fun h => absurd rfl h) fun _ => ?_)
      rw [w64 (by omega) (by omega)]
      exact hC _ _ ⟨i + 1, A, ns', fr, us, used, by omega, hn1, rfl, ao.k.trans k3, ⟨sl, st, sf, xs, h3⟩, ao.A0, ao.ou.fresh k3 (by simp), ao.un, ao.uin, ao.nod, ao.cnt⟩ (by simp only; omega)
    · refine ifD (fun h => hB _ _ ⟨rfl, ?_⟩) fun h => hB _ _ ⟨rfl, ?_⟩
      · rw [hul, hn3 (by omega)]
      · have : ns.length = ns'.length := by
          rcases Nat.lt_or_ge ns.length ns'.length with h' | h'
          · have := hn3 h'; omega
          · omega
        rw [this]
  refine JoinG.rule (fun v w' => w' = w ∧ ∃ e : Bool, (e = false → k ≠ us.len) ∧ v = (s, true, some ⟨a, 0, none⟩, us, ((ns.length : Nat) : Int), (i : Int), (k : Int), e, ())) ?_ fun B2 hB2 => ?_
  · rintro v w' ⟨rfl, e, hek, rfl⟩ j2
    dsimp only
    refine ifB_i (fun _ => ?_) fun he => ?_
    · -- made
      have fin : ∀ {n : Nat} {W3 : World} {ns' : List (Option Nd)} {fr' : List Nat} {xx : Nd}, StepA A w' W3 → ArenaAt (AA A w' W3) W3 a ns' fr' → n ∉ used → ns'[n]? = some (some xx) → (∀ j ∈ used, ns'[j]? = ns[j]?) → ns'.length = used.length + 1 + fr'.length → ns'.length ≤ i + 1 → ns.length ≤ ns'.length → (ns.length < ns'.length → used.length + 1 = ns'.length) →
          LoopG (V := Sl × Bool × (Option Addr) × Sl × Int × Int × Int × Int × Unit) (s, true, some ⟨a, 0, none⟩, us, ((ns.length : Nat) : Int), (i : Int), (n : Int), 0, ()) W3 fun v21 W C23 => ∀ j22 : Nat → Value, ifB (decide ((v21.2.2.2.2.2.2.2.1 : Int) < ((v21.2.2.2.1.len : Nat) : Int))) (idx v21.2.2.2.1.a v21.2.2.2.1.len v21.2.2.2.2.2.2.2.1 fun p24 => ld1 (.int .i64) (p24.add (Int.toNat v21.2.2.2.2.2.2.2.1 * 1)) W fun (x25 : Int) => ifB ((x25 : Int) == v21.2.2.2.2.2.2.1) (K (false, ()) W) (C23 (v21.1, v21.2.1, v21.2.2.1, v21.2.2.2.1, v21.2.2.2.2.1, v21.2.2.2.2.2.1, v21.2.2.2.2.2.2.1, IntKind.i64.wrap (v21.2.2.2.2.2.2.2.1 + 1), ()) W)) (newG (.cells #[(.int .i64 v21.2.2.2.2.2.2.1)] 3) W fun b26 W => runG' Try.prog (.val (.one .sl)) (Builtin.append_ #[31, 31] 31 #[(.slice v21.2.2.2.1.a v21.2.2.2.1.len v21.2.2.2.1.cap), (.slice (some (Addr.mk b26 0 none)) 1 1)]) W fun (r27 : Sl) W => B (v21.1, v21.2.1, v21.2.2.1, r27, v21.2.2.2.2.1, v21.2.2.2.2.2.1, ()) W) := fun {n W3 ns' fr' xx} hst har hnu hn hold hc hl1 hl2 hl3 => by
        have k3 := hst.keeps ao.k ao.A0
        have z3 := hst.size
        have ou3 : OwnS W3 0 3 1 us (used.map frC) := by
          obtain ⟨S, hS, hkS⟩ := hst
          exact ao.ou.keep hkS fun b hb hm => (ao.un b hb).1 (hS b hm)
        refine LoopG.rule (fun v W' => W' = W3 ∧ ∃ z : Nat, z ≤ us.len ∧ v = (s, true, some ⟨a, 0, none⟩, us, ((ns.length : Nat) : Int), (i : Int), (n : Int), (z : Int), ())) (fun v _ => us.len - v.2.2.2.2.2.2.2.1.toNat) ⟨rfl, 0, Nat.zero_le _, rfl⟩ ?_
        rintro v W' ⟨rfl, z, hz, rfl⟩ C2 hC2 j3
        dsimp only
        refine ifD (fun hlt2 => ?_) fun hge2 => ?_
        · have hzl : z < used.length := by omega
          obtain ⟨g, hg, hcell⟩ := ou3.cell (j := z) (u := frC used[z]) (by rw [List.getElem?_map, List.getElem?_eq_getElem hzl]; rfl)
          refine ⟨_, hg, by omega, by omega, ?_⟩
          dsimp only
          rw [addr0, Int.toNat_natCast, Nat.mul_one]
          refine ld_int hcell (ifE (fun h => ?_) fun _ => ?_)
          · exact absurd (by have : used[z] = n := by omega
                             rw [← this]; exact List.getElem_mem hzl) hnu
          · rw [w64 (by omega) (by omega)]
            exact hC2 _ _ ⟨rfl, z + 1, by omega, by simp⟩ (by simp only; omega)
        · refine new_blk fun m W4 hm k4 e4 => ?_
          refine app_own' uInts hiI hzI hsI hbI rfl (by decide) (ou3.fresh k4 (by simp)) [.int .i64 (n : Int)] rfl (fun j u hj => by rw [addr0, e4.cell]; exact hj) (by simp [Value.oneCell']) (by omega) (by omega) (Nat.zero_le _) fun r W5 o5 k5 l5 n5 _ => ?_
          have z4 := k4.size
          have hAA : ∀ b ∈ sblk us, ¬ AA A w' W' b := fun b hb h => by
            have := (ao.ou.lt b hb).2
            rcases h with h | h
            · exact (ao.un b hb).1 h
            · have := h.1; omega
          obtain ⟨sl', st', sf', xs', h'⟩ := har
          refine hB _ _ ⟨AA A w' W', ns', fr', r, used ++ [n], hl1, hl2, fun h => by have := hl3 h; simpa using this, rfl, (k3.trans k4).push k5 fun b hb => (ao.un b hb).2, ⟨sl', st', sf', xs', (h'.keep k4 (by simp)).keep k5 hAA⟩, AA.lo ao.A0 ao.k.size, by rw [List.map_append]; exact o5, fun b hb => ?_, fun j hj => ?_, ?_, by simp; omega⟩
          · rcases n5 b hb with h1 | h1
            · exact ⟨hAA b h1, (ao.un b h1).2⟩
            · have hk0 := k3.size
              exact ⟨fun h => by
                have := h'.lt b h; have := h1.1; omega, by have := h1.1; omega⟩
          · rw [List.mem_append, List.mem_singleton] at hj
            rcases hj with hj | rfl
            · rw [hold j hj]; exact ao.uin j hj
            · exact ⟨xx, hn⟩
          · rw [List.nodup_append]
            exact ⟨ao.nod, by simp, fun b hb c hc => by simp at hc; subst hc; intro e; subst e; exact hnu hb⟩
      refine amake_spec (x := (false, ⟨none, 0, 0⟩, ⟨none, 0, 0⟩, ⟨none, 0, 0⟩, (i : Int))) hax (by omega) (by omega) (bare_node w' false i) (fun b hb => hb.elim) (bare_small false i) (fun fr0 m hfr W3 hst har => ?_) fun hfr W3 hst har => ?_
      · have hmn := hax.frn m (by rw [hfr]; simp)
        have hml := (List.getElem?_eq_some_iff.1 hmn).1
        refine fin hst har (fun hm => ?_) (xx := ⟨false, [], [], [], i⟩) (by rw [List.getElem?_set, if_pos rfl, if_pos hml]) (fun j hj => ?_) (by rw [List.length_set, hcnt, hfr]; simp; omega) (by rw [List.length_set]; omega) (by rw [List.length_set]; omega) (fun h => by rw [List.length_set] at h; omega)
        · obtain ⟨n', hn'⟩ := ao.uin m hm
          rw [hmn] at hn'; cases hn'
        · rw [List.getElem?_set, if_neg]
          intro e; subst e
          obtain ⟨n', hn'⟩ := ao.uin m hj
          rw [hmn] at hn'; cases hn'
      · subst hfr
        refine fin hst har (fun hm => ?_) (xx := ⟨false, [], [], [], i⟩) (by rw [List.getElem?_append_right (Nat.le_refl _)]; simp) (fun j hj => ?_) (by simp at hcnt ⊢; omega) (by simp; omega) (by simp) (fun h => by simp at hcnt ⊢; omega)
        · obtain ⟨n', hn'⟩ := ao.uin _ hm
          have := (List.getElem?_eq_some_iff.1 hn').1
          omega
        · obtain ⟨n', hn'⟩ := ao.uin j hj
          rw [List.getElem?_append_left (List.getElem?_eq_some_iff.1 hn').1]
    · -- freed
      have hkl : k < used.length := by have := hek he; omega
      obtain ⟨g, hg, hcell⟩ := ao.ou.cell (j := k) (u := frC used[k]) (by rw [List.getElem?_map, List.getElem?_eq_getElem hkl]; rfl)
      refine ⟨_, hg, by omega, by omega, ?_⟩
      dsimp only
      rw [addr0, Int.toNat_natCast, Nat.mul_one]
      refine ld_int hcell ?_
      obtain ⟨nk, hnk⟩ := ao.uin used[k] (List.getElem_mem hkl)
      have hth : there ns (used[k] : Int) = true := by unfold there; rw [Int.toNat_natCast, hnk]; simp
      refine afree_spec hax (by omega) (used[k] : Int) (fun h => by rw [hth] at h; cases h) fun _ W3 hst har => ?_
      rw [Int.toNat_natCast] at har
      refine ⟨er_ifc 0, ifB_f rfl (drw_intro fun W4 k4 _ => ⟨fun u => u = W4, rfl, ?_⟩)⟩
      have k3 := hst.keeps ao.k ao.A0
      have z3 := hst.size
      have z4 := k4.size
      have ou4 : OwnS W4 0 3 1 us (used.map frC) := by
        obtain ⟨S, hS, hkS⟩ := hst
        exact (ao.ou.keep hkS fun b hb hm => (ao.un b hb).1 (hS b hm)).fresh k4 (by simp)
      have rs4 := ou4.rs
      refine slc_rs rs4 (Int.le_refl _) (by omega) (by omega) fun r1 hr1 c1 c2 c3 c4 => ?_
      rw [w64 (by omega) (by omega)]
      refine slc_rs rs4 (by omega) (by omega) (Int.le_refl _) fun r2 hr2 f1 f2 f3 f4 => ?_
      refine new_blk fun m W5 hm k5 e5 => ?_
      have z5 := k5.size
      have hsplit : used = used.take k ++ used[k] :: used.drop (k + 1) := by rw [← List.drop_eq_getElem_cons hkl, List.take_append_drop]
      have e1 : (((used.map frC).drop (Int.toNat 0 * 1)).take ((((k : Nat) : Int).toNat - Int.toNat 0) * 1)) = (used.take k).map frC := by simp [List.map_take]
      have e2 : (((used.map frC).drop ((((k : Nat) : Int) + 1).toNat * 1)).take ((((us.len : Nat) : Int).toNat - (((k : Nat) : Int) + 1).toNat) * 1)) = (used.drop (k + 1)).map frC := by
        have hk1 : (((k : Nat) : Int) + 1).toNat = k + 1 := by omega
        rw [hk1, Nat.mul_one, Nat.mul_one, List.take_of_length_le (by simp; omega), List.map_drop]
      rw [e1] at hr1
      rw [e2] at hr2
      have one : ∀ (l : List Nat), ∀ u ∈ l.map frC, u.oneCell' = true := fun l u hu => by obtain ⟨y, _, rfl⟩ := List.mem_map.1 hu; rfl
      have n1 : us.a ≠ none := by rw [hg]; simp
      refine app_rs' uInts hiI hzI hsI hbI rfl (by decide) (OwnS.blank (B := 0) e5 (Nat.zero_le _)) (hr1.keep0 k5) (fun h => absurd (c4.1 h) n1) (one _) (by simp only; omega) (by simp only; omega) (Nat.zero_le _) fun r3 W6 o6 k6 l6 n6 => ?_
      have z6 := k6.size
      have k46 : Keeps [] W4 W6 := k5.push k6 (by simp [sblk, hm])
      simp only [List.nil_append] at o6
      refine app_rs' uInts hiI hzI hsI hbI rfl (by decide) o6 (hr2.keep0 k46) (fun h => absurd (f4.1 h) n1) (one _) (by simp only at l6; omega) (by simp only at l6; omega) (Nat.zero_le _) fun r5 W7 o7 k7 l7 n7 => ?_
      have lr3 : ∀ b ∈ sblk r3, W4.heap.size ≤ b := fun b hb => by
        rcases n6 b hb with h | h
        · simp [sblk] at h; omega
        · have := h.1; omega
      have lr5 : ∀ b ∈ sblk r5, W4.heap.size ≤ b := fun b hb => by
        rcases n7 b hb with h | h
        · exact lr3 b h
        · have := h.1; omega
      have k47 : Keeps [] W4 W7 := k46.push k7 lr3
      obtain ⟨sl', st', sf', xs', h'⟩ := har
      rw [← List.map_append] at o7
      have hnod := ao.nod
      rw [hsplit, List.nodup_append, List.nodup_cons] at hnod
      obtain ⟨d1, ⟨d2, d3⟩, d4⟩ := hnod
      have hmem : ∀ j ∈ used.take k ++ used.drop (k + 1), j ∈ used ∧ j ≠ used[k] := fun j hj => by
        rw [List.mem_append] at hj
        rcases hj with hj | hj
        · exact ⟨List.mem_of_mem_take hj, fun e => d4 j hj used[k] List.mem_cons_self e⟩
        · exact ⟨List.mem_of_mem_drop hj, fun e => d2 (e ▸ hj)⟩
      refine hB _ _ ⟨AA A w' W3, ns.set used[k] none, fr ++ [used[k]], r5, used.take k ++ used.drop (k + 1), by rw [List.length_set]; omega, by rw [List.length_set]; omega, fun h => by rw [List.length_set] at h; omega, rfl, (k3.trans k4).trans k47, ⟨sl', st', sf', xs', (h'.keep k4 (by simp)).keep k47 (by simp)⟩, AA.lo ao.A0 ao.k.size, o7, fun b hb => ?_, fun j hj => ?_, ?_, ?_⟩
      · have := lr5 b hb
        have := k3.size
        exact ⟨fun h => by have := h'.lt b h; omega, by omega⟩
      · obtain ⟨hj1, hj2⟩ := hmem j hj
        rw [List.getElem?_set, if_neg fun e => hj2 e.symm]
        exact ao.uin j hj1
      · rw [List.nodup_append]
        exact ⟨d1, d3, fun b hb c hc => d4 b hb c (List.mem_cons_of_mem _ hc)⟩
      · have hL : (used.take k ++ used.drop (k + 1)).length + 1 = used.length := by
          rw [List.length_append, List.length_take, List.length_drop, Nat.min_eq_left (by omega)]; omega
        have hF : (fr ++ [used[k]]).length = fr.length + 1 := by simp
        rw [List.length_set, hF]
        clear hsplit e1 e2 hmem
        omega
  · refine idx_some (by omega) (by omega) ?_
    try rw [Int.toNat_natCast]
    refine ld_int (ao.k.cell hx (by simp)) (arenaPick_spec x0 x1 (by decide) (ifD (fun _ => hB2 _ _ ⟨rfl, true, (fun h => by cases h), rfl⟩) fun _ => hB2 _ _ ⟨rfl, _, (fun h e => ?_), rfl⟩))
    simp at h
    omega

/-- A field's cells, of a struct that is read. -/
def fieldAt (P : Program) (t : TypeId) (i : Nat) : Option (Nat × TypeId) := match P.underlying t with
  | some (.struct fs) => fs[i]?.map fun f => (f.offset, f.type)
  | _ => none
theorem rd_field {P : Program} {W : World} {n : Nat} {t u : TypeId} {cs : List Value} {i off k : Nat} (hf : fieldAt P t i = some (off, u)) (hk : P.cellsOf u = k) (h : RdT P W n t cs) : ∃ m, cs.length = P.cellsOf t ∧ RdT P W m u ((cs.drop off).take k) := by
  unfold fieldAt at hf
  split at hf
  · rename_i fs hu
    obtain ⟨m, hl, hx⟩ := rd_struct hu h
    obtain ⟨f, h1, h2⟩ := Option.map_eq_some_iff.1 hf
    simp only [Prod.mk.injEq] at h2
    have := hx i f h1
    rw [h2.1, h2.2, hk] at this
    exact ⟨m, hl, this⟩
  · cases hf
theorem arenaOnce_row (W : World) (s : Sl) (m : Nat) (h : RdT Try.prog W m 69 [.slice s.a s.len s.cap]) :
    callG Try.prog 7 [.slice s.a s.len s.cap] [.one .bool] W fun x W' => x = (true, ()) ∧ Keeps [] W W' := by
  have hu : Try.prog.underlying 69 = some (.slice 77) := by kernel_rfl
  have hs : Try.prog.cellsOf 77 = 7 := by kernel_rfl
  have f0 : fieldAt Try.prog 77 0 = some (0, 3) := by kernel_rfl
  have f1 : fieldAt Try.prog 77 1 = some (1, 3) := by kernel_rfl
  have c3 : Try.prog.cellsOf 3 = 1 := by kernel_rfl
  obtain ⟨a, len, cap, m, hv, hl, hm, _, hx⟩ := rd_slice hu h
  obtain ⟨e1, e2, e3⟩ : s.a = a ∧ s.len = len ∧ s.cap = cap := by injection hv with h1 h2 h3; exact ⟨h1, h2, h3⟩
  refine arenaOnce_walk W s (fun i hi => ?_) fun W' k => ⟨rfl, k⟩
  obtain ⟨p, cs, hp, hc, hr⟩ := hx i (by omega)
  rw [hs] at hc
  obtain ⟨m0, l0, r0⟩ := rd_field f0 c3 hr
  obtain ⟨m1, l1, r1⟩ := rd_field f1 c3 hr
  rw [hs] at l0
  obtain ⟨v0, v1, v2, v3, v4, v5, v6, rfl⟩ := len7 l0
  obtain ⟨x, rfl, wx⟩ := rd_int uInt r0
  obtain ⟨y, rfl, wy⟩ := rd_int uInt r1
  refine ⟨p, x, y, by rw [e1, hp], by have h0 := hc.1; rwa [Addr.add_zero'] at h0, hc.2.1, bounds_i64 wx, bounds_i64 wy⟩
end Go.Proofs.Ytbaclnddcobdmaa
