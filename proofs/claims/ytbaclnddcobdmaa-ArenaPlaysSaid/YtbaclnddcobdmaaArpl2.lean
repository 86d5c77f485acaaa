/-
  The arena's functions, over data.
-/
import Derived.Test.YtbaclnddcobdmaaArpl1
set_option linter.unusedSimpArgs false
set_option linter.unusedVariables false
namespace Go.Proofs.Ytbaclnddcobdmaa
open Go Go.Gp Go.Ga Go.Th
def isA (l : List Nd) (th : List Bool) (i : Int) : Bool := decide (0 ≤ i) && (decide (i < (l.length : Int)) && th.getD i.toNat false)
theorem isA_at {l : List Nd} {th : List Bool} {i : Int} (h : isA l th i = true) : ∃ j : Nat, i = j ∧ j < l.length := by
  unfold isA at h
  simp only [Bool.and_eq_true, decide_eq_true_eq] at h
  exact ⟨i.toNat, by omega, by omega⟩
abbrev zeroNd : Nd := (false, [], [], [], 0)
abbrev ArV := List Nd × List Bool × List Int
structure ArOk (v : ArV) : Prop where
  len : v.2.1.length = v.1.length
  fr : ∀ q ∈ v.2.2, ∃ j : Nat, q = (j : Int) ∧ j < v.1.length
  big : v.1.length ≤ 100000
  bigf : v.2.2.length ≤ 100000
  nd : ∀ x ∈ v.1, NdOk x
def mkS (v : ArV) (x : Nd) : Int × ArV :=
  match v.2.2.getLast? with
  | some q => (q, v.1.set q.toNat x, v.2.1.set q.toNat true, v.2.2.dropLast)
  | none => ((v.1.length : Int), v.1 ++ [x], v.2.1 ++ [true], [])
def frS (v : ArV) (i : Int) : ArV := (v.1.set i.toNat zeroNd, v.2.1.set i.toNat false, v.2.2 ++ [i])
theorem noArrA {H : HP} {n : Nat} {v : ArV} (h : H n = some ⟨kAR, v⟩) : ∀ t s' xs', H n ≠ some ⟨.arr IK t, (s', xs')⟩ := fun t s' xs' e => by rw [h] at e; injection e with e; injection e with e; cases e
theorem noArrM {H : HP} {n : Nat} {v : ArV} (h : H n = some ⟨kMA, v⟩) : ∀ t s' xs', H n ≠ some ⟨.arr IK t, (s', xs')⟩ := fun t s' xs' e => by rw [h] at e; injection e with e; injection e with e; cases e
theorem nil_orI (T : List Int) : T = [] ∨ ∃ D g, T = D ++ [g] := by
  rcases List.eq_nil_or_concat T with h | ⟨D, g, h⟩
  · exact .inl h
  · exact .inr ⟨D, g, by rw [h, List.concat_eq_append]⟩
section
variable {H : HP} {n : Nat} {l : List Nd} {th : List Bool} {fr : List Int}
theorem c_ais (hn : H n = some ⟨kAR, (l, th, fr)⟩) (hl : th.length = l.length) (i : Int) (K : HT [(false, .one .bool)] → HP → Prop) (hk : K (isA l th i, ()) H) : C96 (some n) i H K := callA96 _ _ _ _ (by
  unfold A96
  unfold isA at hk
  refine refA_r (ldO_r hn (ifD (fun h0 => lenA_i fun _ => ifD (fun h1 => ?_) fun h1 => ?_) fun h0 => ?_))
  · have h0 : i ≥ 0 := h0
    have h1 : i < (l.length : Int) := h1
    obtain ⟨j, rfl⟩ : ∃ j : Nat, i = j := ⟨i.toNat, by omega⟩
    have hj : j < th.length := by omega
    refine inA_i (by dsimp only; omega) (elA_i (List.getElem?_eq_getElem hj) ?_)
    rw [back hn]
    rw [decide_eq_true (by omega : (0 : Int) ≤ j), decide_eq_true (by omega : (j : Int) < l.length), Int.toNat_natCast, List.getD_eq_getElem?_getD, List.getElem?_eq_getElem hj] at hk
    exact hk
  · have h1 : ¬ i < (l.length : Int) := h1
    rw [back hn]
    rw [decide_eq_false h1, Bool.false_and, Bool.and_false] at hk; exact hk
  · rw [back hn]
    rw [decide_eq_false (show ¬ 0 ≤ i from h0), Bool.false_and] at hk; exact hk)
theorem c_mis (hn : H n = some ⟨kMA, (l, th, fr)⟩) (hl : th.length = l.length) (i : Int) (K : HT [(false, .one .bool)] → HP → Prop) (hk : K (isA l th i, ()) H) : C65 (some n) i H K := callA65 _ _ _ _ (by
  unfold A65
  unfold isA at hk
  refine refA_r (ldO_r hn (ifD (fun h0 => ?_) fun h0 => lenA_i fun _ => ifD (fun h1 => ?_) fun h1 => ?_))
  · have h0 : i < 0 := h0
    rw [back hn]
    rw [decide_eq_false (show ¬ 0 ≤ i from by omega), Bool.false_and] at hk; exact hk
  · have h1 : i ≥ (l.length : Int) := h1
    rw [back hn]
    rw [decide_eq_false (show ¬ i < (l.length : Int) from by omega), Bool.false_and, Bool.and_false] at hk; exact hk
  · have h0 : ¬ i < 0 := h0
    have h1 : ¬ i ≥ (l.length : Int) := h1
    obtain ⟨j, rfl⟩ : ∃ j : Nat, i = j := ⟨i.toNat, by omega⟩
    have hj : j < th.length := by omega
    refine inA_i (by dsimp only; omega) (elA_i (List.getElem?_eq_getElem hj) ?_)
    rw [back hn]
    rw [decide_eq_true (by omega : (0 : Int) ≤ j), decide_eq_true (by omega : (j : Int) < l.length), Int.toNat_natCast, List.getD_eq_getElem?_getD, List.getElem?_eq_getElem hj] at hk
    exact hk)
theorem c_aused (hn : H n = some ⟨kAR, (l, th, fr)⟩) (hb : l.length ≤ 100000) (hb' : fr.length ≤ 100000) (K : HT [(false, .one (.int .i64))] → HP → Prop) (hk : K ((l.length : Int) - fr.length, ()) H) : C48 (some n) H K := callA48 _ _ _ (by
  unfold A48
  refine refA_r (ldO_r hn (lenA_i fun _ => lenA_i fun _ => ?_))
  rw [back hn]
  dsimp only
  rw [w64 (by omega) (by omega)]
  exact hk)
theorem c_alen (hn : H n = some ⟨kAR, (l, th, fr)⟩) (K : HT [(false, .one (.int .i64))] → HP → Prop) (hk : K ((l.length : Int), ()) H) : C49 (some n) H K := callA49 _ _ _ (by
  unfold A49
  refine refA_r (ldO_r hn (lenA_i fun _ => ?_))
  rw [back hn]
  exact hk)
theorem c_anew (K : HT [(false, .ref)] → HP → Prop) (hk : ∀ n, H n = none → K (some n, ()) (H.set n kAR ([], [], []))) : C44 H K := callA44 _ _ (by
  unfold A44
  exact fun n hn => hk n hn)
theorem c_aget (hn : H n = some ⟨kAR, (l, th, fr)⟩) (hl : th.length = l.length) (ho : ∀ x ∈ l, NdOk x) (i : Int) (K : HT [(true, kNK), (false, .one .bool)] → HP → Prop) (no : isA l th i = false → K (rawN zeroNd ⟨none, 0, 0⟩, false, ()) H) (yes : ∀ (j : Nat) x, i = (j : Int) → isA l th i = true → l[j]? = some x → ∀ s H', KidsAt H' s x.2.2.2.1 → H.le H' → K (rawN x s, true, ()) H') : G.C69 (some n) i H K := G.callA69 _ _ _ _ (by
  unfold G.A69
  refine retH_i _ (fun K' hk' => c_ais hn hl i K' hk') (ifNot (fun h => no h) fun h => ?_)
  have h : isA l th i = true := h
  obtain ⟨j, rfl, hj⟩ := isA_at h
  have hx := List.getElem?_eq_getElem hj
  refine refA_r (ldO_r hn (inA_i hj (elA_i hx ?_)))
  rw [back hn]
  refine g_copied l[j] (ho _ (List.getElem_mem hj)) H _ fun s H' hp => ?_
  obtain ⟨a, b⟩ := KidsAt.pub hp
  exact yes j _ rfl h hx s H' a b)
theorem c_aset (hn : H n = some ⟨kAR, (l, th, fr)⟩) (hl : th.length = l.length) (x : Nd) (hx : NdOk x) {s : Sl} (hs : KidsAt H s x.2.2.2.1) (i : Int) (K : HT [(false, .one .any)] → HP → Prop) (h0 : isA l th i = false → K (.iface 29 (.int .i64 3), ()) H) (h1 : isA l th i = true → K (.nilIface, ()) (H.set n kAR (l.set i.toNat x, th, fr))) : C68 (some n) i (rawN x s) H K := callA68 _ _ _ _ _ (by
  unfold A68
  refine retH_i _ (fun K' hk' => c_ais hn hl i K' hk') (ifNot (fun h => h0 h) fun h => ?_)
  have hk := h1 h
  obtain ⟨j, rfl, hj⟩ := isA_at h
  refine refA_r (ldO_r hn (retH_i _ (fun K' hk' => c_copied x hx (hs.del (noArrA hn)) K' hk') (inA_i hj (elA_i (List.getElem?_eq_getElem hj) ?_))))
  rw [delset]
  exact hk)
theorem c_afree (hn : H n = some ⟨kAR, (l, th, fr)⟩) (hl : th.length = l.length) (hb : fr.length ≤ 100000) (i : Int) (K : HT [(false, .one .any)] → HP → Prop) (h0 : isA l th i = false → K (.iface 29 (.int .i64 3), ()) H) (h1 : isA l th i = true → K (.nilIface, ()) (H.set n kAR (frS (l, th, fr) i))) : C47 (some n) i H K := callA47 _ _ _ _ (by
  unfold A47
  refine retH_i _ (fun K' hk' => c_ais hn hl i K' hk') (ifNot (fun h => h0 h) fun h => ?_)
  have hk := h1 h
  obtain ⟨j, rfl, hj⟩ := isA_at h
  have hj2 : j < th.length := by omega
  refine refA_r (ldO_r hn (inA_i hj (elA_i (List.getElem?_eq_getElem hj) (inA_i hj2 (elA_i (List.getElem?_eq_getElem hj2) (appA_i (by dsimp only; omega) ?_))))))
  rw [delset]
  exact hk)
theorem c_amake (hn : H n = some ⟨kAR, (l, th, fr)⟩) (ok : ArOk (l, th, fr)) (x : Nd) (hx : NdOk x) {s : Sl} (hs : KidsAt H s x.2.2.2.1) (K : HT [(false, .one (.int .i64))] → HP → Prop) (hk : K ((mkS (l, th, fr) x).1, ()) (H.set n kAR (mkS (l, th, fr) x).2)) : C46 (some n) (rawN x s) H K := callA46 _ _ _ _ (by
  unfold A46
  obtain ⟨hl, hfr, hb, hbf, _⟩ := ok
  dsimp only at hl hfr hb hbf
  have hs' := hs.del (noArrA hn)
  rcases nil_orI fr with rfl | ⟨D, q, rfl⟩
  · refine refA_r (ldO_r hn (lenA_i fun _ => ifF rfl (retH_i _ (fun K' hk' => c_copied x hx hs' K' hk') (appA_i (by dsimp only; omega) (appA_i (by dsimp only; omega) (lenA_i fun _ => ?_))))))
    rw [delset]
    have : IntKind.i64.wrap (((l ++ [x]).length : Int) - 1) = l.length := by
      rw [List.length_append, List.length_singleton, w64 (by omega) (by omega)]; omega
    show K (IntKind.i64.wrap (((l ++ [x]).length : Int) - 1), ()) _
    rw [this]
    exact hk
  · obtain ⟨j, rfl, hq⟩ := hfr q (by simp)
    have e : IntKind.i64.wrap ((((D ++ [(j : Int)]).length : Nat) : Int) - 1) = (D.length : Nat) := by
      rw [List.length_append, List.length_singleton] at hbf ⊢
      rw [w64 (by omega) (by omega)]; omega
    have hq2 : j < th.length := by omega
    have em : mkS (l, th, D ++ [(j : Int)]) x = ((j : Int), l.set j x, th.set j true, D) := by
      unfold mkS
      simp
    rw [em] at hk
    refine refA_r (ldO_r hn (lenA_i fun _ => ?_))
    dsimp only
    rw [e]
    refine ifT (decide_eq_true (by omega)) (inA_i (by simp) (elA_i (x := (j : Int)) (by simp) (slcA_z (a := 0) (b := D.length) rfl rfl (Nat.zero_le _) (by simp) ⟨rfl, retH_i _ (fun K' hk' => c_copied x hx hs' K' hk') (inA_i hq (elA_i (List.getElem?_eq_getElem hq) (inA_i hq2 (elA_i (List.getElem?_eq_getElem hq2) ?_))))⟩)))
    rw [delset]
    have e2 : List.take (D.length - 0) (D ++ [(j : Int)]) = D := by rw [Nat.sub_zero, List.take_left']; rfl
    rw [e2]
    exact hk)
theorem c_mmake (hn : H n = some ⟨kMA, (l, th, fr)⟩) (ok : ArOk (l, th, fr)) (x : Nd) (K : HT [(false, .one (.int .i64))] → HP → Prop) (hk : K ((mkS (l, th, fr) x).1, ()) (H.set n kMA (mkS (l, th, fr) x).2)) : C66 (some n) x H K := callA66 _ _ _ _ (by
  unfold A66
  obtain ⟨hl, hfr, hb, hbf, _⟩ := ok
  dsimp only at hl hfr hb hbf
  rcases nil_orI fr with rfl | ⟨D, q, rfl⟩
  · refine refA_r (ldO_r hn (lenA_i fun _ => ifF rfl (appA_i (by dsimp only; omega) (appA_i (by dsimp only; omega) (lenA_i fun _ => ?_)))))
    rw [delset]
    have : IntKind.i64.wrap (((l ++ [x]).length : Int) - 1) = l.length := by
      rw [List.length_append, List.length_singleton, w64 (by omega) (by omega)]; omega
    show K (IntKind.i64.wrap (((l ++ [x]).length : Int) - 1), ()) _
    rw [this]
    exact hk
  · obtain ⟨j, rfl, hq⟩ := hfr q (by simp)
    have e : IntKind.i64.wrap ((((D ++ [(j : Int)]).length : Nat) : Int) - 1) = (D.length : Nat) := by
      rw [List.length_append, List.length_singleton] at hbf ⊢
      rw [w64 (by omega) (by omega)]; omega
    have hq2 : j < th.length := by omega
    have em : mkS (l, th, D ++ [(j : Int)]) x = ((j : Int), l.set j x, th.set j true, D) := by
      unfold mkS
      simp
    rw [em] at hk
    refine refA_r (ldO_r hn (lenA_i fun _ => ?_))
    dsimp only
    rw [e]
    refine ifT (decide_eq_true (by rw [List.length_append, List.length_singleton]; omega)) (inA_i (by simp) (elA_i (x := (j : Int)) (by simp) (slcA_z (a := 0) (b := D.length) rfl rfl (Nat.zero_le _) (by simp) ⟨rfl, (inA_i hq (elA_i (List.getElem?_eq_getElem hq) (inA_i hq2 (elA_i (List.getElem?_eq_getElem hq2) ?_))))⟩)))
    rw [delset]
    have e2 : List.take (D.length - 0) (D ++ [(j : Int)]) = D := by rw [Nat.sub_zero, List.take_left']; rfl
    rw [e2]
    exact hk)
theorem c_nodes (x : Nd) (hx : NdOk x) {s : Sl} (hs : KidsAt H s x.2.2.2.1) (K : HT [(false, .one .bool)] → HP → Prop) (hk : K (true, ()) H) : C70 (rawN x s) x H K := callA70 _ _ _ _ (by
  unfold A70
  obtain ⟨lf, ps, ks, kd, nx⟩ := x
  have hlen := hs.len
  have hkb := hx.keys
  have hdb := hx.kids
  dsimp only at hlen hs hkb hdb
  refine retA_i _ (c_pairs ps ps) (ifF (by simp) (ifF (by simp) (ifF (by simp) (lenA_i fun _ => lenA_i fun _ => ifF (by simp) (lenA_i fun _ => ifF ?_ ?_)))))
  · dsimp only; rw [hlen]; simp
  refine loop_n ks.length (fun i => (((), (), (i : Int), ()), (lf, ps, ks, s, nx, ()), (lf, ps, ks, kd, nx, ()), ())) (fun _ => True) rfl trivial fun i C hi _ hC => ?_
  dsimp only
  refine lenA_i fun _ => ifLt (fun h1 => ?_) fun h1 => ?_
  · refine atA_lt h1 (atA_lt h1 ?_)
    rw [strB_eq, w1 (by omega)]
    exact ifF (by simp) (hC h1 trivial)
  refine loop_n kd.length (fun i => (((), (), (i : Int), ()), (lf, ps, ks, s, nx, ()), (lf, ps, ks, kd, nx, ()), ())) (fun _ => True) rfl trivial fun i C hi _ hC => ?_
  dsimp only
  rw [hlen]
  refine ifLt (fun h1 => ?_) fun h1 => hk
  rcases hs with ⟨_, h⟩ | ⟨m, a1, a2, _⟩
  · rw [h] at h1; simp at h1
  have hg := List.getElem?_eq_getElem h1
  refine arrA_r a2 rfl (by rw [hlen]; exact h1) (ldE_r a1 hg (atA_g rfl hg (ifF (by simp) ?_)))
  rw [w1 (by omega)]
  exact hC h1 trivial)
end
end Go.Proofs.Ytbaclnddcobdmaa
