/-
  Sorting in place, over blocks of numbers: changes of places, rotations, insertion.
-/
import Derived.Test.YtalniaipgdbbcaaDsort
import Derived.Test.YtalniaipgdbbcaaKt
import Derived.Test.YtalniaipgdbbcaaKd
set_option linter.unusedSimpArgs false
set_option linter.unusedVariables false
namespace Go.Proofs.Ytalniaipgdbbcaa
open Go Go.Gp Go.Ga Go.Th
abbrev IK : AK := .one (.int .i64)
abbrev Hx (H : HP) (blk t : Nat) (s : Sl) (xs : List Int) : HP := H.set blk (.arr IK t) (s, xs)
structure Srt (H : HP) (blk t : Nat) (s : Sl) (n : Nat) (c : Nat) (cmp : Int → Int → Int) (lt : Int → Int → Prop) : Prop where
  at0 : s.a = some ⟨blk, 0, none⟩
  len : s.len = n
  big : n ≤ 1000000
  cmp : ∀ (xs : List Int) (y x : Int) (K : HT [(false, .one (.int .i64))] → HP → Prop), (lt x y ∨ lt y x) → K (cmp y x, ()) (Hx H blk t s xs) → callA Try.prog 104 [(false, IK), (false, IK), (false, .ref)] (y, x, some c, ()) [(false, IK)] (Hx H blk t s xs) K
section
variable {H : HP} {blk t : Nat} {s : Sl} {n c : Nat} {cmp : Int → Int → Int} {lt : Int → Int → Prop}
theorem rdI (g : Srt H blk t s n c cmp lt) {xs : List Int} {i : Nat} {x z : Int} {K : Int → Prop} (hz : z = (i : Int)) (hl : xs.length = n) (hx : xs[i]? = some x) (h : K x) : arrA s z 1 fun p => ldE IK p (Hx H blk t s xs) K :=
  arrA_r g.at0 hz (by rw [g.len, ← hl]; exact (List.getElem?_eq_some_iff.1 hx).1) (ldE_r (hp_at _ _ _ _) hx h)
theorem swI (g : Srt H blk t s n c cmp lt) {xs : List Int} {p q : Nat} {xp xq zp zq : Int} {K : Int → Int → (Int → HP) → Prop} (hp : zp = (p : Int)) (hq : zq = (q : Int)) (hl : xs.length = n) (hxp : xs[p]? = some xp) (hxq : xs[q]? = some xq) (h : K xp xq fun v => Hx H blk t s ((xs.set q xp).set p v)) :
    arrA s zp 1 fun a1 => ldE IK a1 (Hx H blk t s xs) fun n1 => arrA s zq 1 fun a2 => ldE IK a2 (Hx H blk t s xs) fun n2 => arrA s zq 1 fun a3 => stE IK a3 (Hx H blk t s xs) fun _ B1 => arrA s zp 1 fun a4 => stE IK a4 (B1 n1) fun _ B2 => K n1 n2 B2 := by
  refine rdI g hp hl hxp (rdI g hq hl hxq ?_)
  refine arrA_r g.at0 hq (by rw [g.len, ← hl]; exact (List.getElem?_eq_some_iff.1 hxq).1) (stE_r (hp_at _ _ _ _) hxq ?_)
  have hlp := (List.getElem?_eq_some_iff.1 hxp).1
  refine arrA_r g.at0 hp (by rw [g.len, ← hl]; exact hlp) (stE_r (e := IK) (xs := xs.set q xp) (x := (xs.set q xp)[p]'(by rw [List.length_set]; exact hlp)) (t := t) (s := s) ?_ (List.getElem?_eq_getElem _) ?_)
  · exact hp_at _ _ _ _
  · have e : (fun v : Int => ((Hx H blk t s xs).set blk (.arr IK t) (s, xs.set q xp)).set blk (.arr IK t) (s, (xs.set q xp).set p v)) = fun v => Hx H blk t s ((xs.set q xp).set p v) := funext fun v => by rw [hp_set2, hp_set2]
    show K xp xq (fun v : Int => ((Hx H blk t s xs).set blk (.arr IK t) (s, xs.set q xp)).set blk (.arr IK t) (s, (xs.set q xp).set p v))
    rw [e]
    exact h
theorem c_swr (g : Srt H blk t s n c cmp lt) (P A M B Q : List Int) (hab : A.length = B.length) (hl : (P ++ (A ++ (M ++ (B ++ Q)))).length = n) {za zb zn : Int} (ha : za = (P.length : Int)) (hb : zb = ((P.length + A.length + M.length : Nat) : Int)) (hn : zn = (A.length : Int)) (K : HT [] → HP → Prop) (hk : K () (Hx H blk t s (P ++ (B ++ (M ++ (A ++ Q)))))) :
    C148 s za zb zn [c] (Hx H blk t s (P ++ (A ++ (M ++ (B ++ Q))))) K := callA148 _ _ _ _ _ _ _ (by
  subst ha hb hn
  unfold A148
  have hbig := g.big
  simp only [List.length_append] at hl
  refine loop_h A.length (fun i v H' => v = ((s, (P.length : Int), ((P.length + A.length + M.length : Nat) : Int), (A.length : Int), (i : Int), ()), ()) ∧ H' = Hx H blk t s (P ++ (B.take i ++ (A.drop i ++ (M ++ (A.take i ++ (B.drop i ++ Q))))))) ⟨rfl, by simp⟩ ?_
  rintro i v H' C hi ⟨rfl, rfl⟩ hC
  dsimp only at hC ⊢
  refine ifLt (fun h1 => ?_) fun h1 => ?_
  · have hbi : i < B.length := by omega
    have eA := drop_cons h1
    have eB := drop_cons hbi
    have e : P ++ (B.take i ++ (A.drop i ++ (M ++ (A.take i ++ (B.drop i ++ Q))))) = (P ++ B.take i) ++ A[i] :: ((A.drop (i + 1) ++ (M ++ A.take i)) ++ B[i] :: (B.drop (i + 1) ++ Q)) := by rw [eA, eB]; simp only [List.append_assoc, List.cons_append]
    have l1 : (P ++ B.take i).length = P.length + i := by simp; omega
    have l2 : (A.drop (i + 1) ++ (M ++ A.take i)).length = A.length - 1 + M.length := by simp; omega
    rw [e]
    refine swI g (p := P.length + A.length + M.length + i) (q := P.length + i) (by rw [wI (by omega) (by omega)]; omega) (by rw [wI (by omega) (by omega)]; omega) (by simp; omega) (get_two (by rw [l1, l2]; omega)) (get_mid l1.symm) ?_
    dsimp only
    rw [upd_two l1.symm (by rw [l1, l2]; omega)]
    refine hC h1 _ _ ⟨by rw [w1 (by omega)], ?_⟩
    rw [take_snoc hbi, take_snoc h1]
    simp only [List.append_assoc, List.cons_append, List.nil_append]
  · obtain rfl : i = A.length := by omega
    have e1 : B.take A.length = B := by rw [hab, List.take_length]
    have e2 : B.drop A.length = [] := by rw [hab, List.drop_length]
    rw [e1, e2, List.take_length, List.drop_length]
    simpa using hk)
theorem c_rot (g : Srt H blk t s n c cmp lt) (P A B Q : List Int) (hA : A ≠ []) (hB : B ≠ []) (hl : (P ++ (A ++ (B ++ Q))).length = n) {za zm zb : Int} (ha : za = (P.length : Int)) (hm : zm = ((P.length + A.length : Nat) : Int)) (hb : zb = ((P.length + A.length + B.length : Nat) : Int)) (K : HT [] → HP → Prop) (hk : K () (Hx H blk t s (P ++ (B ++ (A ++ Q))))) :
    C144 s za zm zb [c] (Hx H blk t s (P ++ (A ++ (B ++ Q)))) K := callA144 _ _ _ _ _ _ _ (by
  subst ha hm hb
  unfold A144
  have hbig := g.big
  have lA : 0 < A.length := List.length_pos_iff.2 hA
  have lB : 0 < B.length := List.length_pos_iff.2 hB
  have hl0 := hl
  simp only [List.length_append] at hl
  rw [show IntKind.i64.wrap (((P.length + A.length : Nat) : Int) - (P.length : Int)) = (A.length : Int) from by rw [wI (by omega) (by omega)]; omega, show IntKind.i64.wrap (((P.length + A.length + B.length : Nat) : Int) - ((P.length + A.length : Nat) : Int)) = (B.length : Int) from by rw [wI (by omega) (by omega)]; omega]
  refine LoopA_i (fun v H' => ∃ X A' B' Y : List Int, v = ((s, ((P.length + A.length : Nat) : Int), [c], (A'.length : Int), (B'.length : Int), ()), ()) ∧ 0 < A'.length ∧ 0 < B'.length ∧ X.length + A'.length = A.length ∧ H' = Hx H blk t s (P ++ (X ++ (A' ++ (B' ++ (Y ++ Q))))) ∧ X ++ (B' ++ (A' ++ Y)) = B ++ A) (fun v _ => (v.1.2.2.2.1 + v.1.2.2.2.2.1).toNat) ⟨[], A, B, [], rfl, lA, lB, by simp, by simp, by simp⟩ ?_
  rintro v H' ⟨X, A', B', Y, rfl, l1, l2, l3, rfl, e⟩
  dsimp only
  have eL := congrArg List.length e
  simp only [List.length_append] at eL
  refine ifB_i (fun hne => ifD (fun hgt => ?_) fun hgt => ?_) fun hne => ?_
  · have hgt : (A'.length : Int) > (B'.length : Int) := hgt
    have eA : A'.take B'.length ++ A'.drop B'.length = A' := List.take_append_drop _ _
    have h1 : (A'.take B'.length).length = B'.length := by simp; omega
    have h2 : (A'.drop B'.length).length = A'.length - B'.length := by simp
    have e1 : P ++ (X ++ (A' ++ (B' ++ (Y ++ Q)))) = (P ++ X) ++ (A'.take B'.length ++ (A'.drop B'.length ++ (B' ++ (Y ++ Q)))) := by rw [← List.append_assoc (A'.take _), eA]; simp
    rw [e1]
    refine c_swr g (P ++ X) (A'.take B'.length) (A'.drop B'.length) B' (Y ++ Q) h1 (by rw [← e1]; simp; omega) (by rw [wI (by omega) (by omega)]; simp; omega) (by simp; omega) (by rw [h1]) _ ?_
    refine ⟨⟨X ++ B', A'.drop B'.length, A'.take B'.length, Y, ?_, by omega, by omega, by simp; omega, by simp, ?_⟩, ?_⟩
    · rw [wI (by omega) (by omega), h1, h2, show ((A'.length - B'.length : Nat) : Int) = (A'.length : Int) - (B'.length : Int) from by omega]
    · rw [← e, ← List.append_assoc (A'.take _), eA]; simp
    · rw [wI (by omega) (by omega)]; omega
  · have hgt : ¬ (A'.length : Int) > (B'.length : Int) := hgt
    have hne : (A'.length : Int) ≠ (B'.length : Int) := by simpa using hne
    have eB : B'.take (B'.length - A'.length) ++ B'.drop (B'.length - A'.length) = B' := List.take_append_drop _ _
    have h1 : (B'.take (B'.length - A'.length)).length = B'.length - A'.length := by simp
    have h2 : (B'.drop (B'.length - A'.length)).length = A'.length := by simp; omega
    have e1 : P ++ (X ++ (A' ++ (B' ++ (Y ++ Q)))) = (P ++ X) ++ (A' ++ (B'.take (B'.length - A'.length) ++ (B'.drop (B'.length - A'.length) ++ (Y ++ Q)))) := by rw [← List.append_assoc (B'.take _), eB]; simp
    rw [e1]
    refine c_swr g (P ++ X) A' (B'.take (B'.length - A'.length)) (B'.drop (B'.length - A'.length)) (Y ++ Q) h2.symm (by rw [← e1]; simp; omega) (by rw [wI (by omega) (by omega)]; simp; omega) (by rw [wI (x := ((P.length + A.length : Nat) : Int) + (B'.length : Int)) (by omega) (by omega), wI (by omega) (by omega)]; simp; omega) rfl _ ?_
    refine ⟨⟨X, B'.drop (B'.length - A'.length), B'.take (B'.length - A'.length), A' ++ Y, ?_, by omega, by omega, by omega, by simp, ?_⟩, ?_⟩
    · rw [wI (by omega) (by omega), h1, h2, show ((B'.length - A'.length : Nat) : Int) = (B'.length : Int) - (A'.length : Int) from by omega]
    · rw [← e, ← List.append_assoc (B'.take _), ← List.append_assoc (B'.take _ ++ _)] ; simp only [eB]; simp
    · rw [wI (by omega) (by omega)]; omega
  · have hne : (A'.length : Int) = (B'.length : Int) := by simpa using hne
    rw [show P ++ (X ++ (A' ++ (B' ++ (Y ++ Q)))) = (P ++ X) ++ (A' ++ ([] ++ (B' ++ (Y ++ Q)))) from by simp]
    refine c_swr g (P ++ X) A' [] B' (Y ++ Q) (by omega) (by simp; omega) (by rw [wI (by omega) (by omega)]; simp; omega) (by simp; omega) rfl _ ?_
    rw [show (P ++ X) ++ (B' ++ ([] ++ (A' ++ (Y ++ Q)))) = P ++ ((X ++ (B' ++ (A' ++ Y))) ++ Q) from by simp, e]
    simpa using hk)
theorem c_ins (g : Srt H blk t s n c cmp lt) (P S Q : List Int) (hl : (P ++ (S ++ Q)).length = n) (ho : OrdI cmp lt S) {za zb : Int} (ha : za = (P.length : Int)) (hb : zb = ((P.length + S.length : Nat) : Int)) (K : HT [] → HP → Prop) (hk : ∀ C : List Int, C.Perm S → Rise lt C → K () (Hx H blk t s (P ++ (C ++ Q)))) :
    C136 s za zb [c] (Hx H blk t s (P ++ (S ++ Q))) K := callA136 _ _ _ _ _ _ (by
  subst ha hb
  unfold A136
  have hbig := g.big
  simp only [List.length_append] at hl
  rw [w1 (by omega)]
  refine loop_h S.length (fun r v H' => ∃ D : List Int, v = ((s, (P.length : Int), ((P.length + S.length : Nat) : Int), [c], ((P.length + 1 + r : Nat) : Int), ()), ()) ∧ D.Perm (S.take (r + 1)) ∧ Rise lt D ∧ H' = Hx H blk t s (P ++ (D ++ (S.drop (r + 1) ++ Q)))) ⟨S.take 1, rfl, .refl _, ?_, by rw [← List.append_assoc (S.take 1), List.take_append_drop]⟩ ?_
  · cases S with
    | nil => exact .nil
    | cons x S => simp
  rintro r v H' C hr ⟨D, rfl, hp, hD, rfl⟩ hC
  dsimp only at hC ⊢
  refine ifLt (fun h1 => ?_) fun h1 => ?_
  · have hlt : r + 1 < S.length := by omega
    obtain ⟨y, R, eS, eT, eR⟩ : ∃ y R, S.drop (r + 1) = y :: R ∧ S.take (r + 1 + 1) = S.take (r + 1) ++ [y] ∧ S.drop (r + 1 + 1) = R := ⟨S[r + 1], S.drop (r + 1 + 1), drop_cons hlt, take_snoc hlt, rfl⟩
    rw [eT, eR] at hC
    have lR : S.length = r + 1 + 1 + R.length := by rw [← eR, List.length_drop]; omega
    have hDl := hp.length_eq
    rw [List.length_take] at hDl
    have hpw : ∀ z ∈ D, (cmp y z < 0 ↔ lt y z) ∧ (lt z y ∨ lt y z) := fun z hz => by
      have h := ho.pw
      rw [← List.take_append_drop (r + 1) S, eS] at h
      exact (List.pairwise_append.1 h).2.2 z (hp.subset hz) _ List.mem_cons_self
    refine LoopA_i (fun v H' => ∃ D1 D2 : List Int, v = ((s, (P.length : Int), ((P.length + S.length : Nat) : Int), [c], ((P.length + 1 + r : Nat) : Int), ((P.length + D1.length : Nat) : Int), ()), ()) ∧ D1 ++ D2 = D ∧ (∀ z ∈ D2, lt y z) ∧ H' = Hx H blk t s (P ++ (D1 ++ y :: (D2 ++ (R ++ Q))))) (fun v _ => v.1.2.2.2.2.2.1.toNat) ⟨D, [], ?_, by simp, by simp, by rw [eS]; simp⟩ ?_
    · rw [show P.length + D.length = P.length + 1 + r from by omega]
    rintro v H' ⟨D1, D2, rfl, e, h2, rfl⟩
    dsimp only
    have done : (∀ z ∈ D1, lt z y) → C ((s, (P.length : Int), ((P.length + S.length : Nat) : Int), [c], IntKind.i64.wrap (((P.length + 1 + r : Nat) : Int) + 1), ()), ()) (Hx H blk t s (P ++ (D1 ++ y :: (D2 ++ (R ++ Q))))) := fun h => by
      refine hC (by omega) _ _ ⟨D1 ++ y :: D2, by rw [w1 (by omega), show P.length + 1 + r + 1 = P.length + 1 + (r + 1) from by omega], ?_, ?_, by simp⟩
      · refine List.Perm.trans List.perm_middle (.trans ?_ (List.perm_append_comm (l₁ := [y])))
        exact (List.Perm.cons _ (by rw [e]; exact hp))
      · rw [← e] at hD
        have := rise_app.1 hD
        refine rise_app.2 ⟨this.1, List.pairwise_cons.2 ⟨h2, this.2.1⟩, fun x hx y hy => ?_⟩
        rcases List.mem_cons.1 hy with rfl | hy
        · exact h x hx
        · exact this.2.2 x hx y hy
    refine ifGt (fun h3 => ?_) fun h3 => ?_
    · have hne : D1 ≠ [] := fun e => by subst e; simp at h3
      obtain ⟨E, z, rfl⟩ : ∃ E z, D1 = E ++ [z] := ⟨D1.dropLast, D1.getLast hne, (List.dropLast_concat_getLast hne).symm⟩
      have lE : (E ++ [z]).length = E.length + 1 := by simp
      have eL := congrArg List.length e
      simp only [List.length_append, List.length_cons, List.length_nil] at eL
      have shape : P ++ ((E ++ [z]) ++ y :: (D2 ++ (R ++ Q))) = (P ++ E) ++ z :: ([] ++ y :: (D2 ++ (R ++ Q))) := by simp
      have hlen : ((P ++ E) ++ z :: ([] ++ y :: (D2 ++ (R ++ Q)))).length = n := by simp; omega
      have lPE : (P ++ E).length = P.length + E.length := by simp
      have wj : IntKind.i64.wrap (((P.length + (E ++ [z]).length : Nat) : Int) - 1) = ((P.length + E.length : Nat) : Int) := by rw [wI (by omega) (by omega)]; omega
      have done' := done
      rw [shape] at done' ⊢
      rw [wj]
      refine rdI g (i := P.length + E.length + 1) (x := y) (z := ((P.length + (E ++ [z]).length : Nat) : Int)) (by rw [lE, Nat.add_assoc]) hlen (get_two (by rw [lPE]; simp)) (rdI g (x := z) rfl hlen (get_mid lPE.symm) (capA_r ⟨rfl, g.cmp _ _ _ _ (hpw z (by rw [← e]; simp)).2 (ifD (fun h4 => ?_) fun h4 => ?_)⟩))
      · have h4 : cmp y z < 0 := h4
        refine swI g (p := P.length + E.length) (q := P.length + E.length + 1) (zq := ((P.length + (E ++ [z]).length : Nat) : Int)) rfl (by rw [lE, Nat.add_assoc]) hlen (get_mid lPE.symm) (get_two (by rw [lPE]; simp)) ?_
        dsimp only
        rw [List.set_comm _ _ (by omega), upd_two lPE.symm (by rw [lPE]; simp)]
        refine ⟨⟨E, z :: D2, rfl, by rw [← e]; simp, fun w hw => ?_, by simp⟩, by rw [lE]; omega⟩
        rcases List.mem_cons.1 hw with rfl | hw
        · exact (hpw w (by rw [← e]; simp)).1.1 h4
        · exact h2 w hw
      · have h4 : ¬ cmp y z < 0 := h4
        refine done' fun w hw => ?_
        have hz := hpw z (by rw [← e]; simp)
        have hzl : lt z y := hz.2.resolve_right fun h => h4 (hz.1.2 h)
        rcases List.mem_append.1 hw with hw | hw
        · have : Rise lt (E ++ [z]) := by rw [← e] at hD; exact (rise_app.1 hD).1
          exact ho.tr _ _ _ ((rise_app.1 this).2.2 w hw z (by simp)) hzl
        · obtain rfl : w = z := by simpa using hw
          exact hzl
    · have : D1 = [] := List.eq_nil_of_length_eq_zero (by omega)
      exact done fun z hz => by subst this; simp at hz
  · have e : S.take (r + 1) = S := List.take_of_length_le (by omega)
    rw [e] at hp
    rw [List.drop_eq_nil_of_le (show S.length ≤ r + 1 by omega)]
    exact hk D hp hD)
end
end Go.Proofs.Ytalniaipgdbbcaa
