/-
  Sorting in place, over blocks of numbers: slices.SortStableFunc.
-/
import Derived.Test.YtalniaipgdbbcaaSort3
set_option linter.unusedSimpArgs false
set_option linter.unusedVariables false
namespace Go.Proofs.Ytalniaipgdbbcaa
open Go Go.Gp Go.Ga Go.Th
section
variable {H : HP} {blk t : Nat} {s : Sl} {n c : Nat} {cmp : Int → Int → Int} {lt : Int → Int → Prop}
def Shape (bs : Nat) : List (List Int) → Prop
  | [] => True
  | [C] => 0 < C.length ∧ C.length ≤ bs
  | C :: r => C.length = bs ∧ Shape bs r
structure Parts (cmp : Int → Int → Int) (lt : Int → Int → Prop) (S : List Int) (Cs : List (List Int)) : Prop where
  rise : ∀ C ∈ Cs, Rise lt C
  ah : Cs.Pairwise (Ahead cmp lt)
  perm : Cs.flatten.Perm S
theorem shape_cons {bs : Nat} {C : List Int} {r : List (List Int)} (h : Shape bs (C :: r)) : 0 < C.length ∧ C.length ≤ bs ∧ Shape bs r ∧ (r ≠ [] → C.length = bs) := by
  cases r with
  | nil => exact ⟨h.1, h.2, trivial, fun h => absurd rfl h⟩
  | cons D r =>
    have hD : 0 < bs := by
      have := shape_cons h.2
      omega
    exact ⟨by rw [h.1]; exact hD, Nat.le_of_eq h.1, h.2, fun _ => h.1⟩
theorem shape_mk {bs : Nat} {C : List Int} {r : List (List Int)} (h1 : 0 < C.length) (h2 : C.length ≤ bs) (h3 : Shape bs r) (h4 : r ≠ [] → C.length = bs) : Shape bs (C :: r) := by
  cases r with
  | nil => exact ⟨h1, h2⟩
  | cons D r => exact ⟨h4 (by simp), h3⟩
theorem shape_app {bs : Nat} : ∀ {D E : List (List Int)}, (∀ C ∈ D, C.length = bs) → 0 < bs → Shape bs E → Shape bs (D ++ E)
  | [], _, _, _, h => h
  | C :: D, E, hD, h0, hE => shape_mk (by rw [hD C (by simp)]; exact h0) (Nat.le_of_eq (hD C (by simp))) (shape_app (fun x hx => hD x (by simp [hx])) h0 hE) fun _ => hD C (by simp)
theorem flat_len {bs : Nat} : ∀ {D : List (List Int)}, (∀ C ∈ D, C.length = bs) → D.flatten.length = D.length * bs
  | [], _ => by simp
  | C :: D, h => by
    rw [List.flatten_cons, List.length_append, flat_len fun x hx => h x (by simp [hx]), h C (by simp), List.length_cons, Nat.add_mul, Nat.one_mul, Nat.add_comm]
theorem parts_merge {S : List Int} {D R : List (List Int)} {A B C : List Int} (h : Parts cmp lt S (D ++ A :: B :: R)) (hp : C.Perm (A ++ B)) (hr : Rise lt C) : Parts cmp lt S (D ++ C :: R) := by
  have hm : ∀ x ∈ C, x ∈ A ∨ x ∈ B := fun x hx => List.mem_append.1 (hp.subset hx)
  have h0 := List.pairwise_append.1 h.ah
  have h1 := List.pairwise_cons.1 h0.2.1
  have h2 := List.pairwise_cons.1 h1.2
  refine ⟨fun X hX => ?_, List.pairwise_append.2 ⟨h0.1, List.pairwise_cons.2 ⟨fun X hX x hx y hy => ?_, h2.2⟩, fun X hX Y hY => ?_⟩, ?_⟩
  · rcases List.mem_append.1 hX with hX | hX
    · exact h.rise X (by simp [hX])
    · rcases List.mem_cons.1 hX with rfl | hX
      · exact hr
      · exact h.rise X (by simp [hX])
  · rcases hm x hx with hx | hx
    · exact h1.1 X (by simp [hX]) x hx y hy
    · exact h2.1 X hX x hx y hy
  · rcases List.mem_cons.1 hY with rfl | hY
    · exact fun x hx y hy => (hm y hy).elim (fun hy => h0.2.2 X hX A (by simp) x hx y hy) fun hy => h0.2.2 X hX B (by simp) x hx y hy
    · exact h0.2.2 X hX Y (by simp [hY])
  · refine List.Perm.trans ?_ h.perm
    simp only [List.flatten_append, List.flatten_cons]
    refine List.Perm.append_left _ ?_
    rw [← List.append_assoc]
    exact List.Perm.append_right _ hp
theorem parts_ah {S : List Int} {D R : List (List Int)} {A B : List Int} (h : Parts cmp lt S (D ++ A :: B :: R)) : Rise lt A ∧ Rise lt B ∧ Ahead cmp lt A B :=
  ⟨h.rise A (by simp), h.rise B (by simp), (List.pairwise_cons.1 (List.pairwise_append.1 h.ah).2.1).1 B (by simp)⟩
theorem c_stable (g : Srt H blk t s n c cmp lt) (S : List Int) (hl : S.length = n) (ho : OrdI cmp lt S) (K : HT [] → HP → Prop) (hk : ∀ C : List Int, C.Perm S → Rise lt C → K () (Hx H blk t s C)) :
    C124 s (n : Int) [c] (Hx H blk t s S) K := callA124 _ _ _ _ _ (by
  unfold A124
  have hbig := g.big
  refine LoopA_i (fun v H' => ∃ (D : List (List Int)) (T R : List Int), v = ((s, (n : Int), [c], 20, ((D.length * 20 : Nat) : Int), ((D.length * 20 + 20 : Nat) : Int), ()), ()) ∧ S = T ++ R ∧ (∀ C ∈ D, C.length = 20) ∧ Parts cmp lt T D ∧ H' = Hx H blk t s (D.flatten ++ R)) (fun v _ => (n + 20 - v.1.2.2.2.2.2.1).toNat) ⟨[], [], S, rfl, by simp, by simp, ⟨by simp, by simp, by simp⟩, by simp⟩ ?_
  rintro v H' ⟨D, T, R, rfl, rfl, hD, hP, rfl⟩
  dsimp only
  have lD := flat_len hD
  have lT := hP.perm.length_eq
  have lS : T.length + R.length = n := by rw [← hl, List.length_append]
  have ho' := ho.app
  refine ifLe (fun h1 => ?_) fun h1 => ?_
  · have eR : R.take 20 ++ R.drop 20 = R := List.take_append_drop _ _
    have l1 : (R.take 20).length = 20 := by rw [List.length_take]; omega
    have hoR := ho'.2.1
    rw [← eR] at hoR
    have e : D.flatten ++ R = D.flatten ++ (R.take 20 ++ R.drop 20) := by rw [eR]
    rw [e]
    refine c_ins g D.flatten (R.take 20) (R.drop 20) (by rw [← e, List.length_append]; omega) hoR.app.1 (by rw [lD]) (by rw [lD, l1]) _ fun C p r => ?_
    rw [wI (by omega) (by omega)]
    refine ⟨⟨D ++ [C], T ++ R.take 20, R.drop 20, ?_, by rw [List.append_assoc, eR], fun X hX => ?_, ⟨fun X hX => ?_, List.pairwise_append.2 ⟨hP.ah, by simp, fun X hX Y hY => ?_⟩, ?_⟩, by simp⟩, by omega⟩
    · have e1 : ((D.length * 20 + 20 : Nat) : Int) + 20 = (((D ++ [C]).length * 20 + 20 : Nat) : Int) := by rw [List.length_append, List.length_cons, List.length_nil]; omega
      have e2 : ((D.length * 20 + 20 : Nat) : Int) = (((D ++ [C]).length * 20 : Nat) : Int) := by rw [List.length_append, List.length_cons, List.length_nil]; omega
      rw [e1, e2]
    · rcases List.mem_append.1 hX with hX | hX
      · exact hD X hX
      · obtain rfl : X = C := by simpa using hX
        rw [p.length_eq, l1]
    · rcases List.mem_append.1 hX with hX | hX
      · exact hP.rise X hX
      · obtain rfl : X = C := by simpa using hX
        exact r
    · obtain rfl : Y = C := by simpa using hY
      exact ho'.2.2.sub (fun x hx => hP.perm.subset (List.mem_flatten.2 ⟨X, hX, hx⟩)) fun y hy => List.mem_of_mem_take (p.subset hy)
    · rw [List.flatten_append]
      exact hP.perm.append (by simpa using p)
  · have e : D.flatten ++ R = D.flatten ++ (R ++ []) := by simp
    rw [e]
    refine c_ins g D.flatten R [] (by rw [← e, List.length_append]; omega) ho'.2.1 (by rw [lD]) (by rw [lD]; omega) _ fun C p r => ?_
    rw [List.append_nil]
    have lC := p.length_eq
    have base : ∃ Cs : List (List Int), Shape 20 Cs ∧ Parts cmp lt (T ++ R) Cs ∧ D.flatten ++ C = Cs.flatten := by
      by_cases hC : C = []
      · subst hC
        have hR : R = [] := List.eq_nil_of_length_eq_zero (by simpa using lC.symm)
        subst hR
        refine ⟨D, by have := shape_app (E := []) hD (by decide) trivial; rwa [List.append_nil] at this, by rw [List.append_nil]; exact hP, by simp⟩
      · refine ⟨D ++ [C], shape_app hD (by decide) ⟨List.length_pos_iff.2 hC, by omega⟩, ⟨fun X hX => ?_, List.pairwise_append.2 ⟨hP.ah, by simp, fun X hX Y hY => ?_⟩, ?_⟩, by simp⟩
        · rcases List.mem_append.1 hX with hX | hX
          · exact hP.rise X hX
          · obtain rfl : X = C := by simpa using hX
            exact r
        · obtain rfl : Y = C := by simpa using hY
          exact ho'.2.2.sub (fun x hx => hP.perm.subset (List.mem_flatten.2 ⟨X, hX, hx⟩)) fun y hy => p.subset hy
        · rw [List.flatten_append]
          exact hP.perm.append (by simpa using p)
    obtain ⟨Cs, hsh, hPs, eCs⟩ := base
    rw [eCs]
    clear eCs
    refine LoopA_i (fun v H' => ∃ (bs : Nat) (Cs : List (List Int)), v = ((s, (n : Int), [c], (bs : Int), ()), ()) ∧ 0 < bs ∧ bs ≤ 2000020 ∧ Shape bs Cs ∧ Parts cmp lt (T ++ R) Cs ∧ H' = Hx H blk t s Cs.flatten) (fun v _ => (n - v.1.2.2.2.1).toNat) ⟨20, Cs, rfl, by decide, by decide, hsh, hPs, rfl⟩ ?_
    rintro v H' ⟨bs, Cs, rfl, b0, b1, hsh, hPs, rfl⟩
    dsimp only
    have lCs := hPs.perm.length_eq
    rw [hl] at lCs
    refine ifLt (fun h2 => ?_) fun h2 => ?_
    · have w2 : IntKind.i64.wrap (2 * (bs : Int)) = ((2 * bs : Nat) : Int) := by rw [wI (by omega) (by omega)]; omega
      have w3 : IntKind.i64.wrap ((bs : Int) * 2) = ((2 * bs : Nat) : Int) := by rw [wI (by omega) (by omega)]; omega
      rw [w2]
      refine LoopA_i (fun v H' => ∃ (D R' : List (List Int)), v = ((s, (n : Int), [c], (bs : Int), ((D.length * (2 * bs) : Nat) : Int), ((D.length * (2 * bs) + 2 * bs : Nat) : Int), ()), ()) ∧ (∀ C ∈ D, C.length = 2 * bs) ∧ Shape bs R' ∧ Parts cmp lt (T ++ R) (D ++ R') ∧ H' = Hx H blk t s (D ++ R').flatten) (fun v _ => (n + 2 * bs - v.1.2.2.2.2.2.1).toNat) ⟨[], Cs, by simp, by simp, hsh, by simpa using hPs, by simp⟩ ?_
      rintro v H' ⟨D, R', rfl, hD, hR, hP', rfl⟩
      dsimp only
      rw [w2, w3]
      have lD := flat_len hD
      have lA := hP'.perm.length_eq
      rw [hl, List.flatten_append, List.length_append, lD] at lA
      have next : ∀ (E : List (List Int)), Shape (2 * bs) E → Parts cmp lt (T ++ R) E → (∃ (bs' : Nat) (Cs' : List (List Int)), (((s, (n : Int), [c], ((2 * bs : Nat) : Int), ()), ()) : (Sl × Int × List Nat × Int × Unit) × Unit) = ((s, (n : Int), [c], (bs' : Int), ()), ()) ∧ 0 < bs' ∧ bs' ≤ 2000020 ∧ Shape bs' Cs' ∧ Parts cmp lt (T ++ R) Cs' ∧ Hx H blk t s E.flatten = Hx H blk t s Cs'.flatten) ∧ (n - (((2 * bs : Nat) : Int))).toNat < ((n : Int) - (bs : Int)).toNat := fun E h1 h2 => ⟨⟨2 * bs, E, rfl, by omega, by omega, h1, h2, rfl⟩, by omega⟩
      rw [show IntKind.i64.wrap (((D.length * (2 * bs) : Nat) : Int) + (bs : Int)) = ((D.length * (2 * bs) + bs : Nat) : Int) from by rw [wI (by omega) (by omega)]; omega]
      refine ifLe (fun h3 => ?_) fun h3 => ?_
      · -- two more are made one
        match R', hR, hP', lA with
        | [], _, _, lA => simp only [List.flatten_cons, List.flatten_nil, List.length_append, List.length_nil] at lA; omega
        | [A], hR, _, lA => have := hR.2; simp only [List.flatten_cons, List.flatten_nil, List.length_append, List.length_nil] at lA; omega
        | A :: B :: R', hR, hP', lA =>
          have hA : A.length = bs := hR.1
          have hB := shape_cons hR.2
          have lB : B.length = bs := by
            by_cases hR0 : R' = []
            · subst hR0; simp only [List.flatten_cons, List.flatten_nil, List.length_append, List.length_nil] at lA; have := hB.2.1; omega
            · exact hB.2.2.2 hR0
          obtain ⟨r1, r2, ah⟩ := parts_ah hP'
          rw [show (D ++ A :: B :: R').flatten = D.flatten ++ (A ++ (B ++ R'.flatten)) from by simp]
          refine c_sym g ho.tr _ D.flatten A B R'.flatten _ (Nat.le_refl _) (List.length_pos_iff.1 (by omega)) (List.length_pos_iff.1 (by omega)) (by simp only [List.length_append, lD]; simp only [List.flatten_cons, List.flatten_nil, List.length_append, List.length_nil] at lA; omega) r1 r2 ah (fun C p r => ?_) (by rw [lD]) (by rw [lD, hA]) (by rw [lD, hA, lB]; omega)
          rw [wI (by omega) (by omega)]
          refine ⟨⟨D ++ [C], R', ?_, fun X hX => ?_, hB.2.2.1, by simpa using parts_merge hP' p r, by simp⟩, by omega⟩
          · rw [List.length_append, List.length_cons, List.length_nil, Nat.add_mul]
            have : ((D.length * (2 * bs) + (0 + 1) * (2 * bs) + 2 * bs : Nat) : Int) = ((D.length * (2 * bs) + 2 * bs : Nat) : Int) + ((2 * bs : Nat) : Int) := by omega
            rw [this]
            have : ((D.length * (2 * bs) + (0 + 1) * (2 * bs) : Nat) : Int) = ((D.length * (2 * bs) + 2 * bs : Nat) : Int) := by omega
            rw [this]
          · rcases List.mem_append.1 hX with hX | hX
            · exact hD X hX
            · obtain rfl : X = C := by simpa using hX
              rw [p.length_eq, List.length_append]; omega
      · -- what is left
        match R', hR, hP', lA with
        | [], _, hP', lA =>
          refine ifF (decide_eq_false (by simp only [List.flatten_cons, List.flatten_nil, List.length_append, List.length_nil] at lA; omega)) ?_
          exact next (D ++ []) (shape_app (E := []) hD (by omega) trivial) hP'
        | [A], hR, hP', lA =>
          refine ifF (decide_eq_false (by simp only [List.flatten_cons, List.flatten_nil, List.length_append, List.length_nil] at lA; have := hR.2; omega)) ?_
          exact next (D ++ [A]) (shape_app (E := [A]) hD (by omega) ⟨hR.1, by have := hR.2; omega⟩) hP'
        | A :: B :: R', hR, hP', lA =>
          have hA : A.length = bs := hR.1
          have hB := shape_cons hR.2
          have hR0 : R' = [] := Classical.byContradiction fun hc => by
            have := hB.2.2.2 hc
            simp only [List.flatten_cons, List.flatten_nil, List.length_append, List.length_nil] at lA
            omega
          subst hR0
          simp only [List.flatten_cons, List.flatten_nil, List.length_append, List.length_nil] at lA
          obtain ⟨r1, r2, ah⟩ := parts_ah hP'
          refine ifT (decide_eq_true (by omega)) ?_
          rw [show (D ++ [A, B]).flatten = D.flatten ++ (A ++ (B ++ [])) from by simp]
          refine c_sym g ho.tr _ D.flatten A B [] _ (Nat.le_refl _) (List.length_pos_iff.1 (by omega)) (List.length_pos_iff.1 hB.1) (by simp only [List.length_append, lD, List.length_nil]; omega) r1 r2 ah (fun C p r => ?_) (by rw [lD]) (by rw [lD, hA]) (by rw [lD, hA]; omega)
          have lC := p.length_eq
          rw [List.length_append] at lC
          have := next (D ++ [C]) (shape_app (E := [C]) hD (by omega) ⟨by omega, by omega⟩) (parts_merge hP' p r)
          simpa using this
    · -- one part
      have one : Rise lt Cs.flatten := by
        match Cs, hsh, hPs, lCs with
        | [], _, _, _ => simp
        | [A], _, hPs, _ => simpa using hPs.rise A (by simp)
        | A :: B :: r, hsh, _, lCs =>
          have h1 : A.length = bs := hsh.1
          have h2 := (shape_cons hsh.2).1
          simp at lCs
          omega
      exact hk _ hPs.perm one)
theorem c_sortst (g : Srt H blk t s n c cmp lt) (S : List Int) (hl : S.length = n) (ho : OrdI cmp lt S) (K : HT [] → HP → Prop) (hk : ∀ C : List Int, C.Perm S → Rise lt C → K () (Hx H blk t s C)) :
    C103 s [c] (Hx H blk t s S) K := callA103 _ _ _ _ (by
  unfold A103
  rw [g.len]
  exact c_stable g S hl ho _ hk)
end
end Go.Proofs.Ytalniaipgdbbcaa
