/-
  Sorting in place, over blocks of numbers: merging.
-/
import Derived.Test.YtalniaipgdbbcaaSort1
set_option linter.unusedSimpArgs false
set_option linter.unusedVariables false
namespace Go.Proofs.Ytalniaipgdbbcaa
open Go Go.Gp Go.Ga Go.Th
theorem halfS (i j : Nat) (h : i + j < 9223372036854775807) : IntKind.i64.wrap (shrI .u64 (IntKind.u64.wrap (IntKind.i64.wrap ((i : Int) + (j : Int)))) 1) = (((i + j) / 2 : Nat) : Int) := by
  rw [w64 (x := (i : Int) + j) (by omega) (by omega)]
  have h1 : IntKind.u64.wrap ((i : Int) + (j : Int)) = ((i + j : Nat) : Int) := by
    unfold IntKind.wrap
    simp only [IntKind.signed, IntKind.bits, Bool.false_and, Bool.false_eq_true, if_false]
    omega
  rw [h1]
  have h2 : shrI .u64 ((i + j : Nat) : Int) 1 = (((i + j) / 2 : Nat) : Int) := by
    unfold shrI
    have : (2 : Int) ^ (min ((1 : Int).toNat) IntKind.u64.bits) = 2 := by decide
    rw [this, Int.fdiv_eq_ediv_of_nonneg _ (by omega)]
    omega
  rw [h2, w64 (by omega) (by omega)]
theorem JoinA_s {V : Type} {B : V → HP → Prop} {A : (V → HP → Prop) → Prop} (P : V → HP → Prop) (hB : ∀ v H, P v H → B v H) (h : ∀ C : V → HP → Prop, (∀ v H, P v H → C v H) → A C) : JoinA B A := h B hB
section
variable {H : HP} {blk t : Nat} {s : Sl} {n c : Nat} {cmp : Int → Int → Int} {lt : Int → Int → Prop}
theorem rise_ins {lt : Int → Int → Prop} {B1 B2 : List Int} {x : Int} (h : Rise lt (B1 ++ B2)) (h1 : ∀ y ∈ B1, lt y x) (h2 : ∀ y ∈ B2, lt x y) : Rise lt (B1 ++ x :: B2) := by
  have := rise_app.1 h
  refine rise_app.2 ⟨this.1, List.pairwise_cons.2 ⟨h2, this.2.1⟩, fun y hy z hz => ?_⟩
  rcases List.mem_cons.1 hz with rfl | hz
  · exact h1 y hy
  · exact this.2.2 y hy z hz
theorem take_lt {lt : Int → Int → Prop} (tr : ∀ x y z, lt x y → lt y z → lt x z) {B : List Int} (hB : Rise lt B) {h : Nat} (hh : h < B.length) {x : Int} (hx : lt B[h] x) : ∀ y ∈ B.take (h + 1), lt y x := fun y hy => by
  rw [take_snoc hh] at hy
  rcases List.mem_append.1 hy with hy | hy
  · rw [← List.take_append_drop h B, drop_cons hh] at hB
    exact tr _ _ _ ((rise_app.1 hB).2.2 y hy _ List.mem_cons_self) hx
  · obtain rfl : y = B[h] := by simpa using hy
    exact hx
theorem drop_lt {lt : Int → Int → Prop} (tr : ∀ x y z, lt x y → lt y z → lt x z) {B : List Int} (hB : Rise lt B) {h : Nat} (hh : h < B.length) {x : Int} (hx : lt x B[h]) : ∀ y ∈ B.drop h, lt x y := fun y hy => by
  rw [drop_cons hh] at hy
  rw [← List.take_append_drop h B, drop_cons hh] at hB
  rcases List.mem_cons.1 hy with rfl | hy
  · exact hx
  · exact tr _ _ _ hx ((List.pairwise_cons.1 (rise_app.1 hB).2.1).1 y hy)
theorem sym_left (g : Srt H blk t s n c cmp lt) (P B Q : List Int) (x : Int) (hl : (P ++ ([x] ++ (B ++ Q))).length = n) (tr : ∀ x y z, lt x y → lt y z → lt x z) (hB : Rise lt B) (hah : Ahead cmp lt [x] B) (K : HT [] → HP → Prop) (hk : ∀ C : List Int, C.Perm ([x] ++ B) → Rise lt C → K () (Hx H blk t s (P ++ (C ++ Q)))) :
    A137 s (P.length : Int) ((P.length + 1 : Nat) : Int) ((P.length + 1 + B.length : Nat) : Int) [c] (Hx H blk t s (P ++ ([x] ++ (B ++ Q)))) K := by
  unfold A137
  have hbig := g.big
  have hl0 := hl
  simp only [List.length_append, List.length_cons, List.length_nil] at hl
  refine ifT (by rw [wI (by omega) (by omega), beq_iff_eq]; omega) ?_
  refine LoopA_i (fun v H' => H' = Hx H blk t s (P ++ ([x] ++ (B ++ Q))) ∧ ∃ i j : Nat, v = ((s, (P.length : Int), [c], ((P.length + 1 + i : Nat) : Int), ((P.length + 1 + j : Nat) : Int), ()), ()) ∧ i ≤ j ∧ j ≤ B.length ∧ (∀ y ∈ B.take i, lt y x) ∧ (∀ y ∈ B.drop j, lt x y)) (fun v _ => (v.1.2.2.2.2.1 - v.1.2.2.2.1).toNat) ⟨rfl, 0, B.length, rfl, Nat.zero_le _, Nat.le_refl _, by simp, by simp⟩ ?_
  rintro v H' ⟨rfl, i, j, rfl, hij, hj, h1, h2⟩
  dsimp only
  refine ifLt (fun h3 => ?_) fun h3 => ?_
  · rw [halfS _ _ (by omega)]
    obtain ⟨h, hh1, hh2, hh3⟩ : ∃ h, (P.length + 1 + i + (P.length + 1 + j)) / 2 = P.length + 1 + h ∧ i ≤ h ∧ h < j := ⟨(i + j) / 2, by omega, by omega, by omega⟩
    rw [hh1]
    have hhB : h < B.length := by omega
    have hah := hah x (by simp) B[h] (List.getElem_mem hhB)
    have eB : P ++ ([x] ++ (B ++ Q)) = (P ++ [x] ++ B.take h) ++ B[h] :: (B.drop (h + 1) ++ Q) := by
      conv => lhs; rw [← List.take_append_drop h B, drop_cons hhB]
      simp only [List.append_assoc, List.cons_append]
    refine ⟨by decide, rdI g (i := P.length + 1 + h) rfl hl0 (x := B[h]) (by rw [eB]; exact get_mid (by simp; omega)) (rdI g (i := P.length) rfl hl0 (x := x) (get_mid rfl) (capA_r ⟨rfl, g.cmp _ _ _ _ hah.2 (ifD (fun h4 => ?_) fun h4 => ?_)⟩))⟩
    · have h4 : cmp B[h] x < 0 := h4
      rw [w1 (by omega)]
      refine ⟨⟨rfl, h + 1, j, by rw [Nat.add_assoc], by omega, hj, take_lt tr hB hhB (hah.1.1 h4), h2⟩, by omega⟩
    · have h4 : ¬ cmp B[h] x < 0 := h4
      refine ⟨⟨rfl, i, h, rfl, by omega, by omega, h1, drop_lt tr hB hhB (hah.2.resolve_right fun hc => h4 (hah.1.2 hc))⟩, by omega⟩
  · obtain rfl : i = j := by omega
    have key : Rise lt (B.take i ++ x :: B.drop i) := rise_ins (by rw [List.take_append_drop]; exact hB) h1 h2
    have perm : (B.take i ++ x :: B.drop i).Perm ([x] ++ B) := by
      refine List.perm_middle.trans ?_
      rw [List.take_append_drop]; exact .refl _
    have hk2 := hk _ perm key
    clear hk key perm
    generalize hB1 : B.take i = B1 at hk2
    have hB2 : B = B1 ++ B.drop i := by rw [← hB1, List.take_append_drop]
    generalize B.drop i = B2 at hk2 hB2
    have lB1 : B1.length = i := by rw [← hB1, List.length_take]; omega
    subst hB2
    simp only [List.length_append] at hl hj
    refine loop_h B1.length (fun r v H' => v = ((s, ((P.length + 1 + i : Nat) : Int), ((P.length + r : Nat) : Int), ()), ()) ∧ H' = Hx H blk t s (P ++ (B1.take r ++ x :: (B1.drop r ++ (B2 ++ Q))))) ⟨rfl, by simp⟩ ?_
    rintro r v H' C hr ⟨rfl, rfl⟩ hC
    dsimp only at hC ⊢
    rw [show IntKind.i64.wrap (((P.length + 1 + i : Nat) : Int) - 1) = ((P.length + i : Nat) : Int) from by rw [wI (by omega) (by omega)]; omega]
    refine ifLt (fun h5 => ?_) fun h5 => ?_
    · have hr' : r < B1.length := by omega
      have e : P ++ (B1.take r ++ x :: (B1.drop r ++ (B2 ++ Q))) = (P ++ B1.take r) ++ x :: ([] ++ B1[r] :: (B1.drop (r + 1) ++ (B2 ++ Q))) := by
        rw [drop_cons hr']; simp only [List.append_assoc, List.cons_append, List.nil_append]
      have l1 : (P ++ B1.take r).length = P.length + r := by simp; omega
      rw [e]
      refine swI g (p := P.length + r + 1) (q := P.length + r) (by rw [w1 (by omega)]) rfl (by simp; omega) (get_two (by rw [l1]; simp)) (get_mid l1.symm) ?_
      dsimp only
      rw [upd_two l1.symm (by rw [l1]; simp)]
      refine hC hr' _ _ ⟨by rw [w1 (by omega)]; rfl, ?_⟩
      rw [take_snoc hr']
      simp only [List.append_assoc, List.cons_append, List.nil_append]
    · obtain rfl : r = B1.length := by omega
      rw [List.take_length, List.drop_length]
      simpa using hk2
theorem sym_right (g : Srt H blk t s n c cmp lt) (P A Q : List Int) (y : Int) (hA1 : A.length ≠ 1) (hl : (P ++ (A ++ ([y] ++ Q))).length = n) (tr : ∀ x y z, lt x y → lt y z → lt x z) (hA : Rise lt A) (hah : Ahead cmp lt A [y]) (K : HT [] → HP → Prop) (hk : ∀ C : List Int, C.Perm (A ++ [y]) → Rise lt C → K () (Hx H blk t s (P ++ (C ++ Q)))) :
    A137 s (P.length : Int) ((P.length + A.length : Nat) : Int) ((P.length + A.length + 1 : Nat) : Int) [c] (Hx H blk t s (P ++ (A ++ ([y] ++ Q)))) K := by
  unfold A137
  have hbig := g.big
  have hl0 := hl
  simp only [List.length_append, List.length_cons, List.length_nil] at hl
  refine ifF (by rw [wI (by omega) (by omega), beq_eq_false_iff_ne]; omega) (ifT (by rw [wI (by omega) (by omega), beq_iff_eq]; omega) ?_)
  refine LoopA_i (fun v H' => H' = Hx H blk t s (P ++ (A ++ ([y] ++ Q))) ∧ ∃ i j : Nat, v = ((s, ((P.length + A.length : Nat) : Int), [c], ((P.length + i : Nat) : Int), ((P.length + j : Nat) : Int), ()), ()) ∧ i ≤ j ∧ j ≤ A.length ∧ (∀ x ∈ A.take i, lt x y) ∧ (∀ x ∈ A.drop j, lt y x)) (fun v _ => (v.1.2.2.2.2.1 - v.1.2.2.2.1).toNat) ⟨rfl, 0, A.length, rfl, Nat.zero_le _, Nat.le_refl _, by simp, by simp⟩ ?_
  rintro v H' ⟨rfl, i, j, rfl, hij, hj, h1, h2⟩
  dsimp only
  refine ifLt (fun h3 => ?_) fun h3 => ?_
  · rw [halfS _ _ (by omega)]
    obtain ⟨h, hh1, hh2, hh3⟩ : ∃ h, (P.length + i + (P.length + j)) / 2 = P.length + h ∧ i ≤ h ∧ h < j := ⟨(i + j) / 2, by omega, by omega, by omega⟩
    rw [hh1]
    have hhA : h < A.length := by omega
    have hah := hah A[h] (List.getElem_mem hhA) y (by simp)
    have eA : P ++ (A ++ ([y] ++ Q)) = (P ++ A.take h) ++ A[h] :: (A.drop (h + 1) ++ ([y] ++ Q)) := by
      conv => lhs; rw [← List.take_append_drop h A, drop_cons hhA]
      simp only [List.append_assoc, List.cons_append]
    have eY : P ++ (A ++ ([y] ++ Q)) = (P ++ A) ++ y :: Q := by simp
    refine ⟨by decide, rdI g (i := P.length + A.length) rfl hl0 (x := y) (by rw [eY]; exact get_mid (by simp)) (rdI g (i := P.length + h) rfl hl0 (x := A[h]) (by rw [eA]; exact get_mid (by simp; omega)) (capA_r ⟨rfl, g.cmp _ _ _ _ hah.2 (ifNot (fun h4 => ?_) fun h4 => ?_)⟩))⟩
    · have h4 : ¬ cmp y A[h] < 0 := of_decide_eq_false h4
      rw [w1 (by omega)]
      refine ⟨⟨rfl, h + 1, j, by rw [Nat.add_assoc], by omega, hj, take_lt tr hA hhA (hah.2.resolve_right fun hc => h4 (hah.1.2 hc)), h2⟩, by omega⟩
    · have h4 : cmp y A[h] < 0 := of_decide_eq_true h4
      refine ⟨⟨rfl, i, h, rfl, by omega, by omega, h1, drop_lt tr hA hhA (hah.1.1 h4)⟩, by omega⟩
  · obtain rfl : i = j := by omega
    have key : Rise lt (A.take i ++ y :: A.drop i) := rise_ins (by rw [List.take_append_drop]; exact hA) h1 h2
    have perm : (A.take i ++ y :: A.drop i).Perm (A ++ [y]) := by
      refine List.perm_middle.trans ?_
      rw [List.take_append_drop]; exact List.perm_append_comm (l₁ := [y])
    have hk2 := hk _ perm key
    clear hk key perm
    generalize hA1' : A.take i = A1 at hk2
    have hA2 : A = A1 ++ A.drop i := by rw [← hA1', List.take_append_drop]
    generalize A.drop i = A2 at hk2 hA2
    have lA1 : A1.length = i := by rw [← hA1', List.length_take]; omega
    subst hA2
    simp only [List.length_append] at hl hj
    refine loop_h A2.length (fun r v H' => v = ((s, ((P.length + i : Nat) : Int), ((P.length + i + (A2.length - r) : Nat) : Int), ()), ()) ∧ H' = Hx H blk t s (P ++ (A1 ++ (A2.take (A2.length - r) ++ y :: (A2.drop (A2.length - r) ++ Q))))) ⟨by simp; omega, by simp⟩ ?_
    rintro r v H' C hr ⟨rfl, rfl⟩ hC
    dsimp only at hC ⊢
    refine ifGt (fun h5 => ?_) fun h5 => ?_
    · have hr' : r < A2.length := by omega
      obtain ⟨q, hq⟩ : ∃ q, A2.length - r = q + 1 := ⟨A2.length - r - 1, by omega⟩
      have hq2 : A2.length - (r + 1) = q := by omega
      have hqA : q < A2.length := by omega
      rw [hq2] at hC
      rw [hq]
      have e : P ++ (A1 ++ (A2.take (q + 1) ++ y :: (A2.drop (q + 1) ++ Q))) = (P ++ A1 ++ A2.take q) ++ A2[q] :: ([] ++ y :: (A2.drop (q + 1) ++ Q)) := by
        rw [take_snoc hqA]; simp only [List.append_assoc, List.cons_append, List.nil_append]
      have l1 : (P ++ A1 ++ A2.take q).length = P.length + i + q := by simp; omega
      rw [e]
      refine swI g (p := P.length + i + q) (q := P.length + i + q + 1) (by rw [wI (by omega) (by omega)]; omega) (by omega) (by simp; omega) (get_mid l1.symm) (get_two (by rw [l1]; simp)) ?_
      dsimp only
      rw [List.set_comm _ _ (by omega), upd_two l1.symm (by rw [l1]; simp)]
      refine hC hr' _ _ ⟨by rw [wI (by omega) (by omega), show ((P.length + i + (q + 1) : Nat) : Int) - 1 = ((P.length + i + q : Nat) : Int) from by omega], ?_⟩
      rw [drop_cons hqA]
      simp only [List.append_assoc, List.cons_append, List.nil_append]
    · have : A2.length - r = 0 := by omega
      rw [this, List.take_zero, List.drop_zero]
      simpa using hk2
end
end Go.Proofs.Ytalniaipgdbbcaa
