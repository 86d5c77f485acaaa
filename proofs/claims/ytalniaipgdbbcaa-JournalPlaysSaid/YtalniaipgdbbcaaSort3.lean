/-
  Sorting in place, over blocks of numbers: merging of any two parts; the whole.
-/
import Derived.Test.YtalniaipgdbbcaaSort2
set_option linter.unusedSimpArgs false
set_option linter.unusedVariables false
namespace Go.Proofs.Ytalniaipgdbbcaa
open Go Go.Gp Go.Ga Go.Th
section
variable {H : HP} {blk t : Nat} {s : Sl} {n c : Nat} {cmp : Int → Int → Int} {lt : Int → Int → Prop}
theorem last_take {A : List Int} {k : Nat} (hk : k ≤ A.length) {a : Int} (h : (A.take k).getLast? = some a) : 0 < k ∧ A[k - 1]? = some a := by
  have h0 : 0 < k := by
    rcases Nat.eq_zero_or_pos k with e | e
    · subst e; simp at h
    · exact e
  refine ⟨h0, ?_⟩
  rw [List.getLast?_eq_getElem?, List.length_take, Nat.min_eq_left hk, List.getElem?_take] at h
  split at h
  · exact h
  · cases h
theorem head_drop {A : List Int} {k : Nat} {a : Int} (h : (A.drop k).head? = some a) : A[k]? = some a := by
  rw [List.head?_drop] at h; exact h
theorem c_sym (g : Srt H blk t s n c cmp lt) (tr : ∀ x y z, lt x y → lt y z → lt x z) : ∀ (N : Nat) (P A B Q : List Int) (K : HT [] → HP → Prop), A.length + B.length ≤ N → A ≠ [] → B ≠ [] → (P ++ (A ++ (B ++ Q))).length = n → Rise lt A → Rise lt B → Ahead cmp lt A B → (∀ C : List Int, C.Perm (A ++ B) → Rise lt C → K () (Hx H blk t s (P ++ (C ++ Q)))) → ∀ {za zm zb : Int}, za = (P.length : Int) → zm = ((P.length + A.length : Nat) : Int) → zb = ((P.length + A.length + B.length : Nat) : Int) →
    C137 s za zm zb [c] (Hx H blk t s (P ++ (A ++ (B ++ Q)))) K
  | 0, P, A, B, Q, K, hN, hA0, _, _, _, _, _, _, _, _, _, _, _, _ => absurd (List.eq_nil_of_length_eq_zero (by omega)) hA0
  | N + 1, P, A, B, Q, K, hN, hA0, hB0, hl, hA, hB, hah, hk, za, zm, zb, ea, em, eb => callA137 _ _ _ _ _ _ _ (by
    subst ea em eb
    have lA : 0 < A.length := List.length_pos_iff.2 hA0
    have lB : 0 < B.length := List.length_pos_iff.2 hB0
    by_cases hA1 : A.length = 1
    · obtain ⟨x, rfl⟩ := List.length_eq_one_iff.1 hA1
      exact sym_left g P B Q x hl tr hB hah K hk
    by_cases hB1 : B.length = 1
    · obtain ⟨y, rfl⟩ := List.length_eq_one_iff.1 hB1
      exact sym_right g P A Q y hA1 hl tr hA hah K hk
    unfold A137
    have hbig := g.big
    have hl0 := hl
    simp only [List.length_append] at hl
    refine ifF (by rw [wI (by omega) (by omega), beq_eq_false_iff_ne]; omega) (ifF (by rw [wI (by omega) (by omega), beq_eq_false_iff_ne]; omega) ⟨by decide, ?_⟩)
    obtain ⟨mid, hmid⟩ : ∃ mid, (P.length + (P.length + A.length + B.length)) / 2 = mid := ⟨_, rfl⟩
    rw [halfS _ _ (by omega), hmid]
    rw [show IntKind.i64.wrap (((mid : Nat) : Int) + ((P.length + A.length : Nat) : Int)) = ((mid + (P.length + A.length) : Nat) : Int) from by rw [wI (by omega) (by omega)]; omega]
    refine JoinA_s (fun v H' => ∃ st r : Nat, v = ((s, (P.length : Int), ((P.length + A.length : Nat) : Int), ((P.length + A.length + B.length : Nat) : Int), [c], (mid : Int), ((mid + (P.length + A.length) : Nat) : Int), (st : Int), (r : Int), ()), ()) ∧ H' = Hx H blk t s (P ++ (A ++ (B ++ Q))) ∧ P.length ≤ st ∧ st ≤ r ∧ r ≤ P.length + A.length ∧ mid + (P.length + A.length) ≤ st + (P.length + A.length + B.length) ∧ r ≤ mid ∧ (st = P.length ∨ st + (P.length + A.length + B.length) = mid + (P.length + A.length)) ∧ (r = mid ∨ r = P.length + A.length)) ?_ fun D hD => ?_
    · rintro v H' ⟨st0, r0, rfl, rfl, f1, f2, f3, f4, f5, f6, f7⟩
      dsimp only
      rw [show IntKind.i64.wrap (((mid + (P.length + A.length) : Nat) : Int) - 1) = ((mid + (P.length + A.length) - 1 : Nat) : Int) from by rw [wI (by omega) (by omega)]; omega]
      refine LoopA_i (fun v H' => H' = Hx H blk t s (P ++ (A ++ (B ++ Q))) ∧ ∃ st r : Nat, v = ((s, (P.length : Int), ((P.length + A.length : Nat) : Int), ((P.length + A.length + B.length : Nat) : Int), [c], (mid : Int), ((mid + (P.length + A.length) : Nat) : Int), (st : Int), (r : Int), ((mid + (P.length + A.length) - 1 : Nat) : Int), ()), ()) ∧ st0 ≤ st ∧ st ≤ r ∧ r ≤ r0 ∧ (st = st0 ∨ ∀ x y, A[st - P.length - 1]? = some x → B[mid - st]? = some y → lt x y) ∧ (r = r0 ∨ ∀ x y, A[r - P.length]? = some x → B[mid - r - 1]? = some y → lt y x)) (fun v _ => (v.1.2.2.2.2.2.2.2.2.1 - v.1.2.2.2.2.2.2.2.1).toNat) ⟨rfl, st0, r0, rfl, Nat.le_refl _, f2, Nat.le_refl _, .inl rfl, .inl rfl⟩ ?_
      rintro v H' ⟨rfl, st, r, rfl, g1, g2, g3, g4, g5⟩
      dsimp only
      refine ifLt (fun h3 => ?_) fun h3 => ?_
      · rw [halfS _ _ (by omega)]
        obtain ⟨h, hh1, hh2, hh3⟩ : ∃ h, (st + r) / 2 = h ∧ st ≤ h ∧ h < r := ⟨_, rfl, by omega, by omega⟩
        rw [hh1]
        have hhA : h - P.length < A.length := by omega
        have hhB : mid - h - 1 < B.length := by omega
        have hah := hah A[h - P.length] (List.getElem_mem hhA) B[mid - h - 1] (List.getElem_mem hhB)
        have eA : (P ++ (A ++ (B ++ Q)))[h]? = some A[h - P.length] := by
          rw [List.getElem?_append_right (by omega), List.getElem?_append_left hhA, List.getElem?_eq_getElem hhA]
        have eB : (P ++ (A ++ (B ++ Q)))[mid + (P.length + A.length) - 1 - h]? = some B[mid - h - 1] := by
          rw [List.getElem?_append_right (by omega), List.getElem?_append_right (by omega), show mid + (P.length + A.length) - 1 - h - P.length - A.length = mid - h - 1 from by omega, List.getElem?_append_left hhB, List.getElem?_eq_getElem hhB]
        refine ⟨by decide, rdI g (i := mid + (P.length + A.length) - 1 - h) (by rw [wI (by omega) (by omega)]; omega) hl0 eB (rdI g (i := h) rfl hl0 eA (capA_r ⟨rfl, g.cmp _ _ _ _ hah.2 (ifNot (fun h4 => ?_) fun h4 => ?_)⟩))⟩
        · have h4 : ¬ cmp B[mid - h - 1] A[h - P.length] < 0 := of_decide_eq_false h4
          rw [w1 (by omega)]
          refine ⟨⟨rfl, h + 1, r, rfl, by omega, by omega, g3, .inr fun x y hx hy => ?_, g5⟩, by omega⟩
          rw [show h + 1 - P.length - 1 = h - P.length from by omega, List.getElem?_eq_getElem hhA] at hx
          rw [show mid - (h + 1) = mid - h - 1 from by omega, List.getElem?_eq_getElem hhB] at hy
          injection hx with hx
          injection hy with hy
          subst hx hy
          exact hah.2.resolve_right fun hc => h4 (hah.1.2 hc)
        · have h4 : cmp B[mid - h - 1] A[h - P.length] < 0 := of_decide_eq_true h4
          refine ⟨⟨rfl, st, h, rfl, g1, by omega, by omega, g4, .inr fun x y hx hy => ?_⟩, by omega⟩
          rw [List.getElem?_eq_getElem hhA] at hx
          rw [List.getElem?_eq_getElem hhB] at hy
          injection hx with hx
          injection hy with hy
          subst hx hy
          exact hah.1.1 h4
      · obtain rfl : st = r := by omega
        rw [show IntKind.i64.wrap (((mid + (P.length + A.length) : Nat) : Int) - (st : Int)) = ((mid + (P.length + A.length) - st : Nat) : Int) from by rw [wI (by omega) (by omega)]; omega]
        have hkA : st - P.length ≤ A.length := by omega
        have hkB : mid - st ≤ B.length := by omega
        have hA12 : A.take (st - P.length) ++ A.drop (st - P.length) = A := List.take_append_drop _ _
        have hB12 : B.take (mid - st) ++ B.drop (mid - st) = B := List.take_append_drop _ _
        have rA : Rise lt (A.take (st - P.length) ++ A.drop (st - P.length)) := by rw [hA12]; exact hA
        have rB : Rise lt (B.take (mid - st) ++ B.drop (mid - st)) := by rw [hB12]; exact hB
        have rA' := rise_app.1 rA
        have rB' := rise_app.1 rB
        have hAB : ∀ x ∈ A.take (st - P.length), ∀ y ∈ B.drop (mid - st), lt x y := ends_lt tr rA'.1 rB'.2.1 fun x y hx hy => by
          obtain ⟨hp, hx⟩ := last_take hkA hx
          have hy := head_drop hy
          rcases g4 with e | h
          · have hby := (List.getElem?_eq_some_iff.1 hy).1
            exfalso
            rcases f6 with e' | e' <;> omega
          · exact h x y hx hy
        have hBA : ∀ y ∈ B.take (mid - st), ∀ x ∈ A.drop (st - P.length), lt y x := ends_lt tr rB'.1 rA'.2.1 fun y x hy hx => by
          obtain ⟨hp, hy⟩ := last_take hkB hy
          have hx := head_drop hx
          rcases g5 with e | h
          · have hbx := (List.getElem?_eq_some_iff.1 hx).1
            exfalso
            rcases f7 with e' | e' <;> omega
          · exact h x y hx hy
        have lA1 : (A.take (st - P.length)).length = st - P.length := by rw [List.length_take]; omega
        have lA2 : (A.drop (st - P.length)).length = A.length - (st - P.length) := List.length_drop
        have lB1 : (B.take (mid - st)).length = mid - st := by rw [List.length_take]; omega
        have lB2 : (B.drop (mid - st)).length = B.length - (mid - st) := List.length_drop
        have ah11 : Ahead cmp lt (A.take (st - P.length)) (B.take (mid - st)) := hah.sub (fun x hx => List.mem_of_mem_take hx) fun y hy => List.mem_of_mem_take hy
        have ah22 : Ahead cmp lt (A.drop (st - P.length)) (B.drop (mid - st)) := hah.sub (fun x hx => List.mem_of_mem_drop hx) fun y hy => List.mem_of_mem_drop hy
        have hperm : ((A.take (st - P.length) ++ B.take (mid - st)) ++ (A.drop (st - P.length) ++ B.drop (mid - st))).Perm (A ++ B) := by
          conv => rhs; rw [← hA12, ← hB12]
          rw [List.append_assoc, List.append_assoc]
          refine List.Perm.append_left _ ?_
          rw [← List.append_assoc, ← List.append_assoc]
          exact List.Perm.append_right _ List.perm_append_comm
        have start : P ++ (A ++ (B ++ Q)) = P ++ (A.take (st - P.length) ++ (A.drop (st - P.length) ++ (B.take (mid - st) ++ (B.drop (mid - st) ++ Q)))) := by
          conv => lhs; rw [← hA12, ← hB12]
          simp only [List.append_assoc]
        generalize hEA1 : A.take (st - P.length) = A1 at *
        generalize hEA2 : A.drop (st - P.length) = A2 at *
        generalize hEB1 : B.take (mid - st) = B1 at *
        generalize hEB2 : B.drop (mid - st) = B2 at *
        have len2 : P.length + (A1.length + (A2.length + (B1.length + (B2.length + Q.length)))) = n := by omega
        have emid : mid = P.length + A1.length + B1.length := by omega
        have eend : mid + (P.length + A.length) - st = P.length + A1.length + B1.length + A2.length := by omega
        have est : st = P.length + A1.length := by omega
        have eb : P.length + A.length + B.length = P.length + A1.length + B1.length + A2.length + B2.length := by omega
        have em : P.length + A.length = P.length + A1.length + A2.length := by omega
        have fin : ∀ C1 C2 : List Int, C1.Perm (A1 ++ B1) → Rise lt C1 → C2.Perm (A2 ++ B2) → Rise lt C2 → K () (Hx H blk t s (P ++ (C1 ++ (C2 ++ Q)))) := fun C1 C2 p1 r1 p2 r2 => by
          have := hk (C1 ++ C2) ((p1.append p2).trans hperm) (rise_app.2 ⟨r1, r2, fun x hx y hy => ?_⟩)
          · rw [List.append_assoc] at this; exact this
          · rcases List.mem_append.1 (p1.subset hx) with hx | hx <;> rcases List.mem_append.1 (p2.subset hy) with hy | hy
            · exact rA'.2.2 x hx y hy
            · exact hAB x hx y hy
            · exact hBA x hx y hy
            · exact rB'.2.2 x hx y hy
        rw [eend, est, emid]
        refine JoinA_s (fun v H' => v = ((s, (P.length : Int), ((P.length + A.length + B.length : Nat) : Int), [c], ((P.length + A1.length + B1.length : Nat) : Int), ((P.length + A1.length : Nat) : Int), ((P.length + A1.length + B1.length + A2.length : Nat) : Int), ()), ()) ∧ H' = Hx H blk t s (P ++ (A1 ++ (B1 ++ (A2 ++ (B2 ++ Q)))))) ?_ fun E hE => ?_
        · rintro v H' ⟨rfl, rfl⟩
          dsimp only
          refine JoinA_s (fun v H' => v = ((s, ((P.length + A.length + B.length : Nat) : Int), [c], ((P.length + A1.length + B1.length : Nat) : Int), ((P.length + A1.length + B1.length + A2.length : Nat) : Int), ()), ()) ∧ ∃ C1 : List Int, C1.Perm (A1 ++ B1) ∧ Rise lt C1 ∧ H' = Hx H blk t s (P ++ (C1 ++ (A2 ++ (B2 ++ Q))))) ?_ fun E hE => ?_
          · rintro v H' ⟨rfl, C1, p1, r1, rfl⟩
            dsimp only
            have l1 := p1.length_eq
            simp only [List.length_append] at l1
            refine JoinA_s (fun v H' => ∃ f : Bool, v = ((s, ((P.length + A.length + B.length : Nat) : Int), [c], ((P.length + A1.length + B1.length : Nat) : Int), ((P.length + A1.length + B1.length + A2.length : Nat) : Int), f, ()), ()) ∧ (f = true ↔ A2 ≠ [] ∧ B2 ≠ []) ∧ H' = Hx H blk t s (P ++ (C1 ++ (A2 ++ (B2 ++ Q))))) ?_ fun E hE => ?_
            · rintro v H' ⟨f, rfl, hf, rfl⟩
              dsimp only
              refine ifB_i (fun h => ?_) fun h => ?_
              · have h : f = true := h
                obtain ⟨h1, h2⟩ := hf.1 h
                have shape : P ++ (C1 ++ (A2 ++ (B2 ++ Q))) = (P ++ C1) ++ (A2 ++ (B2 ++ Q)) := by simp
                rw [shape]
                refine c_sym g tr N (P ++ C1) A2 B2 Q _ ?_ h1 h2 (by simp; omega) rA'.2.1 rB'.2.1 ah22 (fun C2 p2 r2 => ?_) (by simp; omega) (by simp; omega) (by simp; omega)
                · have : 0 < A1.length + B1.length := by omega
                  omega
                · rw [List.append_assoc]; exact fin C1 C2 p1 r1 p2 r2
              · have h : f = false := h
                have hno : ¬ (A2 ≠ [] ∧ B2 ≠ []) := fun hc => by rw [hf.2 hc] at h; cases h
                have : Rise lt (A2 ++ B2) := rise_app.2 ⟨rA'.2.1, rB'.2.1, fun x hx y hy => absurd ⟨List.ne_nil_of_mem hx, List.ne_nil_of_mem hy⟩ hno⟩
                have := fin C1 (A2 ++ B2) p1 r1 (.refl _) this
                simpa using this
            · have hpos : ∀ L : List Int, L ≠ [] ↔ 0 < L.length := fun L => List.length_pos_iff.symm
              refine ifD (fun h => hE _ _ ⟨_, rfl, ?_, rfl⟩) fun h => hE _ _ ⟨_, rfl, ?_, rfl⟩
              · have h : ((P.length + A1.length + B1.length : Nat) : Int) < ((P.length + A1.length + B1.length + A2.length : Nat) : Int) := h
                rw [decide_eq_true_eq, hpos, hpos, eb]
                omega
              · have h : ¬ ((P.length + A1.length + B1.length : Nat) : Int) < ((P.length + A1.length + B1.length + A2.length : Nat) : Int) := h
                rw [hpos, hpos]
                simp only [Bool.false_eq_true, false_iff]
                omega
          · refine JoinA_s (fun v H' => ∃ f : Bool, v = ((s, (P.length : Int), ((P.length + A.length + B.length : Nat) : Int), [c], ((P.length + A1.length + B1.length : Nat) : Int), ((P.length + A1.length : Nat) : Int), ((P.length + A1.length + B1.length + A2.length : Nat) : Int), f, ()), ()) ∧ (f = true ↔ A1 ≠ [] ∧ B1 ≠ []) ∧ H' = Hx H blk t s (P ++ (A1 ++ (B1 ++ (A2 ++ (B2 ++ Q)))))) ?_ fun F hF => ?_
            · rintro v H' ⟨f, rfl, hf, rfl⟩
              dsimp only
              refine ifB_i (fun h => ?_) fun h => hE _ _ ⟨rfl, A1 ++ B1, .refl _, ?_, by simp⟩
              · have h : f = true := h
                obtain ⟨h1, h2⟩ := hf.1 h
                refine c_sym g tr N P A1 B1 (A2 ++ (B2 ++ Q)) _ (by omega) h1 h2 (by simp; omega) rA'.1 rB'.1 ah11 (fun C1 p1 r1 => hE _ _ ⟨rfl, C1, p1, r1, rfl⟩) rfl rfl rfl
              · have h : f = false := h
                have hno : ¬ (A1 ≠ [] ∧ B1 ≠ []) := fun hc => by rw [hf.2 hc] at h; cases h
                exact rise_app.2 ⟨rA'.1, rB'.1, fun x hx y hy => absurd ⟨List.ne_nil_of_mem hx, List.ne_nil_of_mem hy⟩ hno⟩
            · have hpos : ∀ L : List Int, L ≠ [] ↔ 0 < L.length := fun L => List.length_pos_iff.symm
              refine ifD (fun h => hF _ _ ⟨_, rfl, ?_, rfl⟩) fun h => hF _ _ ⟨_, rfl, ?_, rfl⟩
              · have h : (P.length : Int) < ((P.length + A1.length : Nat) : Int) := h
                rw [decide_eq_true_eq, hpos, hpos]
                omega
              · have h : ¬ (P.length : Int) < ((P.length + A1.length : Nat) : Int) := h
                rw [hpos, hpos]
                simp only [Bool.false_eq_true, false_iff]
                omega
        · -- the turn
          refine JoinA_s (fun v H' => ∃ f : Bool, v = ((s, (P.length : Int), ((P.length + A.length : Nat) : Int), ((P.length + A.length + B.length : Nat) : Int), [c], ((P.length + A1.length + B1.length : Nat) : Int), ((P.length + A1.length : Nat) : Int), ((P.length + A1.length + B1.length + A2.length : Nat) : Int), f, ()), ()) ∧ (f = true ↔ A2 ≠ [] ∧ B1 ≠ []) ∧ H' = Hx H blk t s (P ++ (A1 ++ (A2 ++ (B1 ++ (B2 ++ Q)))))) ?_ fun F hF => ?_
          · rintro v H' ⟨f, rfl, hf, rfl⟩
            dsimp only
            refine ifB_i (fun h => ?_) fun h => hE _ _ ⟨rfl, ?_⟩
            · have h : f = true := h
              obtain ⟨h1, h2⟩ := hf.1 h
              have shape : P ++ (A1 ++ (A2 ++ (B1 ++ (B2 ++ Q)))) = (P ++ A1) ++ (A2 ++ (B1 ++ (B2 ++ Q))) := by simp
              rw [shape]
              refine c_rot g (P ++ A1) A2 B1 (B2 ++ Q) h1 h2 (by simp; omega) (by simp) (by simp; omega) (by simp; omega) _ ?_
              exact hE _ _ ⟨rfl, by simp⟩
            · have h : f = false := h
              have hno : ¬ (A2 ≠ [] ∧ B1 ≠ []) := fun hc => by rw [hf.2 hc] at h; cases h
              by_cases h2 : A2 = []
              · rw [h2]; simp
              · have h3 : B1 = [] := Classical.byContradiction fun hc => hno ⟨h2, hc⟩
                rw [h3]; simp
          · have hpos : ∀ L : List Int, L ≠ [] ↔ 0 < L.length := fun L => List.length_pos_iff.symm
            rw [start]
            refine ifD (fun h => hF _ _ ⟨_, rfl, ?_, rfl⟩) fun h => hF _ _ ⟨_, rfl, ?_, rfl⟩
            · have h : ((P.length + A1.length : Nat) : Int) < ((P.length + A.length : Nat) : Int) := h
              rw [decide_eq_true_eq, hpos, hpos]
              omega
            · have h : ¬ ((P.length + A1.length : Nat) : Int) < ((P.length + A.length : Nat) : Int) := h
              rw [hpos, hpos]
              simp only [Bool.false_eq_true, false_iff]
              omega
    · refine ifD (fun h => ?_) fun h => ?_
      · have h : ((P.length + A.length : Nat) : Int) > (mid : Int) := h
        refine hD _ _ ⟨mid + (P.length + A.length) - (P.length + A.length + B.length), mid, ?_, rfl, by omega, by omega, by omega, by omega, by omega, .inr (by omega), .inl rfl⟩
        rw [wI (by omega) (by omega), show ((mid + (P.length + A.length) - (P.length + A.length + B.length) : Nat) : Int) = ((mid + (P.length + A.length) : Nat) : Int) - ((P.length + A.length + B.length : Nat) : Int) from by omega]
      · have h : ¬ ((P.length + A.length : Nat) : Int) > (mid : Int) := h
        exact hD _ _ ⟨P.length, P.length + A.length, rfl, rfl, by omega, by omega, by omega, by omega, by omega, .inl rfl, .inr rfl⟩)
end
end Go.Proofs.Ytalniaipgdbbcaa
