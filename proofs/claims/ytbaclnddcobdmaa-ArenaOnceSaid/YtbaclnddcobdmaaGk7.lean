/-
  Gk7: rows of elements of several cells each.
-/
import Derived.Test.YtbaclnddcobdmaaGk6
set_option linter.unusedSimpArgs false
set_option linter.unusedVariables false
namespace Go.Gp
open Go

section
variable {α : Type} (f : α → List Value) {k : Nat}
theorem flat_len (hk : ∀ x, (f x).length = k) : ∀ l : List α, (l.flatMap f).length = l.length * k
  | [] => by simp
  | x :: l => by rw [List.flatMap_cons, List.length_append, flat_len hk l, hk, List.length_cons, Nat.succ_mul, Nat.add_comm]
theorem flat_get (hk : ∀ x, (f x).length = k) : ∀ (l : List α) (i j : Nat), j < k → (l.flatMap f)[i * k + j]? = l[i]?.bind fun x => (f x)[j]?
  | [], i, j, _ => by simp
  | x :: l, 0, j, hj => by
    rw [List.flatMap_cons, Nat.zero_mul, Nat.zero_add, List.getElem?_append_left (by rw [hk]; exact hj)]
    simp
  | x :: l, i + 1, j, hj => by
    rw [List.flatMap_cons, List.getElem?_append_right (by rw [hk, Nat.succ_mul]; omega), hk, show (i + 1) * k + j - k = i * k + j from by rw [Nat.succ_mul]; omega, flat_get hk l i j hj]
    simp
theorem flat_set (hk : ∀ x, (f x).length = k) : ∀ (l : List α) (i j : Nat) (x y : α) (v : Value), j < k → l[i]? = some x → (f x).set j v = f y → (l.flatMap f).set (i * k + j) v = (l.set i y).flatMap f
  | [], i, j, _, _, _, _, h, _ => by simp at h
  | z :: l, 0, j, x, y, v, hj, h, he => by
    simp only [List.getElem?_cons_zero, Option.some.injEq] at h
    subst h
    rw [List.flatMap_cons, Nat.zero_mul, Nat.zero_add, List.set_append_left _ _ (by rw [hk]; exact hj), he, List.set_cons_zero, List.flatMap_cons]
  | z :: l, i + 1, j, x, y, v, hj, h, he => by
    rw [List.flatMap_cons, List.set_append_right _ _ (by rw [hk, Nat.succ_mul]; omega), hk, show (i + 1) * k + j - k = i * k + j from by rw [Nat.succ_mul]; omega,
      flat_set hk l i j x y v hj (by simpa using h) he, List.set_cons_succ, List.flatMap_cons]
end
theorem madeCells_two (u v : Value) (n : Nat) : (madeCells #[u, v] (n * 2)).toList = (List.replicate n ()).flatMap fun _ => [u, v] := by
  unfold madeCells
  apply List.ext_getElem?
  intro i
  simp only [Array.toList_map, Array.toList_range, List.getElem?_map]
  obtain ⟨q, r, hr, rfl⟩ : ∃ q r, r < 2 ∧ i = q * 2 + r := ⟨i / 2, i % 2, Nat.mod_lt _ (by decide), by omega⟩
  rw [flat_get (k := 2) (fun _ : Unit => [u, v]) (fun _ => rfl) _ _ _ hr]
  by_cases h : q < n
  · rw [List.getElem?_range (by omega), List.getElem?_replicate, if_pos h]
    simp only [Option.map_some, Option.bind_some]
    have hm : (q * 2 + r) % (#[u, v] : Array Value).size = r := by simp; omega
    rw [hm]
    rcases (by omega : r = 0 ∨ r = 1) with rfl | rfl <;> rfl
  · rw [List.getElem?_eq_none (by simp; omega), List.getElem?_replicate, if_neg h]
    simp
def intKindOf (P : Program) (t : TypeId) : Option IntKind := match P.underlying t with | some (.int k) => some k | _ => none
def intOf : Value → Int
  | .int _ x => x
  | _ => 0
/-- Is t a struct of whole numbers of these kinds, a cell each? -/
def intFields (P : Program) (t : TypeId) (ks : List IntKind) : Bool :=
  P.cellsOf t == ks.length && match P.underlying t with
  | some (.struct fs) => (List.range ks.length).all fun i => match fs[i]?, ks[i]? with
    | some f, some k => f.offset == i && P.cellsOf f.type == 1 && intKindOf P f.type == some k
    | _, _ => false
  | _ => false
theorem rd_intFields {P : Program} {W : World} {n : Nat} {t : TypeId} {ks : List IntKind} {cs : List Value} (hk : intFields P t ks = true) (h : RdT P W n t cs) :
    ∃ xs : List Int, xs.length = ks.length ∧ cs = List.zipWith Value.int ks xs ∧ ∀ (i : Nat) k x, ks[i]? = some k → xs[i]? = some x → (Lit.int k x).wf = true := by
  unfold intFields at hk
  rw [Bool.and_eq_true, beq_iff_eq] at hk
  obtain ⟨hc, hk⟩ := hk
  split at hk
  · rename_i fs hu
    obtain ⟨m, hl, hf⟩ := rd_struct hu h
    rw [hc] at hl
    have each : ∀ i, i < ks.length → ∃ x k, ks[i]? = some k ∧ cs[i]? = some (.int k x) ∧ (Lit.int k x).wf = true := fun i hi => by
      have hi' := List.all_eq_true.1 hk i (by simpa using hi)
      split at hi' <;> first | (cases hi'; done) | skip
      rename_i f k hfi hki
      simp only [Bool.and_eq_true, beq_iff_eq] at hi'
      obtain ⟨⟨h1, h2⟩, h3⟩ := hi'
      have hr := hf i f hfi
      rw [h1, h2] at hr
      obtain ⟨v, hv⟩ : ∃ v, cs[i]? = some v := ⟨_, List.getElem?_eq_getElem (by omega)⟩
      have hd : (cs.drop i).take 1 = [v] := by
        have hlt : i < cs.length := by omega
        rw [List.drop_eq_getElem_cons hlt]
        rw [List.getElem?_eq_getElem hlt] at hv
        injection hv with hv
        simp [hv]
      rw [hd] at hr
      unfold intKindOf at h3
      split at h3 <;> first | (cases h3; done) | skip
      rename_i k' hk'
      injection h3 with h3
      subst h3
      obtain ⟨x, rfl, hw⟩ := rd_int hk' hr
      exact ⟨x, k', hki, hv, hw⟩
    refine ⟨(List.range ks.length).map fun i => intOf (cs[i]?.getD undef), by simp, ?_, ?_⟩
    · apply List.ext_getElem?
      intro i
      by_cases hi : i < ks.length
      · obtain ⟨x, k, h1, h2, _⟩ := each i hi
        rw [List.getElem?_zipWith, h1, List.getElem?_map, List.getElem?_range hi]
        simp [h2, intOf]
      · rw [List.getElem?_eq_none (by omega), List.getElem?_eq_none (by simp; omega)]
    · intro i k x h1 h2
      have hi : i < ks.length := (List.getElem?_eq_some_iff.1 h1).1
      obtain ⟨y, k', h3, h4, h5⟩ := each i hi
      rw [h1] at h3
      injection h3 with h3
      subst h3
      rw [List.getElem?_map, List.getElem?_range hi] at h2
      simp [h4, intOf] at h2
      subst h2
      exact h5
  · cases hk
/-- A slice's elements, each a struct of whole numbers. -/
theorem rd_intRows {P : Program} {W : World} {n : Nat} {t e : TypeId} {ks : List IntKind} {s : Sl} (ht : P.underlying t = some (.slice e)) (hk : intFields P e ks = true) (hs : P.cellsOf e = ks.length) (hne : ks ≠ [])
    (h : RdT P W n t [.slice s.a s.len s.cap]) : s.len ≤ 9223372036854775807 ∧ ∀ i, i < s.len → ∃ p xs, s.a = some p ∧ p.block < W.heap.size ∧ xs.length = ks.length ∧ cellsAt W (p.add (i * ks.length)) 0 (List.zipWith Value.int ks xs) ∧
      ∀ (i : Nat) k x, ks[i]? = some k → xs[i]? = some x → (Lit.int k x).wf = true := by
  obtain ⟨a, len, cap, m, hv, hl, hm, _, hx⟩ := rd_slice ht h
  obtain ⟨rfl, rfl, rfl⟩ : s.a = a ∧ s.len = len ∧ s.cap = cap := by injection hv with h1 h2 h3; exact ⟨h1, h2, h3⟩
  rw [maxLen_eq] at hm
  refine ⟨by omega, fun i hi => ?_⟩
  obtain ⟨p, cs, hp, hc, hr⟩ := hx i hi
  rw [hs] at hc
  obtain ⟨xs, h1, rfl, h2⟩ := rd_intFields hk hr
  refine ⟨p, xs, hp, ?_, h1, hc, h2⟩
  cases ks with
  | nil => exact absurd rfl hne
  | cons k ks =>
    cases xs with
    | nil => simp at h1
    | cons x xs =>
      have := cell_lt hc.1
      rwa [add_block, add_block] at this
/-- A slice's elements, each a whole number. -/
theorem rd_ints {P : Program} {W : World} {n : Nat} {t e : TypeId} {k : IntKind} {s : Sl} (ht : P.underlying t = some (.slice e)) (he : P.underlying e = some (.int k)) (hs : P.cellsOf e = 1)
    (h : RdT P W n t [.slice s.a s.len s.cap]) : s.len ≤ 9223372036854775807 ∧ s.len ≤ s.cap ∧ ∀ i, i < s.len → ∃ p x, s.a = some p ∧ p.block < W.heap.size ∧ W.cell? (p.add i) = some (.int k x) ∧ (Lit.int k x).wf = true := by
  obtain ⟨a, len, cap, m, hv, hl, hm, _, hx⟩ := rd_slice ht h
  obtain ⟨rfl, rfl, rfl⟩ : s.a = a ∧ s.len = len ∧ s.cap = cap := by injection hv with h1 h2 h3; exact ⟨h1, h2, h3⟩
  rw [maxLen_eq] at hm
  refine ⟨by omega, hl, fun i hi => ?_⟩
  obtain ⟨p, cs, hp, hc, hr⟩ := hx i hi
  rw [hs, Nat.mul_one] at hc
  cases m with
  | zero => exact hr.elim
  | succ m =>
    unfold RdT at hr
    simp only [he] at hr
    obtain ⟨x, rfl, hw⟩ := hr
    have h0 := hc.1
    rw [show (p.add i).add 0 = p.add i from by simp [Addr.add]] at h0
    exact ⟨p, x, hp, by have := cell_lt h0; rwa [add_block] at this, h0, hw⟩
end Go.Gp
