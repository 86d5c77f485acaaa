/-
  Tf1: floats of 64 bits, by their bits: which are no number, and which are zero.
-/
import Derived.Test.YtjbpgebjcehfkaaKd
set_option linter.unusedSimpArgs false
set_option linter.unusedVariables false
namespace Go.Th
open Go Go.Gp Go.Ga Ieee
abbrev rdF (a : Nat) : Datum := FloatKind.f64.format.read a
def nanB (a : Nat) : Bool := (rdF a).isNaN
theorem order_nan {d e : Datum} (h : d.isNaN = true ∨ e.isNaN = true) : d.order e = none := by
  cases d <;> cases e <;> simp [Datum.isNaN] at h <;> rfl
theorem order_self {d : Datum} (h : d.isNaN = false) : d.order d = some .eq := by
  cases d with
  | nan => simp [Datum.isNaN] at h
  | infinity s => simp [Datum.order]
  | number s m i => simp [Datum.order]
theorem order_some {d e : Datum} (h : d.isNaN = false) (h' : e.isNaN = false) : ∃ o, d.order e = some o := by
  cases d <;> cases e <;> simp [Datum.isNaN] at h h' <;> exact ⟨_, rfl⟩
theorem fEq_self (a : Nat) : fEq .f64 a a = !nanB a := by
  unfold fEq nanB Format.order
  cases h : (rdF a).isNaN with
  | true => rw [order_nan (.inl h)]; rfl
  | false => rw [order_self h]; rfl
theorem fLt_self (a : Nat) : fLt .f64 a a = false := by
  unfold fLt Format.order
  cases h : (rdF a).isNaN with
  | true => rw [order_nan (.inl h)]; rfl
  | false => rw [order_self h]; rfl
theorem fGt_self (a : Nat) : fGt .f64 a a = false := by
  unfold fGt Format.order
  cases h : (rdF a).isNaN with
  | true => rw [order_nan (.inl h)]; rfl
  | false => rw [order_self h]; rfl
theorem f_nan {a b : Nat} (h : nanB a = true ∨ nanB b = true) : fEq .f64 a b = false ∧ fLt .f64 a b = false ∧ fGt .f64 a b = false := by
  unfold fEq fLt fGt Format.order
  rw [order_nan h]
  exact ⟨rfl, rfl, rfl⟩
theorem cut_lt (x y t : Nat) : Question.cut (.nanBits .f64 x y) t < 2 ^ 64 := by
  show (t % 2) * 2 ^ 63 + 0x7ff0000000000000 + 1 + (t / 2) % (2 ^ 52 - 1) < 2 ^ 64
  omega
theorem read_nan {a : Nat} (h : 0x7ff0000000000000 < a % 2 ^ 63) : nanB a = true := by
  unfold nanB rdF Format.read
  have e1 : FloatKind.f64.format.signWeight = 2 ^ 63 := rfl
  have e2 : FloatKind.f64.format.binade = 2 ^ 52 := rfl
  have e3 : FloatKind.f64.format.infRung = 0x7ff0000000000000 := by decide
  simp only [e1, e2, e3]
  rw [if_neg (by omega), if_neg (by omega), if_neg (by omega)]
  rfl
theorem cut_nan (x y t : Nat) : nanB (Question.cut (.nanBits .f64 x y) t) = true := by
  refine read_nan ?_
  show 0x7ff0000000000000 < ((t % 2) * 2 ^ 63 + 0x7ff0000000000000 + 1 + (t / 2) % (2 ^ 52 - 1)) % 2 ^ 63
  have h1 : (t / 2) % (2 ^ 52 - 1) < 2 ^ 52 - 1 := Nat.mod_lt _ (by decide)
  generalize (t / 2) % (2 ^ 52 - 1) = x at h1 ⊢
  rcases (by omega : t % 2 = 0 ∨ t % 2 = 1) with h | h
  · rw [h, Nat.mod_eq_of_lt (by omega)]; omega
  · rw [h, show 1 * 2 ^ 63 + 0x7ff0000000000000 + 1 + x = 0x7ff0000000000000 + 1 + x + 2 ^ 63 from by omega, Nat.add_mod_right, Nat.mod_eq_of_lt (by omega)]; omega
theorem bits_nan {op : BinOp} {a b : Nat} (h : nanB a = true ∨ nanB b = true) (ho : op = .add ∨ op = .quo) : fBits op .f64 a b = none := by
  have : ∀ d e : Datum, d.isNaN = true ∨ e.isNaN = true → d.sum e = none ∧ d.quotient (FloatKind.f64.format.fractionBits + 2) e = none := fun d e h => by
    cases d <;> cases e <;> simp [Datum.isNaN] at h <;> exact ⟨rfl, rfl⟩
  obtain ⟨h1, h2⟩ := this (rdF a) (rdF b) h
  rcases ho with rfl | rfl
  · show ((rdF a).sum (rdF b)).map _ = none
    rw [h1]; rfl
  · show ((rdF a).quotient _ (rdF b)).map _ = none
    rw [h2]; rfl
/-- What two bits have in common that come of the same reckoning. -/
def Like (a b : Nat) : Prop := a = b ∨ (nanB a = true ∧ nanB b = true)
/-- What comes of floats' reckoning. -/
def FltR (op : BinOp) (a b r : Nat) : Prop := match fBits op .f64 a b with | some x => r = x | none => ∃ t, r = Question.cut (.nanBits .f64 a b) t
theorem FltR.like {op : BinOp} {a b a' b' r r' : Nat} (ho : op = .add ∨ op = .quo) (h : FltR op a b r) (h' : FltR op a' b' r') (ha : Like a a') (hb : Like b b') : Like r r' := by
  have nan : ∀ {a b r : Nat}, FltR op a b r → nanB a = true ∨ nanB b = true → nanB r = true := fun {a b r} h hn => by
    unfold FltR at h
    rw [bits_nan hn ho] at h
    obtain ⟨t, rfl⟩ := h
    exact cut_nan _ _ _
  rcases ha with rfl | ⟨h1, h2⟩
  · rcases hb with rfl | ⟨h1, h2⟩
    · unfold FltR at h h'
      cases hf : fBits op .f64 a b with
      | some x => rw [hf] at h h'; exact .inl (h.trans h'.symm)
      | none =>
        rw [hf] at h h'
        obtain ⟨t, rfl⟩ := h
        obtain ⟨t', rfl⟩ := h'
        exact .inr ⟨cut_nan _ _ _, cut_nan _ _ _⟩
    · exact .inr ⟨nan h (.inr h1), nan h' (.inr h2)⟩
  · exact .inr ⟨nan h (.inl h1), nan h' (.inl h2)⟩
/-! ### Zeros -/
theorem shl_zero {m k : Nat} (h : m <<< k = 0) : m = 0 := by
  rw [Nat.shiftLeft_eq] at h
  rcases Nat.mul_eq_zero.1 h with h | h
  · exact h
  · exact absurd h (by have := Nat.two_pow_pos k; omega)
theorem signed_zero {s : Bool} {m k : Nat} (h : Ieee.signed s m k = 0) : m = 0 := by
  unfold Ieee.signed at h
  refine shl_zero (k := k) ?_
  split at h <;> omega
theorem signed_0 (s : Bool) (k : Nat) : Ieee.signed s 0 k = 0 := by
  unfold Ieee.signed
  rw [Nat.zero_shiftLeft]
  split <;> rfl
theorem cmp_eq {a b : Int} (h : compare a b = .eq) : a = b := by
  simpa using h
theorem read_zero {a : Nat} (h : fEq .f64 a 0 = true) : ∃ s e, rdF a = .number s 0 e := by
  unfold fEq Format.order at h
  have e0 : FloatKind.f64.format.read 0 = .number false 0 (FloatKind.f64.format.leastPlace) := rfl
  rw [e0] at h
  cases hr : FloatKind.f64.format.read a with
  | nan => rw [hr] at h; simp [Datum.order] at h
  | infinity s => rw [hr] at h; cases s <;> simp [Datum.order] at h
  | number s m e =>
    rw [hr] at h
    simp only [Datum.order, beq_iff_eq, Option.some.injEq] at h
    have := cmp_eq h
    rw [signed_0] at this
    have := signed_zero this
    subst this
    exact ⟨s, e, hr⟩
theorem zero_bits {a : Nat} (h : fEq .f64 a 0 = true) (hl : a < 2 ^ 64) : a = 0 ∨ a = 2 ^ 63 := by
  obtain ⟨s, e, hr⟩ := read_zero h
  unfold rdF Format.read at hr
  have e1 : FloatKind.f64.format.signWeight = 2 ^ 63 := rfl
  have e2 : FloatKind.f64.format.binade = 2 ^ 52 := rfl
  have e3 : FloatKind.f64.format.infRung = 0x7ff0000000000000 := by decide
  simp only [e1, e2, e3] at hr
  split at hr
  · injection hr with _ h2 _
    omega
  · split at hr
    · injection hr with _ h2 _
      omega
    · split at hr <;> cases hr
/-- Where one is zero, and the other is neither less nor more: that is zero too. -/
theorem zero_like {a b : Nat} (ha : fEq .f64 a 0 = true) (hb : nanB b = false) (h1 : fLt .f64 a b = false) (h2 : fGt .f64 a b = false) : fEq .f64 b 0 = true := by
  obtain ⟨s, e, hr⟩ := read_zero ha
  have hna : nanB a = false := by unfold nanB; rw [hr]; rfl
  obtain ⟨o, ho⟩ := order_some (d := rdF a) (e := rdF b) hna hb
  unfold fLt Format.order at h1
  unfold fGt Format.order at h2
  rw [ho] at h1 h2
  have : o = .eq := by cases o <;> simp at h1 h2 <;> rfl
  subst this
  have hr : rdF a = .number s 0 e := hr
  rw [hr] at ho
  unfold fEq Format.order
  have e0 : FloatKind.f64.format.read 0 = .number false 0 (FloatKind.f64.format.leastPlace) := rfl
  rw [e0]
  show ((rdF b).order _ == some .eq) = true
  cases hb' : rdF b with
  | nan => rw [hb'] at ho; simp [Datum.order] at ho
  | infinity t => rw [hb'] at ho; cases t <;> simp [Datum.order] at ho
  | number t n j =>
    rw [hb'] at ho
    simp only [Datum.order, Option.some.injEq] at ho
    have := cmp_eq ho
    rw [signed_0] at this
    have := signed_zero this.symm
    subst this
    simp only [Datum.order, signed_0]
    rfl
end Go.Th
