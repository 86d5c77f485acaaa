/-
  Tf1: floats of 64 bits, by their bits: which are no number, and which are zero.
-/
import Derived.Test.YtjbpgebjcehfkaaKd
set_option linter.unusedSimpArgs false
set_option linter.unusedVariables false
namespace Go.Th
open Go Go.Gp Go.Ga Ieee
abbrev rdF (a : Nat) : Datum := FloatKind.f64.format.read a
def nanB (a : Nat) : Bool := (rdF a).isNaN
theorem order_nan {d e : Datum} (h : d.isNaN = true ∨ e.isNaN = true) : d.order e = none := by
  cases d <;> cases e <;> simp [Datum.isNaN] at h <;> rfl
theorem order_self {d : Datum} (h : d.isNaN = false) : d.order d = some .eq := by
  cases d with
  | nan => simp [Datum.isNaN] at h
  | infinity s => simp [Datum.order]
  | number s m i => simp [Datum.order]
theorem fEq_self (a : Nat) : fEq .f64 a a = !nanB a := by
  unfold fEq nanB Format.order
  cases h : (rdF a).isNaN with
  | true => rw [order_nan (.inl h)]; rfl
  | false => rw [order_self h]; rfl
theorem f_nan {a b : Nat} (h : nanB a = true ∨ nanB b = true) : fEq .f64 a b = false ∧ fLt .f64 a b = false ∧ fGt .f64 a b = false := by
  unfold fEq fLt fGt Format.order
  rw [order_nan h]
  exact ⟨rfl, rfl, rfl⟩
theorem cut_lt (x y t : Nat) : Question.cut (.nanBits .f64 x y) t < 2 ^ 64 := by
  show (t % 2) * 2 ^ 63 + 0x7ff0000000000000 + 1 + (t / 2) % (2 ^ 52 - 1) < 2 ^ 64
  omega
theorem read_nan {a : Nat} (h : 0x7ff0000000000000 < a % 2 ^ 63) : nanB a = true := by
  unfold nanB rdF Format.read
  have e1 : FloatKind.f64.format.signWeight = 2 ^ 63 := rfl
  have e2 : FloatKind.f64.format.binade = 2 ^ 52 := rfl
  have e3 : FloatKind.f64.format.infRung = 0x7ff0000000000000 := by decide
  simp only [e1, e2, e3]
  rw [if_neg (by omega), if_neg (by omega), if_neg (by omega)]
  rfl
theorem cut_nan (x y t : Nat) : nanB (Question.cut (.nanBits .f64 x y) t) = true := by
  refine read_nan ?_
  show 0x7ff0000000000000 < ((t % 2) * 2 ^ 63 + 0x7ff0000000000000 + 1 + (t / 2) % (2 ^ 52 - 1)) % 2 ^ 63
  have h1 : (t / 2) % (2 ^ 52 - 1) < 2 ^ 52 - 1 := Nat.mod_lt _ (by decide)
  generalize (t / 2) % (2 ^ 52 - 1) = x at h1 ⊢
  rcases (by omega : t % 2 = 0 ∨ t % 2 = 1) with h | h
  · rw [h, Nat.mod_eq_of_lt (by omega)]; omega
  · rw [h, show 1 * 2 ^ 63 + 0x7ff0000000000000 + 1 + x = 0x7ff0000000000000 + 1 + x + 2 ^ 63 from by omega, Nat.add_mod_right, Nat.mod_eq_of_lt (by omega)]; omega
theorem shl_zero {m k : Nat} (h : m <<< k = 0) : m = 0 := by
  rw [Nat.shiftLeft_eq] at h
  rcases Nat.mul_eq_zero.1 h with h | h
  · exact h
  · exact absurd h (by have := Nat.two_pow_pos k; omega)
theorem signed_zero {s : Bool} {m k : Nat} (h : Ieee.signed s m k = 0) : m = 0 := by
  unfold Ieee.signed at h
  refine shl_zero (k := k) ?_
  split at h <;> omega
theorem signed_0 (s : Bool) (k : Nat) : Ieee.signed s 0 k = 0 := by
  unfold Ieee.signed
  rw [Nat.zero_shiftLeft]
  split <;> rfl
theorem cmp_eq {a b : Int} (h : compare a b = .eq) : a = b := by
  simpa using h
theorem read_zero {a : Nat} (h : fEq .f64 a 0 = true) : ∃ s e, rdF a = .number s 0 e := by
  unfold fEq Format.order at h
  have e0 : FloatKind.f64.format.read 0 = .number false 0 (FloatKind.f64.format.leastPlace) := rfl
  rw [e0] at h
  cases hr : FloatKind.f64.format.read a with
  | nan => rw [hr] at h; simp [Datum.order] at h
  | infinity s => rw [hr] at h; cases s <;> simp [Datum.order] at h
  | number s m e =>
    rw [hr] at h
    simp only [Datum.order, beq_iff_eq, Option.some.injEq] at h
    have := cmp_eq h
    rw [signed_0] at this
    have := signed_zero this
    subst this
    exact ⟨s, e, hr⟩
end Go.Th
