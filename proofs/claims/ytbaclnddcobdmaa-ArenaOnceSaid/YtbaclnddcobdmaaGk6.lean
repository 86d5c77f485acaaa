/-
  Gk6: what an argument's reading (the form's own 'DataW.trod') gives, said once for all types, without data.
-/
import Derived.Test.YtbaclnddcobdmaaGk5
import Derived.Deep.Slices
import Derived.Carry
import Derived.ProofKit
import Derived.SizedLaws
set_option linter.unusedSimpArgs false
set_option linter.unusedVariables false
namespace Go.Gp
open Go Go.RowKit Go.Deep Go.ChangeShapes Go.WideShapes

/-- Cells cs read as a value of type t, to the bottom. -/
def RdT (P : Program) (W : World) : Nat → TypeId → List Value → Prop
  | 0, _, _ => False
  | n + 1, t, cs => match P.underlying t with
    | some (.int k) => ∃ x, cs = [.int k x] ∧ (Lit.int k x).wf = true
    | some .bool => ∃ b, cs = [.bool b]
    | some .string => ∃ s : ByteArray, cs = [.string s] ∧ s.size ≤ maxLen
    | some (.slice e) => cs = [.slice none 0 0] ∨ ∃ a len cap, cs = [.slice (some a) len cap] ∧ len ≤ cap ∧ cap ≤ maxLen ∧
        ∀ i, i < len → ∃ cs', cellsAt W (a.add (i * P.cellsOf e)) 0 cs' ∧ RdT P W n e cs'
    | some (.struct fs) => cs.length = P.cellsOf t ∧ ∀ (i : Nat) (f : Field), fs[i]? = some f → RdT P W n f.type ((cs.drop f.offset).take (P.cellsOf f.type))
    | _ => True

theorem cellsAt_of {W : World} {a : Addr} : ∀ (cs : List Value) (i : Nat), (∀ j v, cs[j]? = some v → W.cell? (a.add (i + j)) = some v) → cellsAt W a i cs
  | [], _, _ => trivial
  | v :: vs, i, h => ⟨by have := h 0 v rfl; rwa [Nat.add_zero] at this, cellsAt_of vs (i + 1) fun j u hu => by have := h (j + 1) u (by simpa using hu); rwa [show i + (j + 1) = i + 1 + j from by omega] at this⟩

theorem rdT_of {H : Type} {enc : TypeId × Value → H} {P : Program} {W : World} {base : Nat} {spare : Nat → Bool} {held : Bool} : ∀ (fuel : Nat) (t : TypeId) (cs : List Value) (x : DataW H × List MemPlace),
    DataW.trod enc P W base spare held fuel t cs = some x → RdT P W fuel t cs
  | 0, t, cs, x, h => by simp [DataW.trod] at h
  | n + 1, t, cs, x, h => by
    unfold RdT
    split
    · rename_i k ht
      obtain ⟨y, h1, _, h2⟩ := DataW.trod_int ht h
      exact ⟨y, h1, h2⟩
    · rename_i ht
      obtain ⟨y, h1, _⟩ := DataW.trod_bool ht h
      exact ⟨y, h1⟩
    · rename_i ht
      obtain ⟨y, h1, _, h2⟩ := DataW.trod_string ht h
      exact ⟨y, h1, h2⟩
    · rename_i e ht
      rcases DataW.trod_slice ht h with ⟨h1, _⟩ | ⟨a, len, cap, elems, rest, n', hn', h1, _, _, hl, hm, hlen, hel, _, _⟩
      · exact .inl h1
      · obtain rfl : n' = n := by omega
        refine .inr ⟨a, len, cap, h1, hl, hm, fun i hi => ?_⟩
        have he := hel i hi
        rw [List.getElem?_eq_getElem (by omega)] at he
        obtain ⟨cs', hc, ht'⟩ := Option.bind_eq_some_iff.1 he
        obtain ⟨_, hcl, hat⟩ := World.cells?_some hc
        refine ⟨cs', cellsAt_of cs' 0 fun j v hj => ?_, rdT_of n' _ _ _ ht'⟩
        have hjl : j < cs'.length := (List.getElem?_eq_some_iff.1 hj).1
        rw [Nat.zero_add]
        exact (hat j (by omega)).trans hj
    · rename_i fs ht
      obtain ⟨xs, n', hn', _, hl, hxs, hf⟩ := DataW.trod_struct ht h
      obtain rfl : n' = n := by omega
      refine ⟨hl, fun i f hi => ?_⟩
      have h1 := hf i f hi
      have h2 : i < xs.length := by rw [hxs]; exact (Array.getElem?_eq_some_iff.1 hi).1
      rw [List.getElem?_eq_getElem h2] at h1
      exact rdT_of n' _ _ _ h1
    · trivial
section
variable {P : Program} {W : World} {n : Nat} {t : TypeId}
theorem rd_int {k : IntKind} {v : Value} (ht : P.underlying t = some (.int k)) (h : RdT P W n t [v]) : ∃ x, v = .int k x ∧ (Lit.int k x).wf = true := by
  cases n with
  | zero => exact h.elim
  | succ n =>
    unfold RdT at h
    simp only [ht] at h
    obtain ⟨x, h1, h2⟩ := h
    simp only [List.cons.injEq, and_true] at h1
    exact ⟨x, h1, h2⟩
theorem rd_bool {v : Value} (ht : P.underlying t = some .bool) (h : RdT P W n t [v]) : ∃ x, v = .bool x := by
  cases n with
  | zero => exact h.elim
  | succ n =>
    unfold RdT at h
    simp only [ht] at h
    obtain ⟨x, h1⟩ := h
    simp only [List.cons.injEq, and_true] at h1
    exact ⟨x, h1⟩
theorem rd_str {v : Value} (ht : P.underlying t = some .string) (h : RdT P W n t [v]) : ∃ x : ByteArray, v = .string x ∧ x.size ≤ maxLen := by
  cases n with
  | zero => exact h.elim
  | succ n =>
    unfold RdT at h
    simp only [ht] at h
    obtain ⟨x, h1, h2⟩ := h
    simp only [List.cons.injEq, and_true] at h1
    exact ⟨x, h1, h2⟩
/-- A slice: nil, or a row of readings. -/
theorem rd_slice {e : TypeId} {v : Value} (ht : P.underlying t = some (.slice e)) (h : RdT P W n t [v]) :
    ∃ a len cap m, v = .slice a len cap ∧ len ≤ cap ∧ cap ≤ maxLen ∧ (a = none → len = 0 ∧ cap = 0) ∧
      ∀ i, i < len → ∃ p cs, a = some p ∧ cellsAt W (p.add (i * P.cellsOf e)) 0 cs ∧ RdT P W m e cs := by
  cases n with
  | zero => exact h.elim
  | succ n =>
    unfold RdT at h
    simp only [ht, List.cons.injEq, and_true] at h
    rcases h with rfl | ⟨a, len, cap, rfl, hl, hm, hx⟩
    · exact ⟨none, 0, 0, 0, rfl, Nat.le_refl _, Nat.zero_le _, fun _ => ⟨rfl, rfl⟩, fun i hi => absurd hi (Nat.not_lt_zero i)⟩
    · exact ⟨some a, len, cap, n, rfl, hl, hm, (fun h => by cases h), fun i hi => let ⟨cs, h1, h2⟩ := hx i hi; ⟨a, cs, rfl, h1, h2⟩⟩
theorem rd_struct {fs : Array Field} {cs : List Value} (ht : P.underlying t = some (.struct fs)) (h : RdT P W n t cs) :
    ∃ m, cs.length = P.cellsOf t ∧ ∀ (i : Nat) (f : Field), fs[i]? = some f → RdT P W m f.type ((cs.drop f.offset).take (P.cellsOf f.type)) := by
  cases n with
  | zero => exact h.elim
  | succ n =>
    unfold RdT at h
    simp only [ht] at h
    exact ⟨n, h⟩
end
theorem cell_lt {W : World} {a : Addr} {v : Value} (h : W.cell? a = some v) : a.block < W.heap.size := by
  unfold World.cell? at h
  rcases Nat.lt_or_ge a.block W.heap.size with h' | h'
  · exact h'
  · rw [Array.getElem?_eq_none h'] at h; cases h
theorem add_block (a : Addr) (n : Nat) : (a.add n).block = a.block := by unfold Addr.add; split <;> rfl
theorem maxLen_eq : maxLen = 9223372036854775807 := rfl
theorem len1 {α : Type} {l : List α} (h : l.length = 1) : ∃ a, l = [a] := by match l, h with | [a], _ => exact ⟨a, rfl⟩
theorem len2 {α : Type} {l : List α} (h : l.length = 2) : ∃ a b, l = [a, b] := by match l, h with | [a, b], _ => exact ⟨a, b, rfl⟩
theorem len3 {α : Type} {l : List α} (h : l.length = 3) : ∃ a b c, l = [a, b, c] := by match l, h with | [a, b, c], _ => exact ⟨a, b, c, rfl⟩
theorem len4 {α : Type} {l : List α} (h : l.length = 4) : ∃ a b c d, l = [a, b, c, d] := by match l, h with | [a, b, c, d], _ => exact ⟨a, b, c, d, rfl⟩
theorem len5 {α : Type} {l : List α} (h : l.length = 5) : ∃ a b c d e, l = [a, b, c, d, e] := by match l, h with | [a, b, c, d, e], _ => exact ⟨a, b, c, d, e, rfl⟩
theorem len7 {α : Type} {l : List α} (h : l.length = 7) : ∃ a b c d e f g, l = [a, b, c, d, e, f, g] := by match l, h with | [a, b, c, d, e, f, g], _ => exact ⟨a, b, c, d, e, f, g, rfl⟩
end Go.Gp
