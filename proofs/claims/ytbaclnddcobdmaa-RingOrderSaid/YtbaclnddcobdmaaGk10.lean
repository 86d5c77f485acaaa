/-
  Gk10: rows of one's own, that grow.
-/
import Derived.Test.YtbaclnddcobdmaaGk9
set_option linter.unusedSimpArgs false
set_option linter.unusedVariables false
namespace Go.Gp
open Go
/-- Slice s is nil, or the head of a block of its own (numbered B or more), and its cells are xs. -/
def OwnS (W : World) (B : Nat) (e : TypeId) (size : Nat) (s : Sl) (xs : List Value) : Prop := W.ownsRow B e size (.slice s.a s.len s.cap) s.len xs
def sblk (s : Sl) : List Nat := match s.a with | some p => [p.block] | none => []
theorem OwnS.nil (W : World) (B : Nat) (e : TypeId) (size : Nat) : OwnS W B e size ⟨none, 0, 0⟩ [] := World.ownsRow_nil W B e size
theorem OwnS.keep {W W' : World} {B : Nat} {e : TypeId} {size : Nat} {s : Sl} {xs : List Value} (h : OwnS W B e size s xs) {S : List Nat} (hk : Keeps S W W') (hs : ∀ b ∈ sblk s, b ∉ S) : OwnS W' B e size s xs := by
  refine ⟨h.1, ?_⟩
  rcases h.2 with hn | ⟨g, cap, cur, hv, hb, hgg, rest⟩
  · exact .inl hn
  · refine .inr ⟨g, cap, cur, hv, hb, ?_, rest⟩
    injection hv with h1 h2 h3
    rw [hk.block g (Array.getElem?_eq_some_iff.1 hgg).1 (hs g (by unfold sblk; rw [h1]; simp))]
    exact hgg
theorem OwnS.lt {W : World} {B : Nat} {e : TypeId} {size : Nat} {s : Sl} {xs : List Value} (h : OwnS W B e size s xs) : ∀ b ∈ sblk s, B ≤ b ∧ b < W.heap.size := by
  intro b hb
  rcases h.2 with ⟨hn, _⟩ | ⟨g, cap, cur, hv, hg, hgg, _⟩
  · injection hn with h1
    unfold sblk at hb; rw [h1] at hb; simp at hb
  · injection hv with h1
    unfold sblk at hb; rw [h1] at hb
    simp only [List.mem_singleton] at hb
    subst hb
    exact ⟨hg, (Array.getElem?_eq_some_iff.1 hgg).1⟩
theorem OwnS.far {W W' : World} {B : Nat} {e : TypeId} {size : Nat} {s : Sl} {xs : List Value} (h : OwnS W B e size s xs) {S : List Nat} (hk : Keeps S W W') (hs : ∀ b ∈ S, b < B) : OwnS W' B e size s xs :=
  h.keep hk fun b hb hm => by have := (h.lt b hb).1; have := hs b hm; omega
theorem OwnS.fresh {W W' : World} {B : Nat} {e : TypeId} {size : Nat} {s : Sl} {xs : List Value} (h : OwnS W B e size s xs) {S : List Nat} (hk : Keeps S W W') (hs : ∀ b ∈ S, W.heap.size ≤ b) : OwnS W' B e size s xs :=
  h.keep hk fun b hb hm => by have := (h.lt b hb).2; have := hs b hm; omega
theorem OwnS.len {W : World} {B : Nat} {e : TypeId} {size : Nat} {s : Sl} {xs : List Value} (h : OwnS W B e size s xs) : xs.length = s.len * size := h.1
theorem OwnS.cell {W : World} {B : Nat} {e : TypeId} {size : Nat} {s : Sl} {xs : List Value} (h : OwnS W B e size s xs) {j : Nat} {u : Value} (hj : xs[j]? = some u) : ∃ g, s.a = some ⟨g, 0, none⟩ ∧ W.cell? ⟨g, j, none⟩ = some u := by
  rcases h.2 with ⟨hn, h0⟩ | ⟨g, cap, cur, hv, hb, hgg, _⟩
  · have := h.1
    rw [h0, Nat.zero_mul] at this
    rw [List.eq_nil_of_length_eq_zero this] at hj
    simp at hj
  · injection hv with h1
    refine ⟨g, h1, ?_⟩
    have := World.ownsRow.cells h (g := g) (by rw [h1]; rfl) j u hj
    rwa [addr_add, Nat.zero_add] at this
theorem app_own {P : Program} {W : World} {t e : TypeId} {i : TypeInfo} {z : Value} {size bytes : Nat} (ht : P.underlying t = some (.slice e)) (hi : P.info? e = some i) (hz : i.zero = some z) (hsz : i.size = size) (hby : i.bytes = bytes)
    (hzs : z.cells.size = size) (h0 : 0 < size) {B : Nat} {s : Sl} {xs : List Value} (ho : OwnS W B e size s xs) {a : Addr} {m c : Nat} (news : List Value) (hl : news.length = m * size) (hn : ∀ j u, news[j]? = some u → W.cell? (a.add j) = some u)
    (h1 : ∀ u ∈ news, u.oneCell' = true) (hb : (s.len + m) * bytes ≤ 140737488355328) (h63 : s.len + m ≤ 9223372036854775807) (hB : B ≤ W.heap.size) {K : Sl → World → Prop}
    (hk : ∀ r W', OwnS W' B e size r (xs ++ news) → Keeps (sblk s) W W' → r.len = s.len + m → K r W') :
    runG' P (.val (.one .sl)) (Builtin.append_ #[t, t] t #[.slice s.a s.len s.cap, .slice (some a) m c]) W K := by
  obtain ⟨v', w', hr, ho', hg, hnil⟩ := run_append_own (P := P) W B t t e i z size bytes ht hi hz hsz hby hzs h0 _ s.len xs ho a m c news hl hn h1 (by rw [maxLen_eq]; exact h63) hb hB
  have hks : Keeps (sblk s) W w' := ⟨hg.os, hg.tape, hg.output, hg.size, fun x hx hxs => hg.block x hx (by
    unfold sblk at hxs
    obtain ⟨p, n, c⟩ := s
    cases p with
    | none => simp [Value.ownBlock]
    | some p => simpa [Value.ownBlock] using hxs)⟩
  rcases ho'.2 with ⟨rfl, h00⟩ | ⟨g, cap, cur, rfl, rest⟩
  · refine ⟨⟨none, 0, 0⟩, w', hr, hk _ _ ?_ hks (by simp only; omega)⟩
    have h2 := ho'
    rw [h00] at h2
    exact h2
  · exact ⟨⟨some ⟨g, 0, none⟩, s.len + m, cap⟩, w', hr, hk _ _ ho' hks rfl⟩
/-- A slice's elements, each a bool. -/
theorem rd_bools {P : Program} {W : World} {n : Nat} {t e : TypeId} {s : Sl} (ht : P.underlying t = some (.slice e)) (he : P.underlying e = some .bool) (hs : P.cellsOf e = 1)
    (h : RdT P W n t [.slice s.a s.len s.cap]) : s.len ≤ 9223372036854775807 ∧ ∀ i, i < s.len → ∃ p x, s.a = some p ∧ W.cell? (p.add i) = some (.bool x) := by
  obtain ⟨a, len, cap, m, hv, hl, hm, _, hx⟩ := rd_slice ht h
  obtain ⟨rfl, rfl, rfl⟩ : s.a = a ∧ s.len = len ∧ s.cap = cap := by injection hv with h1 h2 h3; exact ⟨h1, h2, h3⟩
  rw [maxLen_eq] at hm
  refine ⟨by omega, fun i hi => ?_⟩
  obtain ⟨p, cs, hp, hc, hr⟩ := hx i hi
  rw [hs, Nat.mul_one] at hc
  cases m with
  | zero => exact hr.elim
  | succ m =>
    unfold RdT at hr
    simp only [he] at hr
    obtain ⟨x, rfl⟩ := hr
    have h0 := hc.1
    rw [show (p.add i).add 0 = p.add i from by simp [Addr.add]] at h0
    exact ⟨p, x, hp, h0⟩
end Go.Gp
