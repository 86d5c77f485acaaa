/-
  Gk11: memory by regions (A: which blocks are whose); rows of elements that hold memory themselves; rows of one's own: cut, set, grown, and where they lie.
-/
import Derived.Test.YtbaclnddcobdmaaGk10
import Derived.Maps.AppendAt
set_option linter.unusedSimpArgs false
set_option linter.unusedVariables false
namespace Go.Gp
open Go
abbrev Sl.val (s : Sl) : Value := .slice s.a s.len s.cap
def inA (A : Nat → Prop) (s : Sl) : Prop := ∀ b ∈ sblk s, A b
theorem inA.mono {A A' : Nat → Prop} {s : Sl} (h : inA A s) (hA : ∀ b, A b → A' b) : inA A' s := fun b hb => hA b (h b hb)
theorem inA.nil (A : Nat → Prop) : inA A ⟨none, 0, 0⟩ := fun b hb => by simp [sblk] at hb
/-- What is new between two worlds. -/
def newA (W W' : World) : Nat → Prop := fun b => W.heap.size ≤ b ∧ b < W'.heap.size
structure BsA (A : Nat → Prop) (W : World) (s : Sl) (l : List UInt8) : Prop where
  bs : Bs W s l
  a : inA A s
theorem BsA.keep {A : Nat → Prop} {W W' : World} {s : Sl} {l : List UInt8} (h : BsA A W s l) {S : List Nat} (hk : Keeps S W W') (hs : ∀ b ∈ S, ¬ A b) : BsA A W' s l :=
  ⟨h.bs.keep hk fun p hp _ hm => hs _ hm (h.a _ (by unfold sblk; rw [hp]; simp)), h.a⟩
theorem BsA.mono {A A' : Nat → Prop} {W : World} {s : Sl} {l : List UInt8} (h : BsA A W s l) (hA : ∀ b, A b → A' b) : BsA A' W s l := ⟨h.bs, h.a.mono hA⟩
theorem Rs.keepA {W W' : World} {size : Nat} {s : Sl} {xs : List Value} (h : Rs W size s xs) {A : Nat → Prop} (ha : inA A s) {S : List Nat} (hk : Keeps S W W') (hs : ∀ b ∈ S, ¬ A b) : Rs W' size s xs :=
  h.keep hk fun b hb _ hm => hs b hm (ha b hb)
/-- A row whose elements stand for ps. -/
structure RowOf {α β : Type} (f : α → List Value) (k : Nat) (R : (Nat → Prop) → World → α → β → Prop) (A : Nat → Prop) (W : World) (s : Sl) (ps : List β) : Prop where
  row : ∃ xs : List α, xs.length = ps.length ∧ Rs W k s (xs.flatMap f) ∧ ∀ (i : Nat) (x : α) (p : β), xs[i]? = some x → ps[i]? = some p → R A W x p
  len : s.len = ps.length
  a : inA A s
  nil : s.a = none → s.len = 0 ∧ s.cap = 0
theorem RowOf.keep {α β : Type} {f : α → List Value} {k : Nat} {R : (Nat → Prop) → World → α → β → Prop} {A : Nat → Prop} {W W' : World} {s : Sl} {ps : List β} (h : RowOf f k R A W s ps) {S : List Nat} (hk : Keeps S W W') (hs : ∀ b ∈ S, ¬ A b)
    (hR : ∀ x p, R A W x p → R A W' x p) : RowOf f k R A W' s ps :=
  ⟨let ⟨xs, h1, h2, h3⟩ := h.row; ⟨xs, h1, h2.keepA h.a hk hs, fun i x p hx hp => hR _ _ (h3 i x p hx hp)⟩, h.len, h.a, h.nil⟩
theorem RowOf.mono {α β : Type} {f : α → List Value} {k : Nat} {R : (Nat → Prop) → World → α → β → Prop} {A A' : Nat → Prop} {W : World} {s : Sl} {ps : List β} (h : RowOf f k R A W s ps) (hA : ∀ b, A b → A' b)
    (hR : ∀ x p, R A W x p → R A' W x p) : RowOf f k R A' W s ps :=
  ⟨let ⟨xs, h1, h2, h3⟩ := h.row; ⟨xs, h1, h2, fun i x p hx hp => hR _ _ (h3 i x p hx hp)⟩, h.len, h.a.mono hA, h.nil⟩
theorem RowOf.none {α β : Type} (f : α → List Value) (k : Nat) (R : (Nat → Prop) → World → α → β → Prop) (A : Nat → Prop) (W : World) : RowOf f k R A W ⟨none, 0, 0⟩ [] :=
  ⟨⟨[], rfl, Rs.nil W k, fun i x p h => by simp at h⟩, rfl, inA.nil A, fun _ => ⟨rfl, rfl⟩⟩
/-! The elements that there are: bytes, pairs of bytes, whole numbers. -/
abbrev slC (s : Sl) : List Value := [s.val]
abbrev prC (x : Sl × Sl) : List Value := [x.1.val, x.2.val]
abbrev inC (x : Int) : List Value := [.int .i64 x]
abbrev KysA := RowOf slC 1 BsA
abbrev PrsA := RowOf prC 2 fun A W (x : Sl × Sl) (p : List UInt8 × List UInt8) => BsA A W x.1 p.1 ∧ BsA A W x.2 p.2
abbrev IntsA := RowOf inC 1 fun (_ : Nat → Prop) (_ : World) (x y : Int) => x = y
theorem KysA.kp {A : Nat → Prop} {W W' : World} {s : Sl} {l : List (List UInt8)} (h : KysA A W s l) {S : List Nat} (hk : Keeps S W W') (hs : ∀ b ∈ S, ¬ A b) : KysA A W' s l := h.keep hk hs fun _ _ h => h.keep hk hs
theorem KysA.mn {A A' : Nat → Prop} {W : World} {s : Sl} {l : List (List UInt8)} (h : KysA A W s l) (hA : ∀ b, A b → A' b) : KysA A' W s l := RowOf.mono h hA fun _ _ h => h.mono hA
theorem PrsA.kp {A : Nat → Prop} {W W' : World} {s : Sl} {l : List (List UInt8 × List UInt8)} (h : PrsA A W s l) {S : List Nat} (hk : Keeps S W W') (hs : ∀ b ∈ S, ¬ A b) : PrsA A W' s l := h.keep hk hs fun _ _ h => ⟨h.1.keep hk hs, h.2.keep hk hs⟩
theorem PrsA.mn {A A' : Nat → Prop} {W : World} {s : Sl} {l : List (List UInt8 × List UInt8)} (h : PrsA A W s l) (hA : ∀ b, A b → A' b) : PrsA A' W s l := RowOf.mono h hA fun _ _ h => ⟨h.1.mono hA, h.2.mono hA⟩
theorem IntsA.kp {A : Nat → Prop} {W W' : World} {s : Sl} {l : List Int} (h : IntsA A W s l) {S : List Nat} (hk : Keeps S W W') (hs : ∀ b ∈ S, ¬ A b) : IntsA A W' s l := h.keep hk hs fun _ _ h => h
theorem IntsA.mn {A A' : Nat → Prop} {W : World} {s : Sl} {l : List Int} (h : IntsA A W s l) (hA : ∀ b, A b → A' b) : IntsA A' W s l := RowOf.mono h hA fun _ _ h => h
theorem IntsA.rs {A : Nat → Prop} {W : World} {s : Sl} {l : List Int} (h : IntsA A W s l) : Rs W 1 s (l.map (Value.int .i64)) := by
  obtain ⟨xs, h1, h2, h3⟩ := h.row
  have : xs = l := by
    apply List.ext_getElem? 
    intro i
    by_cases hi : i < xs.length
    · rw [List.getElem?_eq_getElem hi, List.getElem?_eq_getElem (by omega)]
      rw [h3 i _ _ (List.getElem?_eq_getElem hi) (List.getElem?_eq_getElem (by omega))]
    · rw [List.getElem?_eq_none (by omega), List.getElem?_eq_none (by omega)]
  subst this
  rwa [List.map_eq_flatMap]
/-! Rows of one's own. -/
theorem OwnS.nilc {W : World} {B : Nat} {e : TypeId} {size : Nat} {s : Sl} {xs : List Value} (h : OwnS W B e size s xs) (hn : s.a = none) : s.len = 0 ∧ s.cap = 0 := by
  rcases h.2 with ⟨hv, h0⟩ | ⟨g, cap, cur, hv, _⟩
  · injection hv with _ _ h3
    exact ⟨h0, h3⟩
  · injection hv with h1
    rw [hn] at h1; cases h1
theorem OwnS.row {α β : Type} {f : α → List Value} {k : Nat} {R : (Nat → Prop) → World → α → β → Prop} {A : Nat → Prop} {W : World} {B : Nat} {e : TypeId} {s : Sl} {xs : List α} {ps : List β} (h : OwnS W B e k s (xs.flatMap f)) (hf : ∀ x, (f x).length = k) (hk : 0 < k) (hl : xs.length = ps.length)
    (ha : inA A s) (hR : ∀ (i : Nat) (x : α) (p : β), xs[i]? = some x → ps[i]? = some p → R A W x p) : RowOf f k R A W s ps :=
  ⟨⟨xs, hl, h.rs, hR⟩, by
    have := h.len
    rw [flat_len f hf] at this
    have := Nat.eq_of_mul_eq_mul_right hk this
    omega, ha, h.nilc⟩
theorem app_own' {P : Program} {W : World} {t e : TypeId} {i : TypeInfo} {z : Value} {size bytes : Nat} (ht : P.underlying t = some (.slice e)) (hi : P.info? e = some i) (hz : i.zero = some z) (hsz : i.size = size) (hby : i.bytes = bytes)
    (hzs : z.cells.size = size) (h0 : 0 < size) {B : Nat} {s : Sl} {xs : List Value} (ho : OwnS W B e size s xs) {a : Addr} {m c : Nat} (news : List Value) (hl : news.length = m * size) (hn : ∀ j u, news[j]? = some u → W.cell? (a.add j) = some u)
    (h1 : ∀ u ∈ news, u.oneCell' = true) (hb : (s.len + m) * bytes ≤ 140737488355328) (h63 : s.len + m ≤ 9223372036854775807) (hB : B ≤ W.heap.size) {K : Sl → World → Prop}
    (hk : ∀ r W', OwnS W' B e size r (xs ++ news) → Keeps (sblk s) W W' → r.len = s.len + m → (∀ b ∈ sblk r, b ∈ sblk s ∨ newA W W' b) → (r.a = none → s.a = none) → K r W') :
    runG' P (.val (.one .sl)) (Builtin.append_ #[t, t] t #[.slice s.a s.len s.cap, .slice (some a) m c]) W K := by
  obtain ⟨v', w', hr, ho', hg, hnil, hat⟩ := run_append_own_at (P := P) W B t t e i z size bytes ht hi hz hsz hby hzs h0 _ s.len xs ho a m c news hl hn h1 (by rw [maxLen_eq]; exact h63) hb hB
  have hks : Keeps (sblk s) W w' := ⟨hg.os, hg.tape, hg.output, hg.size, fun x hx hxs => hg.block x hx (by
    unfold sblk at hxs
    obtain ⟨p, n, c⟩ := s
    cases p with
    | none => simp [Value.ownBlock]
    | some p => simpa [Value.ownBlock] using hxs)⟩
  rcases ho'.2 with ⟨rfl, h00⟩ | ⟨g, cap, cur, rfl, _, hgg, _⟩
  · refine ⟨⟨none, 0, 0⟩, w', hr, hk _ _ ?_ hks (by simp only; omega) (by simp [sblk]) fun _ => by have := (hnil.1 rfl).1; injection this⟩
    have h2 := ho'
    rw [h00] at h2
    exact h2
  · refine ⟨⟨some ⟨g, 0, none⟩, s.len + m, cap⟩, w', hr, hk _ _ ho' hks rfl (fun b hb => ?_) fun h => by cases h⟩
    simp only [sblk, List.mem_singleton] at hb
    subst hb
    rcases hat with h | h
    · left
      simp only [Value.ownBlock] at h
      unfold sblk
      split at h
      · rename_i q _ _ hq
        injection h with h
        injection hq with hq
        rw [hq]; simp [← h]
      · cases h
    · right
      simp only [Value.ownBlock, Option.some.injEq] at h
      exact ⟨by omega, (Array.getElem?_eq_some_iff.1 hgg).1⟩
/-- s[:h] of a row of one's own is one's own. -/
theorem OwnS.cut {W : World} {B : Nat} {e : TypeId} {size : Nat} {s : Sl} {xs : List Value} (h : OwnS W B e size s xs) (n : Nat) (hn : n ≤ s.len) : OwnS W B e size ⟨s.a, n, s.cap⟩ (xs.take (n * size)) := by
  have hl := h.len
  have hle : n * size ≤ s.len * size := Nat.mul_le_mul_right _ hn
  refine ⟨by simp only [List.length_take]; omega, ?_⟩
  rcases h.2 with ⟨hv, h0⟩ | ⟨g, cap, cur, hv, hB, hgg, hc, hm, hcs, htk⟩
  · injection hv with h1 h2 h3
    left
    refine ⟨?_, by simp only; omega⟩
    simp only
    rw [h1, h3, show n = 0 from by omega]
  · injection hv with h1 h2 h3
    right
    refine ⟨g, cap, cur, ?_, hB, hgg, by simp only; omega, hm, hcs, ?_⟩
    · simp only; rw [h1, h3]
    · rw [← htk, List.take_take]
      simp only
      congr 1
      omega
/-- A store into a row of one's own. -/
theorem st_own {W : World} {B : Nat} {e : TypeId} {size : Nat} {s : Sl} {xs : List Value} (h : OwnS W B e size s xs) {g j : Nat} (hg : s.a = some ⟨g, 0, none⟩) (hj : j < xs.length) {v : Value} {K : World → Prop}
    (hk : ∀ W', Keeps [g] W W' → OwnS W' B e size s (xs.set j v) → K W') : st1 (Addr.mk g j none) v W K := by
  rcases h.2 with ⟨hv, h0⟩ | ⟨g', cap, cur, hv, hB, hgg, hc, hm, hcs, htk⟩
  · injection hv with h1
    rw [h1] at hg; cases hg
  · have hv' := hv
    injection hv' with h1 h2 h3
    rw [h1] at hg
    simp only [Option.some.injEq, Addr.mk.injEq, and_true] at hg
    subst hg
    have hb : Blk W g' cur.toList e := hgg
    have hlen := h.1
    have hcl : (cur.toList.take (s.len * size)).length = xs.length := by rw [htk]
    have hjc : j < cur.toList.length := by rw [List.length_take] at hcl; omega
    refine st_blk' hb hjc fun W' k b => hk W' k ⟨by simpa using h.1, .inr ⟨g', cap, ⟨cur.toList.set j v⟩, hv, hB, b, hc, hm, by simpa using hcs, ?_⟩⟩
    rw [← htk, List.take_set]
/-- s[:h] -/
theorem slc_hi {a : Option Addr} {cap size : Nat} {h : Int} {K : Sl → Prop} (h0 : 0 ≤ h) (h1 : h ≤ cap) (hk : K ⟨a, h.toNat, cap⟩) : slcG a cap size 0 h K := by
  refine ⟨Int.le_refl _, h0, h1, ?_⟩
  have : (if cap = Int.toNat 0 then a else a.map (·.add (Int.toNat 0 * size))) = a := by
    split
    · rfl
    · cases a with
      | none => rfl
      | some p => simp [Addr.add]
  rw [this]
  exact hk
/-- s[l:h] of a slice that is read. -/
theorem slc_rs {W : World} {size : Nat} {s : Sl} {xs : List Value} (hs : Rs W size s xs) {l h : Int} (h0 : 0 ≤ l) (h1 : l ≤ h) (h2 : h ≤ s.len) {K : Sl → Prop}
    (hk : ∀ r, Rs W size r ((xs.drop (l.toNat * size)).take ((h.toNat - l.toNat) * size)) → sblk r = sblk s → r.len = h.toNat - l.toNat → r.cap = s.cap - l.toNat → (r.a = none ↔ s.a = none) → K r) : slcG s.a s.cap size l h K := by
  have hc := hs.cap
  have hlen := hs.len
  refine ⟨h0, h1, by omega, hk _ ⟨?_, by simp only; omega, fun j u hu => ?_⟩ ?_ rfl rfl ?_⟩
  · simp only [List.length_take, List.length_drop, hlen]
    rw [← Nat.sub_mul]
    have : (h.toNat - l.toNat) * size ≤ (s.len - l.toNat) * size := Nat.mul_le_mul_right _ (by omega)
    omega
  · rw [List.getElem?_take] at hu
    split at hu <;> first | (cases hu; done) | skip
    rename_i hj
    rw [List.getElem?_drop] at hu
    obtain ⟨p, hp, hcell⟩ := hs.at_ _ u hu
    have hne : ¬ s.cap = l.toNat := fun e => by
      have : (h.toNat - l.toNat) = 0 := by omega
      rw [this, Nat.zero_mul] at hj
      omega
    refine ⟨p.add (l.toNat * size), by simp only; rw [if_neg hne, hp]; rfl, ?_⟩
    rw [addr_add_add]
    exact hcell
  · unfold sblk
    simp only
    split <;> rename_i h
    all_goals
      split at h
      · rw [h]
      · cases ha : s.a <;> rw [ha] at h <;> simp at h
        try (rw [← h, add_block])
  · simp only
    split
    · rfl
    · simp
end Go.Gp
