/-
  The arena (layer 7): what each function does with an arena in memory.
-/
import Derived.Test.YtbaclnddcobdmaaArena2
set_option linter.unusedSimpArgs false
set_option linter.unusedVariables false
namespace Go.Proofs.Ytbaclnddcobdmaa
open Go Go.Gp
abbrev boC (o : Option Nd) : Value := .bool o.isSome
abbrev frC (i : Nat) : Value := .int .i64 (i : Int)
/-- An arena in memory: A are its blocks; sl, st, sf its rows; xs the nodes' cells. -/
structure ArenaX (A : Nat → Prop) (W : World) (a : Nat) (sl st sf : Sl) (xs : List NdX) (ns : List (Option Nd)) (fr : List Nat) : Prop where
  hd : Blk W a [sl.val, st.val, sf.val] 158
  ol : OwnS W 0 75 5 sl (xs.flatMap ndC)
  ot : OwnS W 0 4 1 st (ns.map boC)
  of : OwnS W 0 3 1 sf (fr.map frC)
  xl : xs.length = ns.length
  nd : ∀ (i : Nat) x n, xs[i]? = some x → ns[i]? = some (some n) → NdA (fun b => A b ∧ b ∉ a :: (sblk sl ++ (sblk st ++ sblk sf))) W x n
  aA : ∀ b ∈ a :: (sblk sl ++ (sblk st ++ sblk sf)), A b
  lt : ∀ b, A b → b < W.heap.size
  d1 : ∀ b ∈ sblk sl, b ≠ a ∧ b ∉ sblk st ∧ b ∉ sblk sf
  d2 : ∀ b ∈ sblk st, b ≠ a ∧ b ∉ sblk sf
  d3 : ∀ b ∈ sblk sf, b ≠ a
  frn : ∀ i ∈ fr, ns[i]? = some none
  nd2 : fr.Nodup
def ArenaAt (A : Nat → Prop) (W : World) (a : Nat) (ns : List (Option Nd)) (fr : List Nat) : Prop := ∃ sl st sf xs, ArenaX A W a sl st sf xs ns fr
theorem ArenaX.keep {A : Nat → Prop} {W W' : World} {a : Nat} {sl st sf : Sl} {xs : List NdX} {ns : List (Option Nd)} {fr : List Nat} (h : ArenaX A W a sl st sf xs ns fr) {S : List Nat} (hk : Keeps S W W') (hs : ∀ b ∈ S, ¬ A b) : ArenaX A W' a sl st sf xs ns fr := by
  have na : ∀ b ∈ a :: (sblk sl ++ (sblk st ++ sblk sf)), b ∉ S := fun b hb hm => hs b hm (h.aA b hb)
  have sz := hk.size
  exact ⟨h.hd.keep hk (na a (by simp)), h.ol.keep hk fun b hb => na b (by simp [hb]), h.ot.keep hk fun b hb => na b (by simp [hb]), h.of.keep hk fun b hb => na b (by simp [hb]), h.xl,
    fun i x n hx hn => (h.nd i x n hx hn).keep hk fun b hb he => hs b hb he.1, h.aA, fun b hb => Nat.lt_of_lt_of_le (h.lt b hb) sz, h.d1, h.d2, h.d3, h.frn, h.nd2⟩
theorem ArenaX.slen {A : Nat → Prop} {W : World} {a : Nat} {sl st sf : Sl} {xs : List NdX} {ns : List (Option Nd)} {fr : List Nat} (h : ArenaX A W a sl st sf xs ns fr) : sl.len = ns.length ∧ st.len = ns.length ∧ sf.len = fr.length := by
  have h1 := h.ol.len
  have h2 := h.ot.len
  have h3 := h.of.len
  rw [flat_len (k := 5) ndC (fun _ => rfl)] at h1
  simp only [List.length_map] at h2 h3
  have := h.xl
  omega
theorem nNode : ∃ i, Try.prog.info? 75 = some i ∧ i.zero = some (.agg #[.bool false, .slice none 0 0, .slice none 0 0, .slice none 0 0, .int .i64 0]) ∧ i.size = 5 ∧ i.bytes = 88 := info_of (by kernel_rfl)
theorem nBool : ∃ i, Try.prog.info? 4 = some i ∧ i.zero = some (.bool false) ∧ i.size = 1 ∧ i.bytes = 1 := info_of (by kernel_rfl)
theorem uNodes : Try.prog.underlying 156 = some (.slice 75) := by kernel_rfl
theorem uBools : Try.prog.underlying 109 = some (.slice 4) := by kernel_rfl
/-- is: there. -/
def there (ns : List (Option Nd)) (i : Int) : Bool := decide (0 ≤ i) && (ns[i.toNat]?.getD none).isSome
theorem ais_spec {A : Nat → Prop} {W : World} {a : Nat} {sl st sf : Sl} {xs : List NdX} {ns : List (Option Nd)} {fr : List Nat} (h : ArenaX A W a sl st sf xs ns fr) (i : Int) {K : Bool × Unit → World → Prop} (hk : K (there ns i, ()) W) :
    callG Try.prog 96 [.pointer (some ⟨a, 0, none⟩), .int .i64 i] [.one .bool] W K := by
  apply call96
  unfold G96
  unfold there at hk
  obtain ⟨l1, l2, l3⟩ := h.slen
  simp only [nilck_some, addr0]
  refine ifD (fun h1 => ld_sl (by rw [h.hd.cell]; rfl) (ifD (fun h2 => ld_sl (by rw [h.hd.cell]; rfl) ?_) fun h2 => ?_)) fun h1 => ?_
  · simp only at h2
    have hi : i.toNat < ns.length := by omega
    obtain ⟨g, hg, hc⟩ := h.ot.cell (j := i.toNat) (u := boC ns[i.toNat]) (by rw [List.getElem?_map, List.getElem?_eq_getElem hi]; rfl)
    rw [hg]
    refine idx_some (by omega) (by simp only; omega) ?_
    rw [addr0, Nat.mul_one]
    refine ld_bool hc ?_
    rw [decide_eq_true (by omega : 0 ≤ i), Bool.true_and, List.getElem?_eq_getElem hi] at hk
    exact hk
  · simp only at h2
    rw [List.getElem?_eq_none (by omega)] at hk
    simpa using hk
  · rw [decide_eq_false (by omega : ¬ 0 ≤ i), Bool.false_and] at hk
    exact hk
theorem aused_spec {A : Nat → Prop} {W : World} {a : Nat} {sl st sf : Sl} {xs : List NdX} {ns : List (Option Nd)} {fr : List Nat} (h : ArenaX A W a sl st sf xs ns fr) (hn : ns.length ≤ 1000000000) (hf : fr.length ≤ 1000000000) {K : Int × Unit → World → Prop}
    (hk : ∀ W', Keeps [] W W' → K ((ns.length : Int) - fr.length, ()) W') : callG Try.prog 48 [.pointer (some ⟨a, 0, none⟩)] [.one (.int .i64)] W K := by
  apply call48
  unfold G48
  refine drw_intro fun W1 k1 _ => ?_
  have h1 := h.keep k1 (by simp)
  obtain ⟨l1, l2, l3⟩ := h.slen
  simp only [nilck_some, addr0, ldS_eq]
  refine ld_sl (by rw [h1.hd.cell]; rfl) (ld_sl (by rw [h1.hd.cell]; rfl) ?_)
  dsimp only
  rw [l1, l3, w64 (by omega) (by omega)]
  exact hk W1 k1
theorem alen_spec {A : Nat → Prop} {W : World} {a : Nat} {sl st sf : Sl} {xs : List NdX} {ns : List (Option Nd)} {fr : List Nat} (h : ArenaX A W a sl st sf xs ns fr) {K : Int × Unit → World → Prop}
    (hk : K ((ns.length : Int), ()) W) : callG Try.prog 49 [.pointer (some ⟨a, 0, none⟩)] [.one (.int .i64)] W K := by
  apply call49
  unfold G49
  obtain ⟨l1, l2, l3⟩ := h.slen
  simp only [nilck_some]
  refine ld_sl (by rw [h.hd.cell]; rfl) ?_
  dsimp only
  rw [l1]
  exact hk
theorem anew_spec {W : World} {K : Option Addr × Unit → World → Prop} (hk : ∀ a W', W.heap.size ≤ a → Keeps [] W W' → ArenaAt (newA W W') W' a [] [] → K (some ⟨a, 0, none⟩, ()) W') : callG Try.prog 44 [] [.one .ptr] W K := by
  apply call44
  unfold G44
  refine new_blk fun a W1 ha k1 b1 => hk a W1 (by omega) k1 ⟨⟨none, 0, 0⟩, ⟨none, 0, 0⟩, ⟨none, 0, 0⟩, [], b1, OwnS.nil .., OwnS.nil .., OwnS.nil .., rfl, by simp, ?_, fun b hb => hb.2, by simp [sblk], by simp [sblk], by simp [sblk], by simp, by simp⟩
  have := b1.lt
  intro b hb
  simp [sblk] at hb
  subst hb
  exact ⟨by omega, this⟩
/-- Get: a copy. -/
theorem aget_spec {A : Nat → Prop} {W : World} {a : Nat} {sl st sf : Sl} {xs : List NdX} {ns : List (Option Nd)} {fr : List Nat} (h : ArenaX A W a sl st sf xs ns fr) (i : Int) (hsm : ∀ n, some n ∈ ns → n.Small) {K : (Bool × Sl × Sl × Sl × Int × Unit) × Bool × Unit → World → Prop}
    (hno : there ns i = false → ∀ W', Keeps [] W W' → K ((false, ⟨none, 0, 0⟩, ⟨none, 0, 0⟩, ⟨none, 0, 0⟩, 0, ()), false, ()) W')
    (hk : ∀ n, 0 ≤ i → ns[i.toNat]? = some (some n) → ∀ y W', Keeps [] W W' → NdA (newA W W') W' y n → K ((y.1, y.2.1, y.2.2.1, y.2.2.2.1, y.2.2.2.2, ()), true, ()) W') :
    callG Try.prog 69 [.pointer (some ⟨a, 0, none⟩), .int .i64 i] [.agg [.bool, .sl, .sl, .sl, .int .i64], .one .bool] W K := by
  apply call69
  unfold G69
  refine new_blk fun b1 W1 hb1 k1 e1 => ?_
  have h1 := h.keep k1 (by simp)
  have z1 := k1.size
  have lb := e1.lt
  obtain ⟨l1, l2, l3⟩ := h.slen
  refine ais_spec h1 i (ifNot (fun ht => ?_) fun ht => ?_)
  · refine st5 _ _ _ _ _ e1 fun W2 k2 e2 => ld5 (x := (false, ⟨none, 0, 0⟩, ⟨none, 0, 0⟩, ⟨none, 0, 0⟩, 0)) e2 ?_
    exact hno ht W2 (k1.push k2 (by simp [hb1]))
  · have ht' : there ns i = true := ht
    unfold there at ht'
    simp only [Bool.and_eq_true, decide_eq_true_eq] at ht'
    obtain ⟨hi0, hs⟩ := ht'
    cases hnn : ns[i.toNat]? with
    | none => rw [hnn] at hs; simp at hs
    | some o =>
      rw [hnn] at hs
      cases o with
      | none => simp at hs
      | some n =>
        have hlt := (List.getElem?_eq_some_iff.1 hnn).1
        have hxl : i.toNat < xs.length := by rw [h.xl]; exact hlt
        have hx : xs[i.toNat]? = some xs[i.toNat] := List.getElem?_eq_getElem hxl
        have cell : ∀ j, j < 5 → ∀ u, (ndC xs[i.toNat])[j]? = some u → ∃ g, sl.a = some ⟨g, 0, none⟩ ∧ W1.cell? ⟨g, i.toNat * 5 + j, none⟩ = some u := fun j hj u hu =>
          h1.ol.cell (by rw [flat_get (k := 5) ndC (fun _ => rfl) _ _ _ hj, hx]; exact hu)
        obtain ⟨g, hg, c0⟩ := cell 0 (by decide) _ rfl
        have cg : ∀ j, j < 5 → ∀ u, (ndC xs[i.toNat])[j]? = some u → W1.cell? ⟨g, i.toNat * 5 + j, none⟩ = some u := fun j hj u hu => by
          obtain ⟨g', hg', hc⟩ := cell j hj u hu
          rw [hg] at hg'
          simp only [Option.some.injEq, Addr.mk.injEq, and_true] at hg'
          rw [hg']; exact hc
        simp only [nilck_some]
        refine ld_sl (by rw [h1.hd.cell]; rfl) ⟨_, hg, hi0, by simp only; omega, ?_⟩
        refine ldN_intro (xs[i.toNat].1, xs[i.toNat].2.1, xs[i.toNat].2.2.1, xs[i.toNat].2.2.2.1, xs[i.toNat].2.2.2.2, ()) ⟨by rw [addr0, addr_add]; exact c0, by rw [addr0, addr_add]; exact cg 1 (by decide) _ rfl, by rw [addr0, addr_add]; exact cg 2 (by decide) _ rfl, by rw [addr0, addr_add]; exact cg 3 (by decide) _ rfl, by rw [addr0, addr_add]; exact cg 4 (by decide) _ rfl, trivial⟩ ?_
        refine copied_spec (h1.nd _ _ _ hx hnn) (hsm n (List.mem_of_getElem? hnn)) fun y W2 hy k2 => ?_
        have e2 := e1.keep k2 (by simp)
        have z2 := k2.size
        refine st5 _ _ _ _ _ e2 fun W3 k3 e3 => ld5 (x := y) e3 ?_
        have z3 := k3.size
        refine hk n hi0 hnn y W3 ((k1.trans k2).push k3 (by simp [hb1])) ((hy.keep k3 fun b hb he => ?_).mono fun b hb => ⟨Nat.le_trans z1 hb.1, by have := hb.2; omega⟩)
        simp at hb; subst hb; have := he.1; omega
end Go.Proofs.Ytbaclnddcobdmaa
