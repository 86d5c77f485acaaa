/-
  The arena (layer 7): what changes it.
-/
import Derived.Test.YtbaclnddcobdmaaArena3
set_option linter.unusedSimpArgs false
set_option linter.unusedVariables false
namespace Go.Proofs.Ytbaclnddcobdmaa
open Go Go.Gp
theorem own_head {W : World} {B : Nat} {e : TypeId} {size : Nat} {s : Sl} {xs : List Value} (h : OwnS W B e size s xs) (hx : 0 < xs.length) : ∃ g, s.a = some ⟨g, 0, none⟩ ∧ sblk s = [g] := by
  obtain ⟨g, hg, _⟩ := h.cell (j := 0) (List.getElem?_eq_getElem hx)
  exact ⟨g, hg, by unfold sblk; rw [hg]⟩
theorem st5_own {W : World} {e : TypeId} {s : Sl} {xs : List NdX} (h : OwnS W 0 e 5 s (xs.flatMap ndC)) {i : Nat} (hi : i < xs.length) (y : NdX) {K : World → Prop}
    (hk : ∀ W', Keeps (sblk s) W W' → OwnS W' 0 e 5 s ((xs.set i y).flatMap ndC) → K W') :
    idx s.a s.len (i : Int) fun p => st1 (p.add (Int.toNat (i : Int) * 5)) (.bool y.1) W fun W => st1 ((p.add (Int.toNat (i : Int) * 5)).add 1) (.slice y.2.1.a y.2.1.len y.2.1.cap) W fun W => st1 ((p.add (Int.toNat (i : Int) * 5)).add 2) (.slice y.2.2.1.a y.2.2.1.len y.2.2.1.cap) W fun W =>
      st1 ((p.add (Int.toNat (i : Int) * 5)).add 3) (.slice y.2.2.2.1.a y.2.2.2.1.len y.2.2.2.1.cap) W fun W => st1 ((p.add (Int.toNat (i : Int) * 5)).add 4) (.int .i64 y.2.2.2.2) W K := by
  have hl := h.len
  have fl : ∀ l : List NdX, (l.flatMap ndC).length = l.length * 5 := flat_len (k := 5) ndC (fun _ => rfl)
  obtain ⟨g, hg, hs⟩ := own_head h (by rw [fl]; omega)
  rw [fl] at hl
  obtain ⟨x0, x1, x2, x3, x4, hx'⟩ : ∃ x0 x1 x2 x3 x4, xs[i]? = some (x0, x1, x2, x3, x4) := ⟨xs[i].1, xs[i].2.1, xs[i].2.2.1, xs[i].2.2.2.1, xs[i].2.2.2.2, by rw [List.getElem?_eq_getElem hi]⟩
  have si : ∀ (z : NdX), (xs.set i z)[i]? = some z := fun z => by rw [List.getElem?_set, if_pos rfl, if_pos hi]
  refine ⟨_, hg, by omega, by omega, ?_⟩
  simp only [addr0, addr_add, Int.toNat_natCast, Nat.zero_add]
  rw [hs] at hk
  refine st_own h hg (by rw [fl]; omega) fun W1 k1 o1 => ?_
  have e0 := flat_set (k := 5) ndC (fun _ => rfl) xs i 0 _ (y.1, x1, x2, x3, x4) (.bool y.1) (by decide) hx' rfl
  rw [Nat.add_zero] at e0
  rw [e0] at o1
  refine st_own o1 hg (by rw [fl, List.length_set]; omega) fun W2 k2 o2 => ?_
  rw [flat_set (k := 5) ndC (fun _ => rfl) (xs.set i (y.1, x1, x2, x3, x4)) i 1 (y.1, x1, x2, x3, x4) (y.1, y.2.1, x2, x3, x4) y.2.1.val (by decide) (si _) rfl, List.set_set] at o2
  refine st_own o2 hg (by rw [fl, List.length_set]; omega) fun W3 k3 o3 => ?_
  rw [flat_set (k := 5) ndC (fun _ => rfl) (xs.set i (y.1, y.2.1, x2, x3, x4)) i 2 (y.1, y.2.1, x2, x3, x4) (y.1, y.2.1, y.2.2.1, x3, x4) y.2.2.1.val (by decide) (si _) rfl, List.set_set] at o3
  refine st_own o3 hg (by rw [fl, List.length_set]; omega) fun W4 k4 o4 => ?_
  rw [flat_set (k := 5) ndC (fun _ => rfl) (xs.set i (y.1, y.2.1, y.2.2.1, x3, x4)) i 3 (y.1, y.2.1, y.2.2.1, x3, x4) (y.1, y.2.1, y.2.2.1, y.2.2.2.1, x4) y.2.2.2.1.val (by decide) (si _) rfl, List.set_set] at o4
  refine st_own o4 hg (by rw [fl, List.length_set]; omega) fun W5 k5 o5 => ?_
  rw [flat_set (k := 5) ndC (fun _ => rfl) (xs.set i (y.1, y.2.1, y.2.2.1, y.2.2.2.1, x4)) i 4 (y.1, y.2.1, y.2.2.1, y.2.2.2.1, x4) y (.int .i64 y.2.2.2.2) (by decide) (si _) rfl, List.set_set] at o5
  exact hk W5 ((((k1.trans k2).trans k3).trans k4).trans k5) o5
theorem st1_own {W : World} {e : TypeId} {s : Sl} {xs : List Value} (h : OwnS W 0 e 1 s xs) {i : Nat} (hi : i < xs.length) (v : Value) {K : World → Prop}
    (hk : ∀ W', Keeps (sblk s) W W' → OwnS W' 0 e 1 s (xs.set i v) → K W') : idx s.a s.len (i : Int) fun p => st1 (p.add (Int.toNat (i : Int) * 1)) v W K := by
  have hl := h.len
  obtain ⟨g, hg, hs⟩ := own_head h (by omega)
  refine ⟨_, hg, by omega, by omega, ?_⟩
  rw [hs] at hk
  rw [addr0, Int.toNat_natCast, Nat.mul_one]
  exact st_own h hg hi hk
/-- A's blocks, and new ones. -/
def AA (A : Nat → Prop) (W W' : World) : Nat → Prop := fun b => A b ∨ newA W W' b
/-- A node is set: rows of the nodes and of what is there have changed, and nothing else. -/
theorem ArenaX.put {A : Nat → Prop} {W0 W W' : World} {a : Nat} {sl st sf : Sl} {xs : List NdX} {ns : List (Option Nd)} {fr : List Nat} (h : ArenaX A W a sl st sf xs ns fr) (h0 : ∀ b, A b → b < W0.heap.size) {i : Nat} {y : NdX} {o : Option Nd} (hy : ∀ n, o = some n → NdA (newA W0 W) W y n) {fr' : List Nat} {sf' : Sl}
    (hW : W0.heap.size ≤ W.heap.size) {S : List Nat} (hk : Keeps S W W') (hS : ∀ b ∈ S, b ∈ a :: (sblk sl ++ (sblk st ++ sblk sf)) ∨ W.heap.size ≤ b) (hd : Blk W' a [sl.val, st.val, sf'.val] 158) (ol : OwnS W' 0 75 5 sl ((xs.set i y).flatMap ndC)) (ot : OwnS W' 0 4 1 st ((ns.set i o).map boC))
    (of : OwnS W' 0 3 1 sf' (fr'.map frC)) (hsf : ∀ b ∈ sblk sf', b ∈ sblk sf ∨ newA W W' b) (hf : ∀ j ∈ fr', (ns.set i o)[j]? = some none) (hnd : fr'.Nodup) : ArenaX (AA A W0 W') W' a sl st sf' (xs.set i y) (ns.set i o) fr' := by
  have sz := hk.size
  have own : ∀ b ∈ a :: (sblk sl ++ (sblk st ++ sblk sf')), b ∈ a :: (sblk sl ++ (sblk st ++ sblk sf)) ∨ newA W W' b := fun b hb => by
    simp only [List.mem_cons, List.mem_append] at hb ⊢
    rcases hb with h | h | h | h
    · exact .inl (.inl h)
    · exact .inl (.inr (.inl h))
    · exact .inl (.inr (.inr (.inl h)))
    · rcases hsf b h with h | h
      · exact .inl (.inr (.inr (.inr h)))
      · exact .inr h
  have hlt : ∀ b ∈ a :: (sblk sl ++ (sblk st ++ sblk sf)), b < W0.heap.size := fun b hb => h0 b (h.aA b hb)
  refine ⟨hd, ol, ot, of, by simp [h.xl], fun j x n hx hn => ?_, fun b hb => ?_, fun b hb => ?_, fun b hb => ?_, fun b hb => ?_, fun b hb => ?_, hf, hnd⟩
  · rw [List.getElem?_set] at hx hn
    split at hx
    · rename_i hij
      subst hij
      split at hx <;> first | (cases hx; done) | skip
      rename_i hl
      rw [if_pos rfl, if_pos (by rw [← h.xl]; exact hl)] at hn
      injection hx with hx
      injection hn with hn
      subst hx
      refine ((hy n hn).keep hk fun b hb he => ?_).mono fun b hb => ⟨.inr ⟨hb.1, by have := hb.2; omega⟩, fun hm => ?_⟩
      · rcases hS b hb with h1 | h1
        · have := hlt b h1; have := he.1; omega
        · have := he.2; omega
      · rcases own b hm with h1 | h1
        · have := hlt b h1; have := hb.1; omega
        · have := h1.1; have := hb.2; omega
    · rename_i hij
      rw [if_neg hij] at hn
      refine ((h.nd j x n hx hn).keep hk fun b hb he => ?_).mono fun b hb => ⟨.inl hb.1, fun hm => ?_⟩
      · rcases hS b hb with h1 | h1
        · exact he.2 h1
        · have := h.lt b he.1; omega
      · rcases own b hm with h1 | h1
        · exact hb.2 h1
        · have := h.lt b hb.1; have := h1.1; omega
  · rcases own b hb with h1 | h1
    · exact .inl (h.aA b h1)
    · exact .inr ⟨by have := h1.1; omega, h1.2⟩
  · rcases hb with h1 | h1
    · have := h.lt b h1; omega
    · exact h1.2
  · obtain ⟨e1, e2, e3⟩ := h.d1 b hb
    refine ⟨e1, e2, fun hm => ?_⟩
    rcases hsf b hm with h1 | h1
    · exact e3 h1
    · have := hlt b (by simp [hb]); have := h1.1; omega
  · obtain ⟨e1, e2⟩ := h.d2 b hb
    refine ⟨e1, fun hm => ?_⟩
    rcases hsf b hm with h1 | h1
    · exact e2 h1
    · have := hlt b (by simp [hb]); have := h1.1; omega
  · rcases hsf b hb with h1 | h1
    · exact h.d3 b h1
    · intro e; subst e; have := hlt b (by simp); have := h1.1; omega
theorem set_same {α β : Type} (f : α → β) : ∀ (l : List α) (i : Nat) (y : α), (∀ x, l[i]? = some x → f y = f x) → (l.set i y).map f = l.map f
  | [], _, _, _ => rfl
  | x :: l, 0, y, h => by simp only [List.set_cons_zero, List.map_cons]; rw [h x rfl]
  | x :: l, i + 1, y, h => by simp only [List.set_cons_succ, List.map_cons]; rw [set_same f l i y fun z hz => h z (by simpa using hz)]
theorem there_of {ns : List (Option Nd)} {i : Int} (h : there ns i = true) : ∃ (k : Nat) (n : Nd), i = (k : Int) ∧ ns[k]? = some (some n) := by
  unfold there at h
  simp only [Bool.and_eq_true, decide_eq_true_eq] at h
  obtain ⟨h0, hs⟩ := h
  cases hnn : ns[i.toNat]? with
  | none => rw [hnn] at hs; simp at hs
  | some o =>
    rw [hnn] at hs
    cases o with
    | none => simp at hs
    | some n => exact ⟨i.toNat, n, by omega, hnn⟩
/-- Set. -/
theorem aset_spec {A Ain : Nat → Prop} {W : World} {a : Nat} {sl st sf : Sl} {xs : List NdX} {ns : List (Option Nd)} {fr : List Nat} (h : ArenaX A W a sl st sf xs ns fr) (i : Int) {x : NdX} {n : Nd} (hx : NdA Ain W x n) (hsm : n.Small) {K : Value × Unit → World → Prop}
    (hno : there ns i = false → ∀ W', Keeps [] W W' → K (er 3, ()) W')
    (hk : there ns i = true → ∀ y W', Keeps (sblk sl) W W' → ArenaX (AA A W W') W' a sl st sf (xs.set i.toNat y) (ns.set i.toNat (some n)) fr → K (er 0, ()) W') :
    callG Try.prog 68 [.pointer (some ⟨a, 0, none⟩), .int .i64 i, .agg ⟨ndC x⟩] [.one .any] W K := by
  refine call68 (some ⟨a, 0, none⟩) i x.1 x.2.1 x.2.2.1 x.2.2.2.1 x.2.2.2.2 W K ?_
  unfold G68
  refine new_blk fun b1 W1 hb1 k1 e1 => ?_
  have h1 := h.keep k1 (by simp)
  have z1 := k1.size
  refine ais_spec h1 i (ifNot (fun ht => hno ht W1 k1) fun ht => ?_)
  obtain ⟨k, n0, rfl, hkn⟩ := there_of ht
  have hlt := (List.getElem?_eq_some_iff.1 hkn).1
  refine drw_intro fun W2 k2 bk => ?_
  have h2 := h1.keep k2 (by simp)
  refine ⟨fun U => U.cell? ⟨a, 0, none⟩ = some sl.val, h2.hd.cell 0, ?_⟩
  simp only [nilck_some]
  refine ldS_sl (fun u hu => hu) (ld5 (x := x) (bk _ _ _ e1) ⟨h2.hd.cell 0, ?_⟩)
  have k02 := k1.trans k2
  refine copied_spec (hx.keep0 k02) hsm fun y W3 hy k3 => ?_
  have h3 := h2.keep k3 (by simp)
  refine ⟨h3.hd.cell 0, ?_⟩
  have k03 := k02.trans k3
  refine st5_own h3.ol (by rw [h.xl]; exact hlt) y fun W4 k4 o4 => ?_
  have hS : ∀ b ∈ sblk sl, b ∉ a :: ([] : List Nat) := fun b hb hm => by simp at hm; exact (h3.d1 b hb).1 hm
  refine hk ht y W4 (k03.nil.trans k4) ?_
  have sh : ∀ b, A b → b < W.heap.size := h.lt
  refine h3.put sh (W0 := W) (o := some n) (fun n' hn' => by injection hn' with hn'; subst hn'; exact hy.mono fun b hb => ⟨Nat.le_trans k02.size hb.1, hb.2⟩) k03.size k4 (fun b hb => .inl (by simp [hb])) (h3.hd.keep k4 fun hm => (h3.d1 _ hm).1 rfl) o4 ?_ (h3.of.keep k4 fun b hb hm => (h3.d1 _ hm).2.2 hb) (fun b hb => .inl hb) ?_ h3.nd2
  · rw [Int.toNat_natCast, set_same boC ns k (some n) fun z hz => by rw [hkn] at hz; injection hz with hz; subst hz; rfl]
    exact h3.ot.keep k4 fun b hb hm => (h3.d1 _ hm).2.1 hb
  · intro j hj
    have := h3.frn j hj
    rw [Int.toNat_natCast, List.getElem?_set, if_neg fun e => by subst e; rw [hkn] at this; cases this]
    exact this
end Go.Proofs.Ytbaclnddcobdmaa
