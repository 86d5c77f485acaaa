/-
  The arena (layer 7): Free, Make.
-/
import Derived.Test.YtbaclnddcobdmaaArena4
set_option linter.unusedSimpArgs false
set_option linter.unusedVariables false
namespace Go.Proofs.Ytbaclnddcobdmaa
open Go Go.Gp
/-- Of the old, only blocks of A have changed. -/
def StepA (A : Nat → Prop) (W W' : World) : Prop := ∃ S : List Nat, (∀ b ∈ S, A b) ∧ Keeps S W W'
abbrev ndX0 : NdX := (false, ⟨none, 0, 0⟩, ⟨none, 0, 0⟩, ⟨none, 0, 0⟩, 0)
/-- Free. -/
theorem afree_spec {A : Nat → Prop} {W : World} {a : Nat} {sl st sf : Sl} {xs : List NdX} {ns : List (Option Nd)} {fr : List Nat} (h : ArenaX A W a sl st sf xs ns fr) (hf : fr.length ≤ 1000000000) (i : Int) {K : Value × Unit → World → Prop}
    (hno : there ns i = false → K (er 3, ()) W)
    (hk : there ns i = true → ∀ W', StepA A W W' → ArenaAt (AA A W W') W' a (ns.set i.toNat none) (fr ++ [i.toNat]) → K (er 0, ()) W') :
    callG Try.prog 47 [.pointer (some ⟨a, 0, none⟩), .int .i64 i] [.one .any] W K := by
  apply call47
  unfold G47
  refine ais_spec h i (ifNot (fun ht => hno ht) fun ht => ?_)
  obtain ⟨k, n0, rfl, hkn⟩ := there_of ht
  have hlt := (List.getElem?_eq_some_iff.1 hkn).1
  refine drw_intro fun W2 k2 bk => ?_
  have h2 := h.keep k2 (by simp)
  obtain ⟨l1, l2, l3⟩ := h.slen
  obtain ⟨iI, hiI, hzI, hsI, hbI⟩ := nInt
  refine ⟨fun U => U.cell? ⟨a, 0, none⟩ = some sl.val ∧ U.cell? ⟨a, 1, none⟩ = some st.val, ⟨h2.hd.cell 0, h2.hd.cell 1⟩, ?_⟩
  simp only [nilck_some, addr0]
  refine ldS_sl (fun u hu => hu.1) (ldS_sl (fun u hu => hu.2) ?_)
  refine st5_own h2.ol (by rw [h.xl]; exact hlt) ndX0 fun W3 k3 o3 => ?_
  refine st1_own (h2.ot.keep k3 fun b hb hm => (h2.d1 _ hm).2.1 hb) (by simpa using hlt) (.bool false) fun W4 k4 o4 => ?_
  have hd4 := (h2.hd.keep k3 fun hm => (h2.d1 _ hm).1 rfl).keep k4 fun hm => (h2.d2 _ hm).1 rfl
  have of4 := (h2.of.keep k3 fun b hb hm => (h2.d1 _ hm).2.2 hb).keep k4 fun b hb hm => (h2.d2 _ hm).2 hb
  refine ld_sl (by rw [hd4.cell]; rfl) (new_blk fun m W5 hm k5 e5 => ?_)
  refine app_own' uInts hiI hzI hsI hbI rfl (by decide) (of4.keep k5 (by simp)) [.int .i64 (k : Int)] rfl (fun j u hj => by rw [addr0, e5.cell]; exact hj) (by simp [Value.oneCell']) (by omega) (by omega) (Nat.zero_le _) fun r W6 o6 k6 l6 hs6 _ => ?_
  have z2 := k2.size
  have z3 := k3.size
  have z4 := k4.size
  have z5 := k5.size
  have z6 := k6.size
  have hd6 := (hd4.keep k5 (by simp)).keep k6 fun hm => h2.d3 _ hm rfl
  refine st_blk' hd6 (by simp) fun W7 k7 b7 => ?_
  have z7 := k7.size
  have la := h.lt a (h.aA a (by simp))
  have rnew : ∀ b ∈ sblk r, b ∈ sblk sf ∨ newA W2 W7 b := fun b hb => by
    rcases hs6 b hb with h' | h'
    · exact .inl h'
    · exact .inr ⟨by have := h'.1; omega, by have := h'.2; omega⟩
  have hltA : ∀ b ∈ a :: (sblk sl ++ (sblk st ++ sblk sf)), b < W2.heap.size := fun b hb => h2.lt b (h2.aA b hb)
  have kk : Keeps (a :: (sblk sl ++ (sblk st ++ sblk sf))) W2 W7 :=
    ((((k3.mono fun b hb => by simp [hb]).trans (k4.mono fun b hb => by simp [hb])).trans k5.nil).trans (k6.mono fun b hb => by simp [hb])).trans (k7.mono fun b hb => by simp at hb; simp [hb])
  refine hk ht W7 ⟨a :: (sblk sl ++ (sblk st ++ sblk sf)), h.aA, k2.nil.trans kk⟩ ⟨sl, st, r, xs.set k ndX0, ?_⟩
  rw [Int.toNat_natCast]
  have nk : k ∉ fr := fun hm => by have := h.frn k hm; rw [hkn] at this; cases this
  refine h2.put (fun b hb => h.lt b hb) (W0 := W) (o := none) (y := ndX0) (fun n hn => by cases hn) z2 kk (fun b hb => .inl hb) (by simpa using b7) ?_ ?_ ?_ rnew ?_ ?_
  · exact ((((o3.keep k4 fun b hb hm => (h2.d1 b hb).2.1 hm).keep k5 (by simp)).keep k6 fun b hb hm => (h2.d1 b hb).2.2 hm).keep k7 fun b hb hm => by simp at hm; exact (h2.d1 b hb).1 hm)
  · rw [List.map_set]
    exact (((o4.keep k5 (by simp)).keep k6 fun b hb hm => (h2.d2 b hb).2 hm).keep k7 fun b hb hm => by simp at hm; exact (h2.d2 b hb).1 hm)
  · rw [List.map_append]
    refine o6.keep k7 fun b hb hm => ?_
    simp at hm
    subst hm
    rcases hs6 b hb with h' | h'
    · exact h2.d3 b h' rfl
    · have := h'.1; omega
  · intro j hj
    rw [List.mem_append, List.mem_singleton] at hj
    rcases hj with hj | rfl
    · rw [List.getElem?_set, if_neg fun e => by subst e; exact nk hj]
      exact h.frn j hj
    · rw [List.getElem?_set, if_pos rfl, if_pos hlt]
  · rw [List.nodup_append]
    exact ⟨h.nd2, by simp, fun x hx y hy => by simp at hy; subst hy; intro e; subst e; exact nk hx⟩
end Go.Proofs.Ytbaclnddcobdmaa
