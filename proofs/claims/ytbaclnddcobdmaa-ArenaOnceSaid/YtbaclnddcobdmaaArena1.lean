/-
  The arena (layer 7): a node, in new memory.
-/
import Derived.Test.YtbaclnddcobdmaaDarena
import Derived.Test.YtbaclnddcobdmaaClone
import Derived.Test.YtbaclnddcobdmaaErr
set_option linter.unusedSimpArgs false
set_option linter.unusedVariables false
namespace Go.Proofs.Ytbaclnddcobdmaa
open Go Go.Gp
structure Nd where
  leaf : Bool
  pairs : List (List UInt8 × List UInt8)
  keys : List (List UInt8)
  kids : List Int
  next : Int
abbrev NdX := Bool × Sl × Sl × Sl × Int
abbrev ndC (x : NdX) : List Value := [.bool x.1, x.2.1.val, x.2.2.1.val, x.2.2.2.1.val, .int .i64 x.2.2.2.2]
abbrev ndZ : List Value := [.bool false, .slice none 0 0, .slice none 0 0, .slice none 0 0, .int .i64 0]
structure NdA (A : Nat → Prop) (W : World) (x : NdX) (n : Nd) : Prop where
  leaf : x.1 = n.leaf
  prs : PrsA A W x.2.1 n.pairs
  kys : KysA A W x.2.2.1 n.keys
  kids : IntsA A W x.2.2.2.1 n.kids
  next : x.2.2.2.2 = n.next
theorem NdA.keep {A : Nat → Prop} {W W' : World} {x : NdX} {n : Nd} (h : NdA A W x n) {S : List Nat} (hk : Keeps S W W') (hs : ∀ b ∈ S, ¬ A b) : NdA A W' x n := ⟨h.leaf, h.prs.kp hk hs, h.kys.kp hk hs, h.kids.kp hk hs, h.next⟩
theorem NdA.keep0 {A : Nat → Prop} {W W' : World} {x : NdX} {n : Nd} (h : NdA A W x n) (hk : Keeps [] W W') : NdA A W' x n := h.keep hk (by simp)
theorem NdA.mono {A A' : Nat → Prop} {W : World} {x : NdX} {n : Nd} (h : NdA A W x n) (hA : ∀ b, A b → A' b) : NdA A' W x n := ⟨h.leaf, h.prs.mn hA, h.kys.mn hA, h.kids.mn hA, h.next⟩
/-- Small enough to be copied. -/
structure Nd.Small (n : Nd) : Prop where
  p : n.pairs.length ≤ 1000000
  k : n.keys.length ≤ 1000000
  c : n.kids.length ≤ 1000000
  pb : ∀ x ∈ n.pairs, x.1.length ≤ 1000000 ∧ x.2.length ≤ 1000000
  kb : ∀ x ∈ n.keys, x.length ≤ 1000000
def Ex (n : Nat) (w : World) (L : List Nat) : Nat → Prop := fun b => n ≤ b ∧ b < w.heap.size ∧ b ∉ L
theorem Ex.grow {n : Nat} {w w' : World} {L L' : List Nat} (hs : w.heap.size ≤ w'.heap.size) (hL : ∀ b ∈ L', b ∈ L ∨ w.heap.size ≤ b) : ∀ b, Ex n w L b → Ex n w' L' b := fun b h =>
  ⟨h.1, Nat.lt_of_lt_of_le h.2.1 hs, fun hm => (hL b hm).elim h.2.2 fun h' => by have := h.2.1; omega⟩
theorem Ex.ofNew {n : Nat} {w1 w2 : World} {L : List Nat} (hn : n ≤ w1.heap.size) (hL : ∀ b ∈ L, b < w1.heap.size) : ∀ b, newA w1 w2 b → Ex n w2 L b := fun b h =>
  ⟨Nat.le_trans hn h.1, h.2, fun hm => by have := hL b hm; have := h.1; omega⟩
theorem Ex.not {n : Nat} {w : World} {L : List Nat} : ∀ b ∈ L, ¬ Ex n w L b := fun b hb h => h.2.2 hb
theorem u72 : Try.prog.underlying 72 = some (.slice 176) := by kernel_rfl
theorem u73 : Try.prog.underlying 73 = some (.slice 45) := by kernel_rfl
theorem nPair : ∃ i, Try.prog.info? 176 = some i ∧ i.zero = some (.agg #[.slice none 0 0, .slice none 0 0]) ∧ i.size = 2 ∧ i.bytes = 48 := info_of (by kernel_rfl)
theorem nBytes : ∃ i, Try.prog.info? 45 = some i ∧ i.zero = some (.slice none 0 0) ∧ i.size = 1 ∧ i.bytes = 24 := info_of (by kernel_rfl)
theorem ld5 {W : World} {b : Nat} {x : NdX} {t : TypeId} (h : Blk W b (ndC x) t) {K : Bool × Sl × Sl × Sl × Int × Unit → Prop} (hk : K (x.1, x.2.1, x.2.2.1, x.2.2.2.1, x.2.2.2.2, ())) : ldN [.bool, .sl, .sl, .sl, .int .i64] (Addr.mk b 0 none) W K :=
  ldN_intro (x.1, x.2.1, x.2.2.1, x.2.2.2.1, x.2.2.2.2, ()) ⟨by rw [show (Addr.mk b 0 none).add 0 = Addr.mk b 0 none from rfl, h.cell]; rfl, by rw [addr0, h.cell]; rfl, by rw [addr0, h.cell]; rfl, by rw [addr0, h.cell]; rfl, by rw [addr0, h.cell]; rfl, trivial⟩ hk
theorem st5 {W : World} {b : Nat} {c0 c1 c2 c3 c4 : Value} (v0 v1 v2 v3 v4 : Value) {t : TypeId} (h : Blk W b [c0, c1, c2, c3, c4] t) {K : World → Prop} (hk : ∀ W', Keeps [b] W W' → Blk W' b [v0, v1, v2, v3, v4] t → K W') :
    st1 (Addr.mk b 0 none) v0 W fun W => st1 ((Addr.mk b 0 none).add 1) v1 W fun W => st1 ((Addr.mk b 0 none).add 2) v2 W fun W => st1 ((Addr.mk b 0 none).add 3) v3 W fun W => st1 ((Addr.mk b 0 none).add 4) v4 W K := by
  simp only [addr0]
  exact st_blk' h (by simp) fun W1 k1 b1 => st_blk' b1 (by simp) fun W2 k2 b2 => st_blk' b2 (by simp) fun W3 k3 b3 => st_blk' b3 (by simp) fun W4 k4 b4 => st_blk' b4 (by simp) fun W5 k5 b5 => hk W5 ((((k1.trans k2).trans k3).trans k4).trans k5) b5
theorem stP {W : World} {b : Nat} {c0 c1 u v : Value} {t : TypeId} (h : Blk W b [c0, c1] t) {K : World → Prop} (hk : ∀ W', Keeps [b] W W' → Blk W' b [u, v] t → K W') :
    st1 (Addr.mk b 0 none) u W fun W => st1 ((Addr.mk b 0 none).add 1) v W K := by
  refine st_blk' h (by simp) fun W1 k1 b1 => ?_
  rw [addr0]
  refine st_blk' b1 (by simp) fun W2 k2 b2 => hk W2 (k1.trans k2) b2
/-- Where the copying stands. -/
structure CP (W w : World) (n0 b1 b2 bo : Nat) (x : NdX) (q kq r : Sl) (ys : List (Sl × Sl)) (zs : List Sl) (ps : List (List UInt8 × List UInt8)) (ks : List (List UInt8)) (kids : List Int) : Prop where
  k : Keeps [] W w
  e1 : Blk w b1 (ndC x) 75
  e2 : Blk w b2 ndZ 75
  eo : Blk w bo (ndC (x.1, q, kq, r, x.2.2.2.2)) 75
  oq : OwnS w 0 176 2 q (ys.flatMap prC)
  ok : OwnS w 0 45 1 kq (zs.flatMap slC)
  yl : ys.length = ps.length
  zl : zs.length = ks.length
  hy : ∀ (i : Nat) y p, ys[i]? = some y → ps[i]? = some p → BsA (Ex n0 w (bo :: (sblk q ++ sblk kq))) w y.1 p.1 ∧ BsA (Ex n0 w (bo :: (sblk q ++ sblk kq))) w y.2 p.2
  hz : ∀ (i : Nat) y p, zs[i]? = some y → ks[i]? = some p → BsA (Ex n0 w (bo :: (sblk q ++ sblk kq))) w y p
  hr : IntsA (Ex n0 w (bo :: (sblk q ++ sblk kq))) w r kids
  d : W.heap.size ≤ b1 ∧ W.heap.size ≤ b2 ∧ b1 ≠ b2 ∧ b1 < n0 ∧ b2 < n0 ∧ n0 ≤ bo ∧ n0 ≤ w.heap.size
  dq : ∀ b ∈ sblk q, n0 ≤ b ∧ b ≠ bo ∧ b ∉ sblk kq
  dk : ∀ b ∈ sblk kq, n0 ≤ b ∧ b ≠ bo
theorem CP.far {W w w' : World} {n0 b1 b2 bo : Nat} {x : NdX} {q kq r : Sl} {ys : List (Sl × Sl)} {zs : List Sl} {ps : List (List UInt8 × List UInt8)} {ks : List (List UInt8)} {kids : List Int} (h : CP W w n0 b1 b2 bo x q kq r ys zs ps ks kids)
    {S : List Nat} (hk : Keeps S w w') (hS : ∀ b ∈ S, w.heap.size ≤ b) : CP W w' n0 b1 b2 bo x q kq r ys zs ps ks kids := by
  have g := Ex.grow (n := n0) (L := bo :: (sblk q ++ sblk kq)) (L' := bo :: (sblk q ++ sblk kq)) hk.size fun b hb => .inl hb
  have hs : ∀ b ∈ S, ¬ Ex n0 w (bo :: (sblk q ++ sblk kq)) b := fun b hb he => by have := hS b hb; have := he.2.1; omega
  have ne : ∀ {y}, y < w.heap.size → y ∉ S := fun hy hm => by have := hS _ hm; omega
  have sz := hk.size
  obtain ⟨d1, d2, d3, d4, d5, d6, d7⟩ := h.d
  exact ⟨h.k.push hk fun b hb => Nat.le_trans h.k.size (hS b hb), h.e1.keep hk (ne h.e1.lt), h.e2.keep hk (ne h.e2.lt), h.eo.keep hk (ne h.eo.lt), h.oq.fresh hk hS, h.ok.fresh hk hS, h.yl, h.zl,
    fun i y p hy hp => let t := h.hy i y p hy hp; ⟨(t.1.keep hk hs).mono g, (t.2.keep hk hs).mono g⟩, fun i y p hy hp => ((h.hz i y p hy hp).keep hk hs).mono g, (h.hr.kp hk hs).mn g, ⟨d1, d2, d3, d4, d5, d6, by omega⟩, h.dq, h.dk⟩
end Go.Proofs.Ytbaclnddcobdmaa
