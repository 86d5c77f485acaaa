/-
  Cells (layer 1): what each function does with cells in memory.
-/
import Derived.Test.YtbaclnddcobdmaaDcell
import Derived.Test.YtbaclnddcobdmaaGk7
import Derived.Test.YtbaclnddcobdmaaCrew
set_option linter.unusedSimpArgs false
set_option linter.unusedVariables false
namespace Go.Proofs.Ytbaclnddcobdmaa
open Go Go.Gp

/-- A cell: its value, and how often it was written. -/
def celF (x : Int × Int) : List Value := [.int .u64 x.1, .int .i64 x.2]
structure CellsAt (W : World) (c cl : Nat) (l : List (Int × Int)) : Prop where
  hd : Blk W c [.slice (some ⟨cl, 0, none⟩) l.length l.length] 150
  ls : Blk W cl (l.flatMap celF) 155
  ne : c ≠ cl
theorem CellsAt.keep {W W' : World} {c cl : Nat} {l : List (Int × Int)} (h : CellsAt W c cl l) {S : List Nat} (hk : Keeps S W W') (h1 : c ∉ S) (h2 : cl ∉ S) : CellsAt W' c cl l :=
  ⟨h.hd.keep hk h1, h.ls.keep hk h2, h.ne⟩
theorem celBlk_val {W : World} {b : Nat} {l : List (Int × Int)} {t : TypeId} (h : Blk W b (l.flatMap celF) t) {i : Nat} {x : Int × Int} (hx : l[i]? = some x) : W.cell? ⟨b, i * 2, none⟩ = some (.int .u64 x.1) := by
  rw [h.cell, show i * 2 = i * 2 + 0 from rfl, flat_get (k := 2) celF (fun _ => rfl) _ _ _ (by decide), hx]; rfl
theorem celBlk_stamp {W : World} {b : Nat} {l : List (Int × Int)} {t : TypeId} (h : Blk W b (l.flatMap celF) t) {i : Nat} {x : Int × Int} (hx : l[i]? = some x) : W.cell? ⟨b, i * 2 + 1, none⟩ = some (.int .i64 x.2) := by
  rw [h.cell, flat_get (k := 2) celF (fun _ => rfl) _ _ _ (by decide), hx]; rfl
theorem cel_set0 {l : List (Int × Int)} {i : Nat} {x : Int × Int} (hx : l[i]? = some x) (v : Int) : (l.flatMap celF).set (i * 2) (.int .u64 v) = (l.set i (v, x.2)).flatMap celF :=
  flat_set (k := 2) celF (fun _ => rfl) l i 0 x (v, x.2) _ (by decide) hx rfl
theorem cel_set1 {l : List (Int × Int)} {i : Nat} {x : Int × Int} (hx : l[i]? = some x) (v : Int) : (l.flatMap celF).set (i * 2 + 1) (.int .i64 v) = (l.set i (x.1, v)).flatMap celF :=
  flat_set (k := 2) celF (fun _ => rfl) l i 1 x (x.1, v) _ (by decide) hx rfl
/-- A write: the new value, one stamp more. -/
def wrote (l : List (Int × Int)) (i : Nat) (v : Int) : List (Int × Int) := l.set i (v, IntKind.i64.wrap ((l.getD i (0, 0)).2 + 1))
theorem wrote_len (l : List (Int × Int)) (i : Nat) (v : Int) : (wrote l i v).length = l.length := by unfold wrote; simp
def inR (l : List (Int × Int)) (i : Int) : Prop := 0 ≤ i ∧ i < l.length
instance (l : List (Int × Int)) (i : Int) : Decidable (inR l i) := by unfold inR; infer_instance
def valAt (l : List (Int × Int)) (i : Int) : Int × Int := l.getD i.toNat (0, 0)
theorem getD_some {α : Type} {l : List α} {i : Nat} (h : i < l.length) (d : α) : l[i]? = some (l.getD i d) := by
  rw [List.getD_eq_getElem?_getD, List.getElem?_eq_getElem h]; rfl

theorem cat_spec {W : World} {c cl : Nat} {l : List (Int × Int)} (h : CellsAt W c cl l) (i : Int) {K : Option Addr × Unit → World → Prop}
    (hno : ¬ inR l i → K (none, ()) W) (hk : inR l i → K (some ⟨cl, i.toNat * 2, none⟩, ()) W) : callG Try.prog 93 [.pointer (some ⟨c, 0, none⟩), .int .i64 i] [.one .ptr] W K := by
  apply call93
  unfold G93
  simp only [ifB_dec, nilck_some]
  unfold inR at hno hk
  refine ⟨fun h1 => hno (by omega), fun h1 => ld_sl (by rw [h.hd.cell]; rfl) ?_⟩
  dsimp only
  refine ⟨fun h2 => hno (by omega), fun h2 => ld_sl (by rw [h.hd.cell]; rfl) (idx_some (by omega) (by dsimp only; omega) ?_)⟩
  rw [addr0]
  exact hk (by omega)
theorem cwrite_spec {W : World} {c cl : Nat} {l : List (Int × Int)} (h : CellsAt W c cl l) (i : Nat) (hi : i < l.length) (v : Int) {K : Int × Unit → World → Prop}
    (hk : ∀ W', Keeps [cl] W W' → CellsAt W' c cl (wrote l i v) → K ((l.getD i (0, 0)).1, ()) W') : callG Try.prog 94 [.pointer (some ⟨cl, i * 2, none⟩), .int .u64 v] [.one (.int .u64)] W K := by
  apply call94
  unfold G94
  have hx := getD_some hi (0, 0)
  have hlen : (l.flatMap celF).length = l.length * 2 := flat_len (k := 2) celF (fun _ => rfl) l
  simp only [nilck_some, addr_add]
  refine ld_int (celBlk_val h.ls hx) ?_
  refine st_blk' h.ls (by omega) fun W1 k1 b1 => ?_
  rw [cel_set0 hx] at b1
  have hx1 : (l.set i (v, (l.getD i (0, 0)).2))[i]? = some (v, (l.getD i (0, 0)).2) := by rw [List.getElem?_set, if_pos rfl, if_pos hi]
  refine ld_int (celBlk_stamp b1 hx1) ?_
  refine st_blk' b1 (by rw [flat_len (k := 2) celF (fun _ => rfl), List.length_set]; omega) fun W2 k2 b2 => ?_
  rw [cel_set1 hx1, List.set_set] at b2
  exact hk W2 (k1.trans k2) ⟨by rw [wrote_len]; exact h.hd.keep (k1.trans k2) (by simp [h.ne]), b2, h.ne⟩
theorem cload_spec {W : World} {c cl : Nat} {l : List (Int × Int)} (h : CellsAt W c cl l) (i : Int) {K : Int × Value × Unit → World → Prop}
    (hk : K (if inR l i then ((valAt l i).1, er 0, ()) else (0, er 6, ())) W) : callG Try.prog 41 [.pointer (some ⟨c, 0, none⟩), .int .i64 i] [.one (.int .u64), .one .any] W K := by
  apply call41
  unfold G41
  refine cat_spec h i (fun hn => ?_) fun hy => ?_
  · rw [if_neg hn] at hk; exact hk
  · rw [if_pos hy] at hk
    simp only [Option.isNone_some, ifB_false, nilck_some]
    unfold inR at hy
    exact ld_int (celBlk_val h.ls (getD_some (by omega) (0, 0))) hk
theorem cstamp_spec {W : World} {c cl : Nat} {l : List (Int × Int)} (h : CellsAt W c cl l) (i : Int) {K : Int × Unit → World → Prop}
    (hk : K (if inR l i then (valAt l i).2 else 0, ()) W) : callG Try.prog 42 [.pointer (some ⟨c, 0, none⟩), .int .i64 i] [.one (.int .i64)] W K := by
  apply call42
  unfold G42
  refine cat_spec h i (fun hn => ?_) fun hy => ?_
  · rw [if_neg hn] at hk; exact hk
  · rw [if_pos hy] at hk
    simp only [Option.isNone_some, ifB_false, nilck_some, addr_add]
    unfold inR at hy
    exact ld_int (celBlk_stamp h.ls (getD_some (by omega) (0, 0))) hk
theorem cstore_spec {W : World} {c cl : Nat} {l : List (Int × Int)} (h : CellsAt W c cl l) (i v : Int) {K : Value × Unit → World → Prop}
    (hno : ¬ inR l i → K (er 6, ()) W) (hk : inR l i → ∀ W', Keeps [cl] W W' → CellsAt W' c cl (wrote l i.toNat v) → K (er 0, ()) W') : callG Try.prog 39 [.pointer (some ⟨c, 0, none⟩), .int .i64 i, .int .u64 v] [.one .any] W K := by
  apply call39
  unfold G39
  refine cat_spec h i (fun hn => hno hn) fun hy => ?_
  simp only [Option.isNone_some, ifB_false]
  exact cwrite_spec h _ (by unfold inR at hy; omega) v fun W' k' h' => hk hy W' k' h'
theorem cswap_spec {W : World} {c cl : Nat} {l : List (Int × Int)} (h : CellsAt W c cl l) (i o v : Int) {K : Bool × Value × Unit → World → Prop}
    (hno : ¬ inR l i → K (false, er 6, ()) W) (hne : inR l i → (valAt l i).1 ≠ o → K (false, er 0, ()) W)
    (hk : inR l i → (valAt l i).1 = o → ∀ W', Keeps [cl] W W' → CellsAt W' c cl (wrote l i.toNat v) → K (true, er 0, ()) W') : callG Try.prog 40 [.pointer (some ⟨c, 0, none⟩), .int .i64 i, .int .u64 o, .int .u64 v] [.one .bool, .one .any] W K := by
  apply call40
  unfold G40
  refine cat_spec h i (fun hn => hno hn) fun hy => ?_
  have hi : i.toNat < l.length := by unfold inR at hy; omega
  simp only [Option.isNone_some, ifB_false, nilck_some]
  refine ld_int (celBlk_val h.ls (getD_some hi (0, 0))) ?_
  simp only [ifB_iff, bne_iff_ne, bne_eq_false_iff_eq]
  exact ⟨fun h1 => hne hy h1, fun h1 => cwrite_spec h _ hi v fun W' k' h' => hk hy h1 W' k' h'⟩
theorem cadd_spec {W : World} {c cl : Nat} {l : List (Int × Int)} (h : CellsAt W c cl l) (i d : Int) {K : Int × Value × Unit → World → Prop}
    (hno : ¬ inR l i → K (0, er 6, ()) W) (hk : inR l i → ∀ W', Keeps [cl] W W' → CellsAt W' c cl (wrote l i.toNat (IntKind.u64.wrap ((valAt l i).1 + d))) → K ((valAt l i).1, er 0, ()) W') :
    callG Try.prog 63 [.pointer (some ⟨c, 0, none⟩), .int .i64 i, .int .u64 d] [.one (.int .u64), .one .any] W K := by
  apply call63
  unfold G63
  refine cat_spec h i (fun hn => hno hn) fun hy => ?_
  have hi : i.toNat < l.length := by unfold inR at hy; omega
  simp only [Option.isNone_some, ifB_false, nilck_some]
  refine ld_int (celBlk_val h.ls (getD_some hi (0, 0))) ?_
  exact cwrite_spec h _ hi _ fun W' k' h' => hk hy W' k' h'
theorem cnew_spec {W : World} (n : Int) {K : Option Addr × Value × Unit → World → Prop} (hbad : n < 1 ∨ 1000 < n → K (none, er 1, ()) W)
    (hk : 1 ≤ n → n ≤ 1000 → ∀ c cl W', W.heap.size ≤ c → W.heap.size ≤ cl → Keeps [] W W' → CellsAt W' c cl (List.replicate n.toNat (0, 0)) → K (some ⟨c, 0, none⟩, er 0, ()) W') :
    callG Try.prog 38 [.int .i64 n] [.one .ptr, .one .any] W K := by
  apply call38
  unfold G38
  simp only [ifB_dec]
  refine ⟨fun h => hbad (.inl h), fun h1 => ⟨fun h => hbad (.inr h), fun h2 => ?_⟩⟩
  refine mk_blk (by omega) (by omega) (by omega) (by omega) fun cl W1 hcl k1 b1 => new_blk fun c W2 hc k2 b2 => ?_
  rw [madeCells_two] at b1
  have hlt := b1.lt
  have hsz := k1.size
  refine hk (by omega) (by omega) c cl W2 (by omega) (by omega) (k1.trans k2) ⟨by simpa using b2, ?_, by omega⟩
  have := b1.keep k2 (by simp)
  rwa [show ((List.replicate n.toNat ()).flatMap fun _ => [Value.int .u64 0, Value.int .i64 0]) = (List.replicate n.toNat ((0 : Int), (0 : Int))).flatMap celF from by
    rw [show List.replicate n.toNat ((0 : Int), (0 : Int)) = (List.replicate n.toNat ()).map fun _ => (0, 0) from by simp, List.flatMap_map]; rfl] at this
end Go.Proofs.Ytbaclnddcobdmaa
