/-
  Gk5: worlds: what a block holds, what a store or a new block changes, what a call keeps; and the formula's words as rewriting rules.
-/
import Derived.Test.YtbaclnddcobdmaaGk4
import Derived.Below
import Derived.Deep.Draws
set_option linter.unusedSimpArgs false
set_option linter.unusedVariables false
namespace Go.Gp
open Go Go.RowKit

/-- Block b holds cells cs of type t, none of them frozen. -/
def Blk (W : World) (b : Nat) (cs : List Value) (t : TypeId) : Prop := W.heap[b]? = some (.cells ⟨cs⟩ t (0, 0))

/-- All that is kept but for blocks of S, and new ones. -/
structure Keeps (S : List Nat) (W W' : World) : Prop where
  os : W'.os = W.os
  tape : W'.tape = W.tape
  output : W'.output = W.output
  size : W.heap.size ≤ W'.heap.size
  block : ∀ b, b < W.heap.size → b ∉ S → W'.heap[b]? = W.heap[b]?

theorem Keeps.refl (S : List Nat) (W : World) : Keeps S W W := ⟨rfl, rfl, rfl, Nat.le_refl _, fun _ _ _ => rfl⟩
theorem Keeps.trans {S : List Nat} {W W' W'' : World} (h : Keeps S W W') (k : Keeps S W' W'') : Keeps S W W'' :=
  ⟨k.os.trans h.os, k.tape.trans h.tape, k.output.trans h.output, Nat.le_trans h.size k.size,
   fun b hb hs => (k.block b (Nat.lt_of_lt_of_le hb h.size) hs).trans (h.block b hb hs)⟩
/-- The second step may also touch what was new behind the first. -/
theorem Keeps.trans' {S T : List Nat} {W W' W'' : World} (h : Keeps S W W') (k : Keeps T W' W'') (ht : ∀ b ∈ T, b ∈ S ∨ W.heap.size ≤ b) : Keeps S W W'' :=
  ⟨k.os.trans h.os, k.tape.trans h.tape, k.output.trans h.output, Nat.le_trans h.size k.size,
   fun b hb hs => (k.block b (Nat.lt_of_lt_of_le hb h.size) (fun hm => by
     rcases ht b hm with h1 | h1
     · exact hs h1
     · omega)).trans (h.block b hb hs)⟩
theorem Keeps.mono {S T : List Nat} {W W' : World} (h : Keeps S W W') (hst : ∀ b ∈ S, b ∈ T) : Keeps T W W' :=
  ⟨h.os, h.tape, h.output, h.size, fun b hb ht => h.block b hb (fun hs => ht (hst b hs))⟩
theorem Keeps.below {S : List Nat} {W W' : World} (h : Keeps S W W') {n : Nat} (hn : n ≤ W.heap.size) (hs : ∀ b ∈ S, n ≤ b) : Below n W W' :=
  ⟨h.os, h.tape, h.output, h.size, fun b hb => h.block b (Nat.lt_of_lt_of_le hb hn) (fun hm => Nat.not_le.2 hb (hs b hm))⟩
theorem Blk.lt {W : World} {b : Nat} {cs : List Value} {t : TypeId} (h : Blk W b cs t) : b < W.heap.size := by
  unfold Blk at h
  rcases Nat.lt_or_ge b W.heap.size with h' | h'
  · exact h'
  · rw [Array.getElem?_eq_none h'] at h; cases h
theorem Blk.keep {S : List Nat} {W W' : World} {b : Nat} {cs : List Value} {t : TypeId} (h : Blk W b cs t) (hk : Keeps S W W') (hb : b ∉ S) : Blk W' b cs t := by
  have := hk.block b h.lt hb
  unfold Blk at *
  rw [this, h]
theorem Blk.cell {W : World} {b : Nat} {cs : List Value} {t : TypeId} (h : Blk W b cs t) (i : Nat) : W.cell? (Addr.mk b i none) = cs[i]? := by
  unfold Blk at h
  simp [World.cell?, h]
theorem Blk.frz {W : World} {b : Nat} {cs : List Value} {t : TypeId} (h : Blk W b cs t) (i : Nat) (s : Option Nat) : W.frozen? (Addr.mk b i s) = false := by
  unfold Blk at h
  simp [World.frozen?, h]
theorem Blk.set {W : World} {b : Nat} {cs : List Value} {t : TypeId} (h : Blk W b cs t) (i : Nat) (v : Value) : Blk (W.setCell (Addr.mk b i none) v) b (cs.set i v) t := by
  unfold Blk at *
  simp [World.setCell, Array.getElem?_modify, h]
theorem setCell_keeps {W : World} {b i : Nat} {v : Value} {S : List Nat} (hb : b ∈ S) (s : Option Nat) : Keeps S W (W.setCell (Addr.mk b i s) v) :=
  ⟨rfl, rfl, rfl, by simp [World.setCell], fun b' _ hs => by
    simp only [World.setCell, Array.getElem?_modify]
    rw [if_neg (fun e => hs (by rw [← e]; exact hb))]⟩
theorem alloc_keeps (W : World) (o : Obj) (S : List Nat) : Keeps S W (W.alloc o) :=
  ⟨rfl, rfl, rfl, by show W.heap.size ≤ (W.heap.push o).size; simp, fun b hb _ => by show (W.heap.push o)[b]? = _; rw [Array.getElem?_push_lt hb, Array.getElem?_eq_getElem hb]⟩
theorem alloc_blk (W : World) (cs : Array Value) (t : TypeId) : Blk (W.alloc (.cells cs t)) W.heap.size cs.toList t := by
  show (W.heap.push _)[W.heap.size]? = _
  simp
theorem drew_keeps (W : World) (S : List Nat) : Keeps S W W.drew := ⟨rfl, rfl, rfl, Nat.le_refl _, fun _ _ _ => rfl⟩
theorem Blk.drew {W : World} {b : Nat} {cs : List Value} {t : TypeId} (h : Blk W b cs t) : Blk W.drew b cs t := h
theorem addr_add (b o n : Nat) : (Addr.mk b o none).add n = Addr.mk b (o + n) none := by
  unfold Addr.add
  split
  · rename_i h; subst h; rfl
  · rfl

/-! ### The formula's words, as rules for rewriting -/
section
variable {W : World}
theorem ifB_true {A B : Prop} : ifB true A B = A := rfl
theorem ifB_false {A B : Prop} : ifB false A B = B := rfl
theorem ifB_dec {c : Prop} [Decidable c] {A B : Prop} : ifB (decide c) A B ↔ (c → A) ∧ (¬ c → B) := by
  by_cases h : c <;> simp [ifB, h]
theorem ifB_iff {b : Bool} {A B : Prop} : ifB b A B ↔ (b = true → A) ∧ (b = false → B) := by cases b <;> simp [ifB]
theorem nilck_some {a : Addr} {K : Addr → Prop} : nilck (some a) K = K a := rfl
theorem idx_some {a : Addr} {len : Nat} {n : Int} {K : Addr → Prop} (h0 : 0 ≤ n) (h1 : n < len) (hk : K a) : idx (some a) len n K := ⟨a, rfl, h0, h1, hk⟩
theorem ld_int {k : IntKind} {a : Addr} {n : Int} {K : Int → Prop} (h : W.cell? a = some (.int k n)) (hk : K n) : ld1 (.int k) a W K := ⟨n, h, hk⟩
theorem ld_bool {a : Addr} {n : Bool} {K : Bool → Prop} (h : W.cell? a = some (.bool n)) (hk : K n) : ld1 .bool a W K := ⟨n, h, hk⟩
theorem ld_str {a : Addr} {n : ByteArray} {K : ByteArray → Prop} (h : W.cell? a = some (.string n)) (hk : K n) : ld1 .str a W K := ⟨n, h, hk⟩
theorem ld_ptr {a : Addr} {n : Option Addr} {K : Option Addr → Prop} (h : W.cell? a = some (.pointer n)) (hk : K n) : ld1 .ptr a W K := ⟨n, h, hk⟩
theorem ld_sl {a : Addr} {s : Option Addr} {n c : Nat} {K : Sl → Prop} (h : W.cell? a = some (.slice s n c)) (hk : K ⟨s, n, c⟩) : ld1 .sl a W K := ⟨⟨s, n, c⟩, h, hk⟩
theorem ld_any {a : Addr} {n : Value} {K : Value → Prop} (h : W.cell? a = some n) (hk : K n) : ld1 .any a W K := ⟨n, h, hk⟩
theorem st_blk {b i : Nat} {v : Value} {cs : List Value} {t : TypeId} {K : World → Prop} (h : Blk W b cs t) (hi : i < cs.length) (hk : K (W.setCell (Addr.mk b i none) v)) : st1 (Addr.mk b i none) v W K :=
  ⟨⟨cs[i], by rw [h.cell]; simp [hi]⟩, h.frz i none, hk⟩
/-- A store, its world under a name. -/
theorem st_blk' {b i : Nat} {v : Value} {cs : List Value} {t : TypeId} {K : World → Prop} (h : Blk W b cs t) (hi : i < cs.length)
    (hk : ∀ W', Keeps [b] W W' → Blk W' b (cs.set i v) t → K W') : st1 (Addr.mk b i none) v W K :=
  st_blk h hi (hk _ (setCell_keeps (by simp) _) (h.set i v))
theorem new_blk {cs : Array Value} {t : TypeId} {K : Nat → World → Prop} (hk : ∀ b W', b = W.heap.size → Keeps [] W W' → Blk W' b cs.toList t → K b W') : newG (.cells cs t) W K :=
  hk _ _ rfl (alloc_keeps _ _ _) (alloc_blk _ _ _)
theorem mk_blk {e : TypeId} {z : Array Value} {size bytes : Nat} {n c : Int} {K : Nat → World → Prop} (h0 : 0 ≤ n) (h1 : n ≤ c) (h2 : (bytes : Int) * c ≤ 281474976710656) (h3 : c ≤ 9223372036854775807)
    (hk : ∀ b W', b = W.heap.size → Keeps [] W W' → Blk W' b (madeCells z (c.toNat * size)).toList e → K b W') : mkG e z size bytes n c W K :=
  ⟨h0, h1, h2, h3, hk _ _ rfl (alloc_keeps _ _ _) (alloc_blk _ _ _)⟩
theorem madeCells_one (v : Value) (n : Nat) : (madeCells #[v] n).toList = List.replicate n v := by
  unfold madeCells
  apply List.ext_getElem?
  intro i
  simp only [Array.toList_map, Array.toList_range, List.getElem?_map, List.getElem?_replicate]
  by_cases h : i < n
  · simp [h, Nat.mod_one]
  · simp [h]
theorem drw_intro {K : World → Prop} (hk : ∀ W', Keeps [] W W' → (∀ b cs t, Blk W b cs t → Blk W' b cs t) → K W') : drwG W K := hk _ (drew_keeps _ _) fun _ _ _ h => h.drew
theorem ldS_eq {k : K1} {a : Addr} {K : k.T → Prop} : ldS (fun w => w = W) k a K ↔ ld1 k a W K :=
  ⟨fun ⟨x, h, hk⟩ => ⟨x, h W rfl, hk⟩, fun ⟨x, h, hk⟩ => ⟨x, fun w hw => by rw [hw]; exact h, hk⟩⟩
theorem ldS_int {S : World → Prop} {k : IntKind} {a : Addr} {n : Int} {K : Int → Prop} (h : ∀ W, S W → W.cell? a = some (.int k n)) (hk : K n) : ldS S (.int k) a K := ⟨n, h, hk⟩
theorem ldS_ptr {S : World → Prop} {a : Addr} {n : Option Addr} {K : Option Addr → Prop} (h : ∀ W, S W → W.cell? a = some (.pointer n)) (hk : K n) : ldS S .ptr a K := ⟨n, h, hk⟩
theorem ldS_bool {S : World → Prop} {a : Addr} {n : Bool} {K : Bool → Prop} (h : ∀ W, S W → W.cell? a = some (.bool n)) (hk : K n) : ldS S .bool a K := ⟨n, h, hk⟩
theorem ldS_sl {S : World → Prop} {a : Addr} {s : Option Addr} {n c : Nat} {K : Sl → Prop} (h : ∀ W, S W → W.cell? a = some (.slice s n c)) (hk : K ⟨s, n, c⟩) : ldS S .sl a K := ⟨⟨s, n, c⟩, h, hk⟩
theorem callG_mono {P : Program} {f : FuncId} {args : List Value} {ts : List Ty} {K K' : TL ts → World → Prop} (h : callG P f args ts W K) (hk : ∀ x W', K x W' → K' x W') : callG P f args ts W K' :=
  Calls.mono h fun _ _ ⟨x, he, hx⟩ => ⟨x, he, hk x _ hx⟩
theorem isIfc_iface {t : TypeId} {v : Value} : isIfc (.iface t v) = true := rfl
theorem isIfc_nil : isIfc .nilIface = true := rfl
theorem isNilV_iface {t : TypeId} {v : Value} : isNilV (.iface t v) = false := rfl
theorem isNilV_nil : isNilV .nilIface = true := rfl
end
end Go.Gp
namespace Go.Gp
open Go Go.RowKit
theorem JoinG.rule {V : Type} {B : V → World → Prop} {A : (V → World → Prop) → Prop} (R : V → World → Prop) (hb : ∀ v W, R v W → B v W) (ha : ∀ B', (∀ v W, R v W → B' v W) → A B') : JoinG B A := ha B hb
theorem LoopG.rule {V : Type} {x : V} {W : World} {body : V → World → (V → World → Prop) → Prop} (I : V → World → Prop) (m : V → World → Nat) (h0 : I x W)
    (hs : ∀ x W, I x W → ∀ C, (∀ x' W', I x' W' → m x' W' < m x W → C x' W') → body x W C) : LoopG x W body :=
  ⟨I, m, h0, fun x W hI => hs x W hI _ fun _ _ h1 h2 => ⟨h1, h2⟩⟩
theorem w64 {x : Int} (h1 : -9223372036854775808 ≤ x) (h2 : x ≤ 9223372036854775807) : IntKind.i64.wrap x = x := by
  rw [IntKind.wrap_i64]; omega
/-- Old memory reads as it did. -/
theorem Keeps.cell {S : List Nat} {W W' : World} (h : Keeps S W W') {a : Addr} {v : Value} (hc : W.cell? a = some v) (hs : a.block ∉ S) : W'.cell? a = some v := by
  have hb : a.block < W.heap.size := by
    unfold World.cell? at hc
    rcases Nat.lt_or_ge a.block W.heap.size with h' | h'
    · exact h'
    · rw [Array.getElem?_eq_none h'] at hc; cases hc
  unfold World.cell? at *
  rw [h.block _ hb hs]
  exact hc
theorem Keeps.cells {S : List Nat} {W W' : World} (h : Keeps S W W') {a : Addr} (hs : a.block ∉ S) : ∀ (vs : List Value) (i : Nat), cellsAt W a i vs → cellsAt W' a i vs
  | [], _, _ => trivial
  | v :: vs, i, hc => ⟨h.cell hc.1 (by unfold Addr.add; split <;> exact hs), Keeps.cells h hs vs (i + 1) hc.2⟩
theorem Keeps.nil {S : List Nat} {W W' : World} (h : Keeps [] W W') : Keeps S W W' := h.mono (by simp)
theorem Keeps.push {S : List Nat} {W W' W'' : World} (h : Keeps [] W W') (k : Keeps S W' W'') (ht : ∀ b ∈ S, W.heap.size ≤ b) : Keeps [] W W'' :=
  h.trans' k fun b hb => .inr (ht b hb)
theorem ldN_intro {ks : List K1} {a : Addr} {W : World} {K : HL ks → Prop} (x : HL ks) (h : cellsAt W a 0 (HL.enc ks x)) (hk : K x) : ldN ks a W K := ⟨x, h, hk⟩
theorem forall_prod {α β : Type} {p : α × β → Prop} (h : ∀ a b, p (a, b)) : ∀ x, p x := fun ⟨a, b⟩ => h a b
theorem ifB_i {b : Bool} {A B : Prop} (h1 : b = true → A) (h2 : b = false → B) : ifB b A B :=
  match b, h1, h2 with | true, h1, _ => h1 rfl | false, _, h2 => h2 rfl
theorem ifB_t {b : Bool} {A B : Prop} (h : b = true) (h1 : A) : ifB b A B := by subst h; exact h1
theorem ifB_f {b : Bool} {A B : Prop} (h : b = false) (h1 : B) : ifB b A B := by subst h; exact h1
theorem ifD {c : Prop} [Decidable c] {A B : Prop} (h1 : c → A) (h2 : ¬ c → B) : ifB (decide c) A B := ifB_dec.2 ⟨h1, h2⟩
theorem ifE {a b : Int} {A B : Prop} (h1 : a = b → A) (h2 : a ≠ b → B) : ifB (a == b) A B := ifB_i (fun h => h1 (by simpa using h)) fun h => h2 (by simpa using h)
theorem ifN {a b : Int} {A B : Prop} (h1 : a ≠ b → A) (h2 : a = b → B) : ifB (a != b) A B := ifB_i (fun h => h1 (by simpa using h)) fun h => h2 (by simpa using h)
theorem ifNot {b : Bool} {A B : Prop} (h1 : b = false → A) (h2 : b = true → B) : ifB (!b) A B :=
  match b, h1, h2 with | true, _, h2 => h2 rfl | false, h1, _ => h1 rfl
end Go.Gp
