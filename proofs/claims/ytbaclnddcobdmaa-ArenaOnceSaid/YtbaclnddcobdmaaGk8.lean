/-
  Gk8: slices of bytes that are only read; strings made of them; what compares them; what clones them.
-/
import Derived.Test.YtbaclnddcobdmaaGk7
import Derived.Laws.BytesString
import Derived.Laws.Cells
import Derived.Laws.AppendOwn
set_option linter.unusedSimpArgs false
set_option linter.unusedVariables false
namespace Go.Gp
open Go

/-- Slice s reads as the bytes l. -/
structure Bs (W : World) (s : Sl) (l : List UInt8) : Prop where
  len : s.len = l.length
  big : l.length ≤ 9223372036854775807
  at_ : ∀ i b, l[i]? = some b → ∃ p, s.a = some p ∧ W.cell? (p.add i) = some (.int .u8 b.toNat)
theorem Bs.keep {W W' : World} {s : Sl} {l : List UInt8} (h : Bs W s l) {S : List Nat} (hk : Keeps S W W') (hs : ∀ p, s.a = some p → p.block < W.heap.size → p.block ∉ S) : Bs W' s l :=
  ⟨h.len, h.big, fun i b hb => let ⟨p, hp, hc⟩ := h.at_ i b hb
    ⟨p, hp, hk.cell hc (by have := cell_lt hc; rw [add_block] at this ⊢; exact hs p hp this)⟩⟩
theorem Bs.keep0 {W W' : World} {s : Sl} {l : List UInt8} (h : Bs W s l) (hk : Keeps [] W W') : Bs W' s l := h.keep hk (by simp)
def bys (l : List UInt8) : ByteArray := ⟨l.toArray⟩
theorem bys_toList (l : List UInt8) : (bys l).data.toList = l := rfl
theorem Bs.cells {W : World} {p : Addr} {n c : Nat} {l : List UInt8} (h : Bs W ⟨some p, n, c⟩ l) : ∀ i b, l[i]? = some b → W.cell? (p.add i) = some (.int .u8 b.toNat) := fun i b hb => by
  obtain ⟨q, hq, hc⟩ := h.at_ i b hb
  injection hq with hq
  subst hq
  exact hc
theorem Bs.nil {W : World} {n c : Nat} {l : List UInt8} (h : Bs W ⟨none, n, c⟩ l) : l = [] := by
  cases l with
  | nil => rfl
  | cons b l => obtain ⟨p, hp, _⟩ := h.at_ 0 b rfl; cases hp
theorem foldl_push (l : List UInt8) : ∀ (acc : ByteArray), (l.map fun b => ((b.toNat : Nat) : Int)).foldl (fun r n => r.push (UInt8.ofNat n.toNat)) acc = ⟨acc.data ++ l.toArray⟩ := by
  induction l with
  | nil => intro acc; simp
  | cons b l ih =>
    intro acc
    simp only [List.map_cons, List.foldl_cons, ih]
    simp [ByteArray.push]
theorem conv_str {P : Program} {W : World} {s d e : TypeId} (hs : P.underlying s = some (.slice e)) (he : P.underlying e = some (.int .u8)) (hd : P.underlying d = some .string) {x : Sl} {l : List UInt8} (h : Bs W x l)
    {K : ByteArray → World → Prop} (hk : K (bys l) W) : runG' P (.val (.one .str)) (convert s d (.slice x.a x.len x.cap)) W K := by
  refine ⟨bys l, W, ?_, hk⟩
  obtain ⟨a, n, c⟩ := x
  rw [run_convert_bytes_string W s d e a n c hs he hd]
  cases a with
  | none => rw [h.nil]; rfl
  | some p =>
    have hl : n = l.length := h.len
    have hc := run_loadCells_list (P := P) (w := W) p (l.map fun b => Value.int .u8 b.toNat) (fun j v hj => by
      rw [List.getElem?_map] at hj
      obtain ⟨b, hb, rfl⟩ := Option.map_eq_some_iff.1 hj
      exact h.cells j b hb)
    rw [List.length_map, ← hl] at hc
    rw [run_bytesToString W p n c (l.map fun b => ((b.toNat : Nat) : Int)) (by rw [hc]; simp [Function.comp_def]), foldl_push]
    simp [bys, Ty'.enc, Ty.enc, K1.enc]
/-! ### Which bytes stand ahead -/
def lessL : List UInt8 → List UInt8 → Bool
  | _, [] => false
  | [], _ :: _ => true
  | a :: x, b :: y => if a = b then lessL x y else decide (a < b)
theorem lessL_diff : ∀ (i : Nat) (x y : List UInt8) (a b : UInt8), (∀ j, j < i → x[j]? = y[j]?) → x[i]? = some a → y[i]? = some b → a ≠ b → lessL x y = decide (a < b)
  | 0, x, y, a, b, _, hx, hy, hne => by
    cases x with
    | nil => simp at hx
    | cons u x => cases y with
      | nil => simp at hy
      | cons v y =>
        simp only [List.getElem?_cons_zero, Option.some.injEq] at hx hy
        subst hx; subst hy
        simp [lessL, hne]
  | i + 1, x, y, a, b, h, hx, hy, hne => by
    cases x with
    | nil => simp at hx
    | cons u x => cases y with
      | nil => simp at hy
      | cons v y =>
        have h0 := h 0 (by omega)
        simp only [List.getElem?_cons_zero, Option.some.injEq] at h0
        subst h0
        simp only [lessL, if_true]
        exact lessL_diff i x y a b (fun j hj => by have := h (j + 1) (by omega); simpa using this) (by simpa using hx) (by simpa using hy) hne
theorem lessL_len : ∀ (x y : List UInt8), (∀ j, j < x.length → j < y.length → x[j]? = y[j]?) → lessL x y = decide (x.length < y.length)
  | x, [], _ => by simp [lessL]
  | [], v :: y, _ => by simp [lessL]
  | u :: x, v :: y, h => by
    have h0 := h 0 (by simp) (by simp)
    simp only [List.getElem?_cons_zero, Option.some.injEq] at h0
    subst h0
    simp only [lessL, if_true]
    rw [lessL_len x y fun j h1 h2 => by have := h (j + 1) (by simpa using h1) (by simpa using h2); simpa using this]
    simp
theorem u8_lt {a b : UInt8} : decide ((a.toNat : Int) < (b.toNat : Int)) = decide (a < b) := by
  rw [decide_eq_decide, UInt8.lt_iff_toNat_lt]; omega
theorem u8_ne {a b : UInt8} : ((a.toNat : Int) ≠ (b.toNat : Int)) ↔ a ≠ b := by
  constructor
  · intro h e; subst e; exact h rfl
  · intro h e; exact h (UInt8.toNat_inj.1 (by omega))
def cmpL (x y : List UInt8) : Int := if lessL x y then -1 else if lessL y x then 1 else 0
theorem getE (l : List UInt8) (i : Nat) : (bys l)[i]! = l[i]?.getD default := by
  by_cases h : i < l.length
  · have hs : i < (bys l).size := by simpa [bys, ByteArray.size] using h
    rw [getElem!_pos (bys l) i hs, List.getElem?_eq_getElem h]
    rfl
  · have hs : ¬ i < (bys l).size := by simpa [bys, ByteArray.size] using h
    rw [getElem!_neg (bys l) i hs, List.getElem?_eq_none (by omega)]
    rfl
theorem lessL_asym {i : Nat} {x y : List UInt8} {a b : UInt8} (h : ∀ j, j < i → x[j]? = y[j]?) (hx : x[i]? = some a) (hy : y[i]? = some b) (hne : a ≠ b) : lessL y x = decide (b < a) :=
  lessL_diff i y x b a (fun j hj => (h j hj).symm) hy hx (Ne.symm hne)
theorem cmp_eq (x y : List UInt8) : Extern.BytealgCompare.cmp (bys x) (bys y) = cmpL x y := by
  unfold Extern.BytealgCompare.cmp cmpL
  have hsx : (bys x).size = x.length := by simp [bys, ByteArray.size]
  have hsy : (bys y).size = y.length := by simp [bys, ByteArray.size]
  rw [hsx, hsy]
  split
  · rename_i i hi
    have hp := List.find?_some hi
    have hm := List.mem_of_find?_eq_some hi
    rw [List.mem_range] at hm
    have hlt : ∀ j, j < i → x[j]? = y[j]? := fun j hj => by
      have := List.find?_range_eq_some.1 hi
      have h2 := this.2.2 j hj
      simp only [getE, bne_iff_ne, Bool.not_eq_true', bne_eq_false_iff_eq] at h2
      have hx : j < x.length := by omega
      have hy : j < y.length := by omega
      rw [List.getElem?_eq_getElem hx, List.getElem?_eq_getElem hy] at h2 ⊢
      simpa using h2
    have hx : i < x.length := by omega
    have hy : i < y.length := by omega
    simp only [getE, List.getElem?_eq_getElem hx, List.getElem?_eq_getElem hy, Option.getD_some, bne_iff_ne] at hp ⊢
    rw [lessL_diff i x y _ _ hlt (List.getElem?_eq_getElem hx) (List.getElem?_eq_getElem hy) hp, lessL_asym hlt (List.getElem?_eq_getElem hx) (List.getElem?_eq_getElem hy) hp]
    by_cases hl : x[i] < y[i]
    · simp [hl]
    · have : y[i] < x[i] := by
        rw [UInt8.lt_iff_toNat_lt] at *
        have : x[i].toNat ≠ y[i].toNat := fun e => hp (UInt8.toNat_inj.1 e)
        omega
      simp [hl, this]
  · rename_i hn
    have hall : ∀ j, j < x.length → j < y.length → x[j]? = y[j]? := fun j hx hy => by
      have := List.find?_eq_none.1 hn j (by rw [List.mem_range]; omega)
      simp only [getE, bne_iff_ne, ne_eq, Decidable.not_not, List.getElem?_eq_getElem hx, List.getElem?_eq_getElem hy, Option.getD_some] at this
      rw [List.getElem?_eq_getElem hx, List.getElem?_eq_getElem hy, this]
    rw [lessL_len x y hall, lessL_len y x fun j h1 h2 => (hall j h2 h1).symm]
    by_cases h1 : x.length < y.length
    · simp [h1]
    · by_cases h2 : y.length < x.length
      · simp [h1, h2]
      · simp [h1, h2]
theorem run_loadBytes {P : Program} {W : World} : ∀ (l : List UInt8) (p : Addr) (acc : ByteArray), (∀ i b, l[i]? = some b → W.cell? (p.add i) = some (.int .u8 b.toNat)) →
    (Extern.Bytes.loadBytes p l.length acc).run P W = .ok ⟨acc.data ++ l.toArray⟩ W
  | [], p, acc, _ => by simp [Extern.Bytes.loadBytes]
  | b :: l, p, acc, h => by
    have h0 := h 0 b rfl
    rw [show p.add 0 = p from by simp [Addr.add]] at h0
    have ih := run_loadBytes (P := P) (W := W) l (p.add 1) (acc.push b) fun i c hi => by
      have := h (i + 1) c (by simpa using hi)
      rw [show (p.add 1).add i = p.add (i + 1) from ?_]
      · exact this
      · unfold Addr.add
        by_cases hi0 : i = 0
        · subst hi0; simp
        · simp [hi0]; omega
    simp only [List.length_cons, Extern.Bytes.loadBytes, Sem.run_bind, run_load, h0, Result.andThen_ok]
    simp only [Int.toNat_natCast, UInt8.ofNat_toNat, show ((b.toNat).toUInt8) = b from UInt8.ofNat_toNat] at ih ⊢
    rw [ih]
    simp [ByteArray.push]
theorem run_bytesOf {P : Program} {W : World} {x : Sl} {l : List UInt8} (h : Bs W x l) : (Extern.Bytes.bytesOf (.slice x.a x.len x.cap)).run P W = .ok (bys l) W := by
  obtain ⟨a, n, c⟩ := x
  cases a with
  | none => rw [h.nil]; rfl
  | some p =>
    have hl : n = l.length := h.len
    simp only [Extern.Bytes.bytesOf]
    rw [hl, run_loadBytes l p _ h.cells]
    simp [bys]
/-- bytes of old slices, cloned: append onto a fresh empty row. -/
theorem app_clone {P : Program} {W : World} {t e : TypeId} {i : TypeInfo} (ht : P.underlying t = some (.slice e)) (hi : P.info? e = some i) (hz : i.zero = some (.int .u8 0)) (hsz : i.size = 1) (hby : i.bytes = 1)
    {b : Nat} (hb : Blk W b [] e) {p : Addr} {n c : Nat} {l : List UInt8} (h : Bs W ⟨some p, n, c⟩ l) (hl : l.length ≤ 140737488355328) (B : Nat) (hB : B ≤ b)
    {K : Sl → World → Prop} (hk : ∀ r W', Bs W' r l → Keeps [b] W W' → (∃ g, r.a = some ⟨g, 0, none⟩ ∧ B ≤ g) → K r W') :
    runG' P (.val (.one .sl)) (Builtin.append_ #[t, t] t #[.slice (some ⟨b, 0, none⟩) 0 0, .slice (some p) n c]) W K := by
  have hown : W.ownsRow B e 1 (.slice (some ⟨b, 0, none⟩) 0 0) 0 [] :=
    ⟨rfl, .inr ⟨b, 0, #[], rfl, hB, hb, Nat.le_refl _, Nat.zero_le _, rfl, rfl⟩⟩
  have hn : n = l.length := h.len
  have hcells : ∀ j u, (l.map fun b => Value.int .u8 b.toNat)[j]? = some u → W.cell? (p.add j) = some u := fun j u hj => by
    rw [List.getElem?_map] at hj
    obtain ⟨b', hb', rfl⟩ := Option.map_eq_some_iff.1 hj
    exact h.cells j b' hb'
  obtain ⟨v', w', hr, ho, hg, hnil⟩ := run_append_own (P := P) W B t t e i (.int .u8 0) 1 1 ht hi hz hsz hby rfl (by decide) _ 0 [] hown p n c (l.map fun b => Value.int .u8 b.toNat) (by simp [hn]) hcells
    (fun u hu => by obtain ⟨b', _, rfl⟩ := List.mem_map.1 hu; rfl) (by rw [maxLen_eq]; omega) (by omega) (Nat.le_trans hB (Nat.le_of_lt hb.lt))
  rcases ho.2 with ⟨rfl, _⟩ | ⟨g, cap, cur, rfl, hbg, hgh, hnc, hcm, hcs, htk⟩
  · exact absurd (hnil.1 rfl).1 (by simp)
  · refine ⟨⟨some ⟨g, 0, none⟩, 0 + n, cap⟩, w', hr, hk _ _ ⟨by simp [hn], h.big, fun j b' hj => ⟨_, rfl, ?_⟩⟩ ⟨hg.os, hg.tape, hg.output, hg.size, fun x hx hxs => hg.block x hx (by simpa [Value.ownBlock] using hxs)⟩ ⟨g, rfl, hbg⟩⟩
    have hget : (cur.toList.take ((0 + n) * 1))[j]? = some (.int .u8 b'.toNat) := by rw [htk]; simp [hj]
    rw [addr_add, Nat.zero_add]
    simp only [World.cell?, hgh]
    rw [List.getElem?_take] at hget
    split at hget
    · simpa using hget
    · cases hget
end Go.Gp
