/-
  Kd: texts of ours, one behind the other: Gl1, Gl2, Ga33, Ga34, Ga35, Ga36, Ga37, Ga38, Ga39.
-/
import Derived.Test.YtbaclnddcobdmaaKk
import Derived.Laws.CopyRow
import Derived.Laws.Externs
import Derived.Lib.AppendZerosOnto
import Derived.Lib.Overlaps
import Derived.Test.YtbaclnddcobdmaaKc
set_option linter.unusedSimpArgs false
set_option linter.unusedVariables false
namespace Go.Gp
open Go
def RowAt (W : World) (g : Nat) (e : TypeId) (C : List Value) : Prop := W.heap[g]? = some (.cells ⟨C⟩ e (0, 0))
theorem RowAt.lt {W : World} {g : Nat} {e : TypeId} {C : List Value} (h : RowAt W g e C) : g < W.heap.size := (Array.getElem?_eq_some_iff.1 h).1
theorem RowAt.cell {W : World} {g : Nat} {e : TypeId} {C : List Value} (h : RowAt W g e C) (i : Nat) : W.cell? ⟨g, i, none⟩ = C[i]? := by
  unfold World.cell?
  rw [h]
  simp
section
variable {P : Program} {W : World}
end
end Go.Gp
set_option linter.unusedSimpArgs false
set_option linter.unusedVariables false
namespace Go.Gp
open Go
theorem RowAt.drew {W : World} {g : Nat} {e : TypeId} {C : List Value} (h : RowAt W g e C) : RowAt W.drew g e C := h
structure ElemT (P : Program) (t e ti : TypeId) (sz bytes : Nat) (i : TypeInfo) (z : Value) : Prop where
  ht : P.underlying t = some (.slice e)
  hti : P.underlying ti = some (.int .i64)
  hi : P.info? e = some i
  hz : i.zero = some z
  hsz : i.size = sz
  hby : i.bytes = bytes
  hzs : z.cells.size = sz
  h0 : 0 < sz
  hz1 : ∀ v ∈ z.cells, v.oneCell' = true
theorem Keeps.put {W W' W'' : World} {g : Nat} {S : List Nat} (h : Keeps S W W') (k : Keeps [g] W' W'') (hg : g ∈ S ∨ W.heap.size ≤ g) : Keeps S W W'' := h.trans' k fun b hb => by
  simp only [List.mem_singleton] at hb
  subst hb
  exact hg
section
variable {P : Program}
end
end Go.Gp
set_option linter.unusedSimpArgs false
set_option linter.unusedVariables false
namespace Go.Ga
open Go Go.Gp
theorem loop_n {V : Type} {x : V} {H : HP} {body : V → HP → (V → HP → Prop) → Prop} (n : Nat) (st : Nat → V) (P : Nat → Prop) (h0 : x = st 0) (p0 : P 0)
    (step : ∀ i C, i ≤ n → P i → (i < n → P (i + 1) → C (st (i + 1)) H) → body (st i) H C) : LoopA x H body := by
  let S : V → Nat → Prop := fun v k => ∃ i, i ≤ n ∧ P i ∧ v = st i ∧ n - i = k
  have hex : ∀ v, ∃ k, (∃ k, S v k) → S v k ∧ ∀ j, S v j → k ≤ j := fun v => by
    by_cases h : ∃ k, S v k
    · obtain ⟨k, h1, h2⟩ := least h; exact ⟨k, fun _ => ⟨h1, h2⟩⟩
    · exact ⟨0, fun h' => absurd h' h⟩
  refine ⟨fun v H' => (∃ k, S v k) ∧ H' = H, fun v _ => Classical.choose (hex v), ⟨⟨_, 0, Nat.zero_le _, p0, h0, rfl⟩, rfl⟩, ?_⟩
  rintro v H' ⟨hv, rfl⟩
  obtain ⟨⟨i, hi, hp, rfl, hk⟩, hmin⟩ := Classical.choose_spec (hex v) hv
  refine step i _ hi hp fun hlt hp' => ⟨⟨⟨_, i + 1, hlt, hp', rfl, rfl⟩, rfl⟩, ?_⟩
  have := (Classical.choose_spec (hex (st (i + 1))) ⟨_, i + 1, hlt, hp', rfl, rfl⟩).2 (n - (i + 1)) ⟨i + 1, hlt, hp', rfl, rfl⟩
  have h2 : n - (i + 1) < n - i := by omega
  rw [hk] at h2
  exact Nat.lt_of_le_of_lt this h2
theorem loop_h {V : Type} {x : V} {H : HP} {body : V → HP → (V → HP → Prop) → Prop} (n : Nat) (P : Nat → V → HP → Prop) (h0 : P 0 x H)
    (step : ∀ i v H C, i ≤ n → P i v H → (i < n → ∀ v' H', P (i + 1) v' H' → C v' H') → body v H C) : LoopA x H body := by
  let S : V × HP → Nat → Prop := fun v k => ∃ i, i ≤ n ∧ P i v.1 v.2 ∧ n - i = k
  have hex : ∀ v, ∃ k, (∃ k, S v k) → S v k ∧ ∀ j, S v j → k ≤ j := fun v => by
    by_cases h : ∃ k, S v k
    · obtain ⟨k, h1, h2⟩ := least h; exact ⟨k, fun _ => ⟨h1, h2⟩⟩
    · exact ⟨0, fun h' => absurd h' h⟩
  refine ⟨fun v H' => ∃ k, S (v, H') k, fun v H' => Classical.choose (hex (v, H')), ⟨_, 0, Nat.zero_le _, h0, rfl⟩, ?_⟩
  rintro v H' hv
  obtain ⟨⟨i, hi, hp, hk⟩, hmin⟩ := Classical.choose_spec (hex (v, H')) hv
  refine step i v H' _ hi hp fun hlt v' H'' hp' => ⟨⟨_, i + 1, hlt, hp', rfl⟩, ?_⟩
  have := (Classical.choose_spec (hex (v', H'')) ⟨_, i + 1, hlt, hp', rfl⟩).2 (n - (i + 1)) ⟨i + 1, hlt, hp', rfl⟩
  have h2 : n - (i + 1) < n - i := by omega
  rw [hk] at h2
  exact Nat.lt_of_le_of_lt this h2
theorem w1 {i : Nat} (h : i < 9223372036854775807) : IntKind.i64.wrap ((i : Int) + 1) = ((i + 1 : Nat) : Int) := by
  rw [w64 (by omega) (by omega)]; omega
theorem wI {x : Int} (h1 : -9223372036854775808 ≤ x) (h2 : x ≤ 9223372036854775807) : IntKind.i64.wrap x = x := w64 h1 h2
theorem ifT {A B : Prop} {b : Bool} (hb : b = true) (h : A) : ifB b A B := by subst hb; exact h
theorem ifF {A B : Prop} {b : Bool} (hb : b = false) (h : B) : ifB b A B := by subst hb; exact h
theorem ifLt {i : Nat} {n : Nat} {A B : Prop} (h1 : i < n → A) (h2 : n ≤ i → B) : ifB (decide ((i : Int) < (n : Int))) A B := ifD (fun h => h1 (by omega)) fun h => h2 (by omega)
theorem atA_lt {α : Type} {xs : List α} {i : Nat} {K : α → Prop} (hi : i < xs.length) (h : K xs[i]) : atA xs (i : Int) K := atA_i (List.getElem?_eq_getElem hi) h
theorem atA_g {α : Type} {xs : List α} {z : Int} {i : Nat} {x : α} {K : α → Prop} (hz : z = (i : Int)) (hi : xs[i]? = some x) (h : K x) : atA xs z K := by subst hz; exact atA_i hi h
theorem strB_eq (x y : List UInt8) : (ByteArray.toList (bys x) == ByteArray.toList (bys y)) = decide (x = y) := str_eq x y
theorem slcA_z {n : Nat} {l h : Int} {a b : Nat} {K : Nat → Nat → Prop} (hl : l = a) (hh : h = b) (h1 : a ≤ b) (h2 : b ≤ n) (hk : K a (b - a)) : slcA n l h K := by subst hl hh; exact slcA_i h1 h2 hk
theorem sub_zero {α : Type} (xs : List α) (n : Nat) : sub xs 0 n = xs.take n := by simp [sub]
end Go.Ga
set_option linter.unusedSimpArgs false
set_option linter.unusedVariables false
namespace Go.Ga
open Go Go.Gp
theorem arg_row {w : Mk} {W : World} {j : Nat} {e : AK} {r : List (Bool × AK)} {vs : List Value} {xs : List e.T} {y : HT r} (h : ArgRep w W j ((false, .row e) :: r) vs (xs, y)) : ∃ (s : Sl) (us : List Value), vs = s.val :: us ∧ RowIs (imm w) W e.sz (Dat (imm w) W e) s xs ∧ ArgRep w W (j + 1) r us y := by
  obtain ⟨v, us, rfl, h1, cs, h2, h3⟩ := h
  have h3 : cs = [v] := h3
  subst h3
  obtain ⟨s, h4, h5⟩ := h2
  injection h4 with h4
  subst h4
  exact ⟨s, us, rfl, h5, h1⟩
theorem arg_one {w : Mk} {W : World} {j : Nat} {k : K1} {r : List (Bool × AK)} {vs : List Value} {x : k.T} {y : HT r} (h : ArgRep w W j ((false, .one k) :: r) vs (x, y)) : ∃ us : List Value, vs = k.enc x :: us ∧ (k.enc x).oneCell' = true ∧ ArgRep w W (j + 1) r us y := by
  obtain ⟨v, us, rfl, h1, cs, h2, h3⟩ := h
  have h3 : cs = [v] := h3
  subst h3
  obtain ⟨h4, h5⟩ := h2
  injection h4 with h4
  subst h4
  exact ⟨us, rfl, h5, h1⟩
theorem keeps_same {w : Mk} {W W' : World} {S : List Nat} (hwf : ∀ b, W.heap.size ≤ b → w b = none) (hk : Keeps S W W') {τ : Tag} (hS : ∀ b ∈ S, w b ≠ some τ) : ∀ b, w b = some τ → W'.heap[b]? = W.heap[b]? := fun b hb => by
  have hlt : b < W.heap.size := Nat.lt_of_not_le fun h => by rw [hwf b h] at hb; cases hb
  exact hk.block b hlt fun hm => hS b hm hb
theorem pure_clone {P : Program} {f : FuncId} {e : AK} {t : TypeId} {xs : List e.T} (g : e.good = true) (h0 : e.sz ≠ 0)
    (h : ∀ (W : World) (s : Sl) (cs : List Value), Rs W e.sz s cs → s.len = xs.length → (s.a = none → s.len = 0 ∧ s.cap = 0) → (∀ u ∈ cs, u.oneCell' = true) → callG P f [s.val] [.one .sl] W fun z W' => OwnS W' 0 t e.sz z.1 cs ∧ z.1.len = s.len ∧ Keeps [] W W' ∧ ∀ b ∈ sblk z.1, newA W W' b) :
    PureA P f [(false, .row e)] (xs, ()) [(false, .row e)] (xs, ()) := fun H K hk w W vs hp ha => by
  obtain ⟨s, us, rfl, h1, ha⟩ := arg_row ha
  have ha : us = [] := ha
  subst ha
  obtain ⟨css, hl, hd, hall, hrs⟩ := row_cells h1
  refine (h W s css.flatten hrs h1.len h1.nil (flat_one hl hd)).mono fun e' W' ⟨z, he, ho, hzl, hkp, hnew⟩ => ?_
  have himm : Imm (imm w) (imm w) W W' := fun b hb hlt => ⟨hb, SameC.of (hkp.block b hlt (by simp))⟩
  have hsame : ∀ τ, ∀ b, w b = some τ → W'.heap[b]? = W.heap[b]? := fun τ => keeps_same hp.wf hkp (by simp)
  have own : OwnIs (imm w) (fun b => b ∈ sblk z.1) W' e t z.1 xs := ⟨⟨css, hl, fun i c x h2 h3 => (hd i c x h2 h3).imm himm g, ho⟩, by rw [hzl, h1.len], fun b => Iff.rfl⟩
  refine ⟨[z.1.val], (xs, ()), H, w, ?_, hk, ⟨fun b hb => hp.wf b (Nat.le_trans hkp.size hb), fun n => (hp.ob n).keep himm (fun b => ⟨Iff.rfl, hsame _ b⟩) fun j b => ⟨Iff.rfl, hsame _ b⟩, ⟨hkp.os, hkp.tape, hkp.output, hkp.size, fun b hb h => ⟨h, hkp.block b hb (by simp)⟩, fun b h => ⟨h, hsame _ b h⟩, fun b h => h⟩⟩, ?_⟩
  · rw [he]
    rfl
  · refine ⟨z.1.val, [], rfl, rfl, [z.1.val], ?_, rfl⟩
    exact ⟨z.1, rfl, own.freeze g h0 (Imm.refl _ _) fun b hb => ⟨hp.wf b (hnew b hb).1, SameC.of rfl⟩⟩
section
variable {α : Type} {D : List Value → α → Prop} {css dss : List (List Value)} {xs ys : List α}
end
end Go.Ga
set_option linter.unusedSimpArgs false
set_option linter.unusedVariables false
namespace Go.Ga
open Go Go.Gp
def newW (w : Mk) (z : Sl) : Mk := fun b => if b ∈ sblk z then some (.res 0) else w b
theorem call_cloneO {P : Program} {f : FuncId} {e : AK} {t : TypeId} {xs : List e.T} (g : e.good = true) (h0 : e.sz ≠ 0)
    (h : ∀ (W : World) (s : Sl) (cs : List Value), Rs W e.sz s cs → s.len = xs.length → (s.a = none → s.len = 0 ∧ s.cap = 0) → (∀ u ∈ cs, u.oneCell' = true) → callG P f [s.val] [.one .sl] W fun z W' => OwnS W' 0 t e.sz z.1 cs ∧ z.1.len = s.len ∧ Keeps [] W W' ∧ ∀ b ∈ sblk z.1, newA W W' b)
    {H : HP} {K : HT [(false, .own e t)] → HP → Prop} (hk : K (xs, ()) H) : callA P f [(false, .row e)] (xs, ()) [(false, .own e t)] H K := fun w W vs hp ha => by
  obtain ⟨s, us, rfl, h1, ha⟩ := arg_row ha
  have ha : us = [] := ha
  subst ha
  obtain ⟨css, hl, hd, hall, hrs⟩ := row_cells h1
  refine (h W s css.flatten hrs h1.len h1.nil (flat_one hl hd)).mono fun e' W' ⟨z, he, ho, hzl, hkp, hnew⟩ => ?_
  have hold : ∀ b ∈ sblk z.1, w b = none := fun b hb => hp.wf b (hnew b hb).1
  have keep : ∀ b τ, w b = some τ → newW w z.1 b = some τ := fun b τ hb => by
    unfold newW; rw [if_neg (fun hm => by rw [hold b hm] at hb; cases hb)]; exact hb
  have back : ∀ b τ, τ ≠ Tag.res 0 → newW w z.1 b = some τ → w b = some τ := fun b τ hne hb => by
    unfold newW at hb
    split at hb
    · injection hb with hb; exact absurd hb.symm hne
    · exact hb
  have himm' : ∀ b, b < W.heap.size → w b = none → newW w z.1 b = none := fun b hlt hb => by
    unfold newW; rw [if_neg (fun hm => by have := (hnew b hm).1; omega)]; exact hb
  have himm : Imm (imm w) (imm (newW w z.1)) W W' := fun b hb hlt => ⟨himm' b hlt hb, SameC.of (hkp.block b hlt (by simp))⟩
  have hsame : ∀ τ, ∀ b, w b = some τ → W'.heap[b]? = W.heap[b]? := fun τ => keeps_same hp.wf hkp (by simp)
  refine ⟨[z.1.val], (xs, ()), H, newW w z.1, ?_, hk, ⟨fun b hb => ?_, fun n => (hp.ob n).keep himm (fun b => ⟨⟨back b _ (by simp), keep b _⟩, hsame _ b⟩) fun j b => ⟨⟨back b _ (by simp), keep b _⟩, hsame _ b⟩, ⟨hkp.os, hkp.tape, hkp.output, hkp.size, fun b hb h => ⟨himm' b hb h, hkp.block b hb (by simp)⟩, fun b h => ⟨keep b _ h, hsame _ b h⟩, fun b h => back b _ (by simp) h⟩⟩, ?_⟩
  · rw [he]; rfl
  · unfold newW; rw [if_neg (fun hm => by have := (hnew b hm).2; omega)]; exact hp.wf b (Nat.le_trans hkp.size hb)
  · refine ⟨z.1.val, [], rfl, rfl, [z.1.val], ⟨z.1, rfl, ⟨css, hl, fun i c x h2 h3 => (hd i c x h2 h3).imm himm g, ho⟩, by rw [hzl, h1.len], fun b => ?_⟩, rfl⟩
    show newW w z.1 b = some (.res 0) ↔ _
    constructor
    · intro h
      unfold newW at h
      split at h
      · assumption
      · exact absurd h (hp.res b 0)
    · intro h; unfold newW; rw [if_pos h]
end Go.Ga
set_option linter.unusedSimpArgs false
set_option linter.unusedVariables false
namespace Go.Ga
open Go Go.Gp
end Go.Ga
set_option linter.unusedSimpArgs false
set_option linter.unusedVariables false
namespace Go.Ga
open Go Go.Gp
end Go.Ga
set_option linter.unusedSimpArgs false
set_option linter.unusedVariables false
namespace Go.Ga
open Go Go.Gp
theorem hp_at (H : HP) (n : Nat) (k : AK) (x : k.T) : (H.set n k x) n = some ⟨k, x⟩ := if_pos rfl
theorem hp_ne {H : HP} {n m : Nat} {k : AK} {x : k.T} (h : m ≠ n) : (H.set n k x) m = H m := if_neg h
theorem hp_set2 (H : HP) (n : Nat) (k k' : AK) (x : k.T) (y : k'.T) : (H.set n k x).set n k' y = H.set n k' y := by
  funext m
  unfold HP.set
  split <;> rfl
theorem hp_comm {H : HP} {n m : Nat} {k k' : AK} {x : k.T} {y : k'.T} (h : n ≠ m) : (H.set n k x).set m k' y = (H.set m k' y).set n k x := by
  funext q
  unfold HP.set
  by_cases h1 : q = m
  · subst h1; simp [Ne.symm h]
  · simp [h1]
def HP.le (H H' : HP) : Prop := ∀ m, (H m).isSome → H' m = H m
theorem HP.le.refl (H : HP) : H.le H := fun _ _ => rfl
theorem HP.le.trans {H H' H'' : HP} (h : H.le H') (k : H'.le H'') : H.le H'' := fun m hm => by
  have := h m hm
  rw [k m (by rw [this]; exact hm), this]
theorem hp_le_new {H : HP} {n : Nat} {k : AK} {x : k.T} (h : H n = none) : H.le (H.set n k x) := fun m hm => by
  have : m ≠ n := fun e => by subst e; rw [h] at hm; cases hm
  exact hp_ne this
theorem HP.le.get {H H' : HP} (h : H.le H') {n : Nat} {o : OB} (hn : H n = some o) : H' n = some o := by rw [h n (by rw [hn]; rfl), hn]
theorem HP.le.set {H H' : HP} (h : H.le H') {n : Nat} {k : AK} {x : k.T} : (H.set n k x).le (H'.set n k x) := fun m hm => by
  by_cases e : m = n
  · subst e; rw [hp_at, hp_at]
  · rw [hp_ne e] at hm ⊢; rw [hp_ne e]; exact h m hm
theorem ldO_r {k : AK} {n : Nat} {H : HP} {x : k.T} {K : k.T → Prop} (hn : H n = some ⟨k, x⟩) (h : K x) : ldO k n H K := ⟨x, hn, h⟩
theorem refA_r {n : Nat} {K : Nat → Prop} (h : K n) : refA (some n) K := ⟨n, rfl, h⟩
theorem retH_r {P : Program} {f : FuncId} {ps : List (Bool × AK)} {xs : HT ps} {rs : List (Bool × AK)} {H : HP} {K : HT rs → Prop} (r : HT rs) (h : ∀ K' : HT rs → HP → Prop, K' r H → callA P f ps xs rs H K') (hk : K r) : retH P f ps xs rs H K := ⟨r, h, hk⟩
def elAd (b i sz : Nat) : Addr := ⟨b, i * sz, none⟩
theorem arrA_r {s : Sl} {m : Int} {b i sz : Nat} {K : Addr → Prop} (hs : s.a = some ⟨b, 0, none⟩) (hm : m = (i : Int)) (hi : i < s.len) (h : K (elAd b i sz)) : arrA s m sz K := by
  subst hm
  refine ⟨by omega, by omega, _, hs, ?_⟩
  rw [addr_add, Nat.zero_add, Int.toNat_natCast]; exact h
def ArrAt (H : HP) (b : Nat) (e : AK) (t : Nat) (s : Sl) (xs : List e.T) : Prop := H b = some ⟨.arr e t, (s, xs)⟩
theorem ldE_r {e : AK} {H : HP} {b i t : Nat} {s : Sl} {xs : List e.T} {K : e.T → Prop} (hb : ArrAt H b e t s xs) {x : e.T} (hx : xs[i]? = some x) (h : K x) : ldE e (elAd b i e.sz) H K := ⟨t, s, xs, i, x, hb, rfl, hx, h⟩
theorem stE_r {e : AK} {H : HP} {b i t : Nat} {s : Sl} {xs : List e.T} {K : e.T → (e.T → HP) → Prop} (hb : ArrAt H b e t s xs) {x : e.T} (hx : xs[i]? = some x) (h : K x fun y => H.set b (.arr e t) (s, xs.set i y)) : stE e (elAd b i e.sz) H K := ⟨t, s, xs, i, x, hb, rfl, hx, h⟩
structure SlAt (s : Sl) (b n : Nat) : Prop where
  at0 : s.a = some ⟨b, 0, none⟩
  len : s.len = n
  cap : n ≤ s.cap
end Go.Ga
set_option linter.unusedSimpArgs false
set_option linter.unusedVariables false
namespace Go.Ga
open Go Go.Gp
theorem call_cloneS {P : Program} {f : FuncId} {e : AK} {t t0 : TypeId} {s : Sl} {xs : List e.T} (g : e.good = true) (h0 : e.sz ≠ 0)
    (h : ∀ (W : World) (s : Sl) (cs : List Value), Rs W e.sz s cs → s.len = xs.length → (s.a = none → s.len = 0 ∧ s.cap = 0) → (∀ u ∈ cs, u.oneCell' = true) → callG P f [s.val] [.one .sl] W fun z W' => OwnS W' 0 t e.sz z.1 cs ∧ z.1.len = s.len ∧ Keeps [] W W' ∧ ∀ b ∈ sblk z.1, newA W W' b)
    {H : HP} (hs : (s = ⟨none, 0, 0⟩ ∧ xs = []) ∨ ∃ n, ArrAt H n e t0 s xs) {K : HT [(false, .row e)] → HP → Prop} (hk : K (xs, ()) H) : callA P f [(false, .one .sl)] (s, ()) [(false, .row e)] H K := fun w W vs hp ha => by
  obtain ⟨us, rfl, _, ha⟩ := arg_one ha
  have ha : us = [] := ha
  subst ha
  have hc : ∃ css : List (List Value), css.length = xs.length ∧ (∀ (i : Nat) c x, css[i]? = some c → xs[i]? = some x → Dat (imm w) W e c x) ∧ Rs W e.sz s css.flatten ∧ s.len = xs.length ∧ (s.a = none → s.len = 0 ∧ s.cap = 0) := by
    rcases hs with ⟨rfl, rfl⟩ | ⟨n, hn⟩
    · exact ⟨[], rfl, fun i c x h => by simp at h, Rs.nil _ _, rfl, fun _ => ⟨rfl, rfl⟩⟩
    · have hob := hp.ob n
      rw [show H n = _ from hn] at hob
      have hA := hob.arr
      obtain ⟨css, r1, r2, r3⟩ := hA.own.row
      exact ⟨css, r1, r2, r3.rs, hA.own.len, fun h => by rw [hA.at0] at h; cases h⟩
  obtain ⟨css, hl, hd, hrs, hsl, hsn⟩ := hc
  refine (h W s css.flatten hrs hsl hsn (flat_one hl hd)).mono fun e' W' ⟨z, he, ho, hzl, hkp, hnew⟩ => ?_
  have himm : Imm (imm w) (imm w) W W' := fun b hb hlt => ⟨hb, SameC.of (hkp.block b hlt (by simp))⟩
  have hsame : ∀ τ, ∀ b, w b = some τ → W'.heap[b]? = W.heap[b]? := fun τ => keeps_same hp.wf hkp (by simp)
  have own : OwnIs (imm w) (fun b => b ∈ sblk z.1) W' e t z.1 xs := ⟨⟨css, hl, fun i c x h2 h3 => (hd i c x h2 h3).imm himm g, ho⟩, by rw [hzl, hsl], fun b => Iff.rfl⟩
  refine ⟨[z.1.val], (xs, ()), H, w, ?_, hk, ⟨fun b hb => hp.wf b (Nat.le_trans hkp.size hb), fun n => (hp.ob n).keep himm (fun b => ⟨Iff.rfl, hsame _ b⟩) fun j b => ⟨Iff.rfl, hsame _ b⟩, ⟨hkp.os, hkp.tape, hkp.output, hkp.size, fun b hb h => ⟨h, hkp.block b hb (by simp)⟩, fun b h => ⟨h, hsame _ b h⟩, fun b h => h⟩⟩, ?_⟩
  · rw [he]
    rfl
  · refine ⟨z.1.val, [], rfl, rfl, [z.1.val], ?_, rfl⟩
    exact ⟨z.1, rfl, own.freeze g h0 (Imm.refl _ _) fun b hb => ⟨hp.wf b (hnew b hb).1, SameC.of rfl⟩⟩
end Go.Ga
