/-
  Kd: texts of ours, one behind the other: Gl1, Gl2, Ga33, Ga34, Ga35, Ga36, Ga38.
-/
import Derived.Test.YtalniaipgdbbcaaKk
import Derived.Laws.CopyRow
import Derived.Laws.Externs
import Derived.Lib.AppendZerosOnto
import Derived.Lib.Overlaps
import Derived.Test.YtalniaipgdbbcaaKc
set_option linter.unusedSimpArgs false
set_option linter.unusedVariables false
namespace Go.Gp
open Go
def RowAt (W : World) (g : Nat) (e : TypeId) (C : List Value) : Prop := W.heap[g]? = some (.cells ⟨C⟩ e (0, 0))
theorem RowAt.lt {W : World} {g : Nat} {e : TypeId} {C : List Value} (h : RowAt W g e C) : g < W.heap.size := (Array.getElem?_eq_some_iff.1 h).1
theorem RowAt.cell {W : World} {g : Nat} {e : TypeId} {C : List Value} (h : RowAt W g e C) (i : Nat) : W.cell? ⟨g, i, none⟩ = C[i]? := by
  unfold World.cell?
  rw [h]
  simp
section
variable {P : Program} {W : World}
end
end Go.Gp
set_option linter.unusedSimpArgs false
set_option linter.unusedVariables false
namespace Go.Gp
open Go
theorem RowAt.drew {W : World} {g : Nat} {e : TypeId} {C : List Value} (h : RowAt W g e C) : RowAt W.drew g e C := h
structure ElemT (P : Program) (t e ti : TypeId) (sz bytes : Nat) (i : TypeInfo) (z : Value) : Prop where
  ht : P.underlying t = some (.slice e)
  hti : P.underlying ti = some (.int .i64)
  hi : P.info? e = some i
  hz : i.zero = some z
  hsz : i.size = sz
  hby : i.bytes = bytes
  hzs : z.cells.size = sz
  h0 : 0 < sz
  hz1 : ∀ v ∈ z.cells, v.oneCell' = true
theorem Keeps.put {W W' W'' : World} {g : Nat} {S : List Nat} (h : Keeps S W W') (k : Keeps [g] W' W'') (hg : g ∈ S ∨ W.heap.size ≤ g) : Keeps S W W'' := h.trans' k fun b hb => by
  simp only [List.mem_singleton] at hb
  subst hb
  exact hg
section
variable {P : Program}
end
end Go.Gp
set_option linter.unusedSimpArgs false
set_option linter.unusedVariables false
namespace Go.Ga
open Go Go.Gp
theorem loop_n {V : Type} {x : V} {H : HP} {body : V → HP → (V → HP → Prop) → Prop} (n : Nat) (st : Nat → V) (P : Nat → Prop) (h0 : x = st 0) (p0 : P 0)
    (step : ∀ i C, i ≤ n → P i → (i < n → P (i + 1) → C (st (i + 1)) H) → body (st i) H C) : LoopA x H body := by
  let S : V → Nat → Prop := fun v k => ∃ i, i ≤ n ∧ P i ∧ v = st i ∧ n - i = k
  have hex : ∀ v, ∃ k, (∃ k, S v k) → S v k ∧ ∀ j, S v j → k ≤ j := fun v => by
    by_cases h : ∃ k, S v k
    · obtain ⟨k, h1, h2⟩ := least h; exact ⟨k, fun _ => ⟨h1, h2⟩⟩
    · exact ⟨0, fun h' => absurd h' h⟩
  refine ⟨fun v H' => (∃ k, S v k) ∧ H' = H, fun v _ => Classical.choose (hex v), ⟨⟨_, 0, Nat.zero_le _, p0, h0, rfl⟩, rfl⟩, ?_⟩
  rintro v H' ⟨hv, rfl⟩
  obtain ⟨⟨i, hi, hp, rfl, hk⟩, hmin⟩ := Classical.choose_spec (hex v) hv
  refine step i _ hi hp fun hlt hp' => ⟨⟨⟨_, i + 1, hlt, hp', rfl, rfl⟩, rfl⟩, ?_⟩
  have := (Classical.choose_spec (hex (st (i + 1))) ⟨_, i + 1, hlt, hp', rfl, rfl⟩).2 (n - (i + 1)) ⟨i + 1, hlt, hp', rfl, rfl⟩
  have h2 : n - (i + 1) < n - i := by omega
  rw [hk] at h2
  exact Nat.lt_of_le_of_lt this h2
theorem loop_h {V : Type} {x : V} {H : HP} {body : V → HP → (V → HP → Prop) → Prop} (n : Nat) (P : Nat → V → HP → Prop) (h0 : P 0 x H)
    (step : ∀ i v H C, i ≤ n → P i v H → (i < n → ∀ v' H', P (i + 1) v' H' → C v' H') → body v H C) : LoopA x H body := by
  let S : V × HP → Nat → Prop := fun v k => ∃ i, i ≤ n ∧ P i v.1 v.2 ∧ n - i = k
  have hex : ∀ v, ∃ k, (∃ k, S v k) → S v k ∧ ∀ j, S v j → k ≤ j := fun v => by
    by_cases h : ∃ k, S v k
    · obtain ⟨k, h1, h2⟩ := least h; exact ⟨k, fun _ => ⟨h1, h2⟩⟩
    · exact ⟨0, fun h' => absurd h' h⟩
  refine ⟨fun v H' => ∃ k, S (v, H') k, fun v H' => Classical.choose (hex (v, H')), ⟨_, 0, Nat.zero_le _, h0, rfl⟩, ?_⟩
  rintro v H' hv
  obtain ⟨⟨i, hi, hp, hk⟩, hmin⟩ := Classical.choose_spec (hex (v, H')) hv
  refine step i v H' _ hi hp fun hlt v' H'' hp' => ⟨⟨_, i + 1, hlt, hp', rfl⟩, ?_⟩
  have := (Classical.choose_spec (hex (v', H'')) ⟨_, i + 1, hlt, hp', rfl⟩).2 (n - (i + 1)) ⟨i + 1, hlt, hp', rfl⟩
  have h2 : n - (i + 1) < n - i := by omega
  rw [hk] at h2
  exact Nat.lt_of_le_of_lt this h2
theorem w1 {i : Nat} (h : i < 9223372036854775807) : IntKind.i64.wrap ((i : Int) + 1) = ((i + 1 : Nat) : Int) := by
  rw [w64 (by omega) (by omega)]; omega
theorem wI {x : Int} (h1 : -9223372036854775808 ≤ x) (h2 : x ≤ 9223372036854775807) : IntKind.i64.wrap x = x := w64 h1 h2
theorem ifT {A B : Prop} {b : Bool} (hb : b = true) (h : A) : ifB b A B := by subst hb; exact h
theorem ifF {A B : Prop} {b : Bool} (hb : b = false) (h : B) : ifB b A B := by subst hb; exact h
theorem ifLt {i : Nat} {n : Nat} {A B : Prop} (h1 : i < n → A) (h2 : n ≤ i → B) : ifB (decide ((i : Int) < (n : Int))) A B := ifD (fun h => h1 (by omega)) fun h => h2 (by omega)
theorem ifGt {i n : Nat} {A B : Prop} (h1 : n < i → A) (h2 : i ≤ n → B) : ifB (decide ((i : Int) > (n : Int))) A B := ifD (fun h => h1 (by omega)) fun h => h2 (by omega)
theorem ifLe {i n : Nat} {A B : Prop} (h1 : i ≤ n → A) (h2 : n < i → B) : ifB (decide ((i : Int) ≤ (n : Int))) A B := ifD (fun h => h1 (by omega)) fun h => h2 (by omega)
theorem atA_lt {α : Type} {xs : List α} {i : Nat} {K : α → Prop} (hi : i < xs.length) (h : K xs[i]) : atA xs (i : Int) K := atA_i (List.getElem?_eq_getElem hi) h
theorem atA_g {α : Type} {xs : List α} {z : Int} {i : Nat} {x : α} {K : α → Prop} (hz : z = (i : Int)) (hi : xs[i]? = some x) (h : K x) : atA xs z K := by subst hz; exact atA_i hi h
theorem strB_eq (x y : List UInt8) : (ByteArray.toList (bys x) == ByteArray.toList (bys y)) = decide (x = y) := str_eq x y
theorem slcA_z {n : Nat} {l h : Int} {a b : Nat} {K : Nat → Nat → Prop} (hl : l = a) (hh : h = b) (h1 : a ≤ b) (h2 : b ≤ n) (hk : K a (b - a)) : slcA n l h K := by subst hl hh; exact slcA_i h1 h2 hk
theorem sub_zero {α : Type} (xs : List α) (n : Nat) : sub xs 0 n = xs.take n := by simp [sub]
theorem sub_to_end {α : Type} (xs : List α) (a : Nat) : sub xs a (xs.length - a) = xs.drop a := by
  unfold sub; rw [List.take_of_length_le (by rw [List.length_drop]; omega)]
theorem byteA_n {n : Nat} {K : UInt8 → Prop} (h : n < 256) (hk : K (UInt8.ofNat n)) : byteA (n : Int) K := ⟨by omega, by omega, by simpa using hk⟩
end Go.Ga
set_option linter.unusedSimpArgs false
set_option linter.unusedVariables false
namespace Go.Ga
open Go Go.Gp
theorem bs_of_row {I : Nat → Prop} {W : World} {s : Sl} {xs : List UInt8} (h : RowIs I W 1 (Dat I W .byte) s xs) : Bs W s xs :=
  ⟨h.len, by have := h.big; rw [maxLen_eq] at this; have := h.len; omega, fun i b hb => by
    obtain ⟨p, cs, h1, _, h2, h3, h4⟩ := h.el i b hb
    have h4 : cs = [.int .u8 b.toNat] := h4
    subst h4
    rw [Nat.mul_one] at h3
    refine ⟨p, h1, ?_⟩
    have := h3.1
    rwa [show (p.add i).add 0 = p.add i from by simp [Addr.add]] at this⟩
theorem arg_row {w : Mk} {W : World} {j : Nat} {e : AK} {r : List (Bool × AK)} {vs : List Value} {xs : List e.T} {y : HT r} (h : ArgRep w W j ((false, .row e) :: r) vs (xs, y)) : ∃ (s : Sl) (us : List Value), vs = s.val :: us ∧ RowIs (imm w) W e.sz (Dat (imm w) W e) s xs ∧ ArgRep w W (j + 1) r us y := by
  obtain ⟨v, us, rfl, h1, cs, h2, h3⟩ := h
  have h3 : cs = [v] := h3
  subst h3
  obtain ⟨s, h4, h5⟩ := h2
  injection h4 with h4
  subst h4
  exact ⟨s, us, rfl, h5, h1⟩
theorem res_one {w : Mk} {W : World} {j : Nat} {k : K1} {r : List (Bool × AK)} {us : List Value} {x : k.T} {y : HT r} (hx : (k.enc x).oneCell' = true) (h : ResRep w W (j + 1) r us y) : ResRep w W j ((false, .one k) :: r) (k.enc x :: us) (x, y) :=
  ⟨_, _, rfl, h, [k.enc x], ⟨rfl, hx⟩, rfl⟩
theorem pure_bb {P : Program} {f : FuncId} {k : K1} {a b : List UInt8} {r : k.T} (hr : (k.enc r).oneCell' = true) (h : ∀ (W : World) (x y : Sl), Bs W x a → Bs W y b → callG P f [x.val, y.val] [.one k] W fun z W' => z = (r, ()) ∧ W' = W) :
    PureA P f [(false, .row .byte), (false, .row .byte)] (a, b, ()) [(false, .one k)] (r, ()) := fun H K hk w W vs hp ha => by
  obtain ⟨s1, us, rfl, h1, ha⟩ := arg_row ha
  obtain ⟨s2, us, rfl, h2, ha⟩ := arg_row ha
  have ha : us = [] := ha
  subst ha
  refine (h W s1 s2 (bs_of_row h1) (bs_of_row h2)).mono fun e W' ⟨z, he, hz, hW⟩ => ?_
  subst hz hW
  exact ⟨[k.enc r], (r, ()), H, w, he, hk, ⟨hp.wf, hp.ob, Since.refl _ _⟩, res_one hr rfl⟩
theorem keeps_same {w : Mk} {W W' : World} {S : List Nat} (hwf : ∀ b, W.heap.size ≤ b → w b = none) (hk : Keeps S W W') {τ : Tag} (hS : ∀ b ∈ S, w b ≠ some τ) : ∀ b, w b = some τ → W'.heap[b]? = W.heap[b]? := fun b hb => by
  have hlt : b < W.heap.size := Nat.lt_of_not_le fun h => by rw [hwf b h] at hb; cases hb
  exact hk.block b hlt fun hm => hS b hm hb
theorem pure_clone {P : Program} {f : FuncId} {e : AK} {t : TypeId} {xs : List e.T} (g : e.good = true) (h0 : e.sz ≠ 0)
    (h : ∀ (W : World) (s : Sl) (cs : List Value), Rs W e.sz s cs → s.len = xs.length → (s.a = none → s.len = 0 ∧ s.cap = 0) → (∀ u ∈ cs, u.oneCell' = true) → callG P f [s.val] [.one .sl] W fun z W' => OwnS W' 0 t e.sz z.1 cs ∧ z.1.len = s.len ∧ Keeps [] W W' ∧ ∀ b ∈ sblk z.1, newA W W' b) :
    PureA P f [(false, .row e)] (xs, ()) [(false, .row e)] (xs, ()) := fun H K hk w W vs hp ha => by
  obtain ⟨s, us, rfl, h1, ha⟩ := arg_row ha
  have ha : us = [] := ha
  subst ha
  obtain ⟨css, hl, hd, hall, hrs⟩ := row_cells h1
  refine (h W s css.flatten hrs h1.len h1.nil (flat_one hl hd)).mono fun e' W' ⟨z, he, ho, hzl, hkp, hnew⟩ => ?_
  have himm : Imm (imm w) (imm w) W W' := fun b hb hlt => ⟨hb, SameC.of (hkp.block b hlt (by simp))⟩
  have hsame : ∀ τ, ∀ b, w b = some τ → W'.heap[b]? = W.heap[b]? := fun τ => keeps_same hp.wf hkp (by simp)
  have own : OwnIs (imm w) (fun b => b ∈ sblk z.1) W' e t z.1 xs := ⟨⟨css, hl, fun i c x h2 h3 => (hd i c x h2 h3).imm himm g, ho⟩, by rw [hzl, h1.len], fun b => Iff.rfl⟩
  refine ⟨[z.1.val], (xs, ()), H, w, ?_, hk, ⟨fun b hb => hp.wf b (Nat.le_trans hkp.size hb), fun n => (hp.ob n).keep himm (fun b => ⟨Iff.rfl, hsame _ b⟩) fun j b => ⟨Iff.rfl, hsame _ b⟩, ⟨hkp.os, hkp.tape, hkp.output, hkp.size, fun b hb h => ⟨h, hkp.block b hb (by simp)⟩, fun b h => ⟨h, hsame _ b h⟩, fun b h => h⟩⟩, ?_⟩
  · rw [he]
    rfl
  · refine ⟨z.1.val, [], rfl, rfl, [z.1.val], ?_, rfl⟩
    exact ⟨z.1, rfl, own.freeze g h0 (Imm.refl _ _) fun b hb => ⟨hp.wf b (hnew b hb).1, SameC.of rfl⟩⟩
section
variable {α : Type} {D : List Value → α → Prop} {css dss : List (List Value)} {xs ys : List α}
end
end Go.Ga
set_option linter.unusedSimpArgs false
set_option linter.unusedVariables false
namespace Go.Ga
open Go Go.Gp
end Go.Ga
set_option linter.unusedSimpArgs false
set_option linter.unusedVariables false
namespace Go.Ga
open Go Go.Gp
def forW (w : Mk) (H : HP) : Mk := fun b => match w b with
  | some (.ob n) => (match H n with | some _ => some (.ob n) | none => none)
  | some (.oo n j) => (match H n with | some _ => some (.oo n j) | none => none)
  | t => t
theorem forW_none {w : Mk} {H : HP} {b : Nat} (h : w b = none) : forW w H b = none := by unfold forW; rw [h]
theorem forW_same {w : Mk} {H : HP} {b : Nat} {t : Tag} (h1 : ∀ n, t ≠ .ob n) (h2 : ∀ n j, t ≠ .oo n j) : forW w H b = some t ↔ w b = some t := by
  unfold forW
  cases hw : w b with
  | none => simp
  | some u =>
    cases u with
    | ob n =>
      simp only
      constructor
      · intro h; split at h
        · injection h with h; exact absurd h.symm (h1 n)
        · cases h
      · intro h; injection h with h; exact absurd h.symm (h1 n)
    | oo n j =>
      simp only
      constructor
      · intro h; split at h
        · injection h with h; exact absurd h.symm (h2 n j)
        · cases h
      · intro h; injection h with h; exact absurd h.symm (h2 n j)
    | _ => simp
theorem forW_ob {w : Mk} {H : HP} {b n : Nat} : forW w H b = some (.ob n) ↔ w b = some (.ob n) ∧ (H n).isSome := by
  unfold forW
  cases hw : w b with
  | none => simp
  | some u =>
    cases u with
    | ob m =>
      simp only
      cases hm : H m with
      | none => simp; intro e; subst e; simp [hm]
      | some o => simp; intro e; subst e; simp [hm]
    | oo m j => simp only; split <;> simp
    | _ => simp
theorem forW_oo {w : Mk} {H : HP} {b n j : Nat} : forW w H b = some (.oo n j) ↔ w b = some (.oo n j) ∧ (H n).isSome := by
  unfold forW
  cases hw : w b with
  | none => simp
  | some u =>
    cases u with
    | oo m i =>
      simp only
      cases hm : H m with
      | none => simp; intro e; subst e; simp [hm]
      | some o => simp; intro e; subst e; simp [hm]
    | ob m => simp only; split <;> simp
    | _ => simp
theorem resrep_keep {w w' : Mk} {W : World} (hi : Imm (imm w) (imm w') W W) (hs : ∀ j, Same w W w' W (.res j) (.res j)) : ∀ {rs : List (Bool × AK)} {j : Nat} {us : List Value} {r : HT rs}, goodPs rs = true → ResRep w W j rs us r → ResRep w' W j rs us r
  | [], _, _, _, _, h => h
  | p :: rs, j, us, r, hg, h => by
    simp only [goodPs, Bool.and_eq_true] at hg
    obtain ⟨v, us', e, h1, cs, h2, h3⟩ := h
    exact ⟨v, us', e, resrep_keep hi hs hg.2 h1, cs, TCel.keep hi hg.1 (fun i _ _ => hs i) h2, h3⟩
end Go.Ga
set_option linter.unusedSimpArgs false
set_option linter.unusedVariables false
namespace Go.Ga
open Go Go.Gp
theorem callA_sub {P : Program} {f : FuncId} {ps : List (Bool × AK)} {xs : HT ps} {rs : List (Bool × AK)} {H : HP} {K : HT rs → HP → Prop} (hg : goodPs rs = true)
    (h : callA P f ps xs rs H fun r H' => ∃ H1 : HP, (∀ m, (H1 m).isSome → H' m = H1 m) ∧ K r H1) : callA P f ps xs rs H K := fun w W vs hp ha => by
  refine Calls.mono (h w W vs hp ha) fun e W' ⟨us, r, H', w', h1, ⟨H1, h2, hk⟩, hpost, hres⟩ => ?_
  have him : Imm (imm w') (imm (forW w' H1)) W' W' := fun b hb _ => ⟨forW_none hb, SameC.of rfl⟩
  refine ⟨us, r, H1, forW w' H1, h1, hk, ⟨fun b hb => forW_none (hpost.wf b hb), fun n => ?_, ⟨hpost.since.os, hpost.since.tape, hpost.since.output, hpost.since.size, fun b hb h0 => ?_, fun b hb => ?_, fun b hb => ?_⟩⟩, ?_⟩
  · cases hn : H1 n with
    | none =>
      refine fun b => ⟨fun hb => ?_, fun j hb => ?_⟩
      · have := (forW_ob.1 hb).2; rw [hn] at this; cases this
      · have := (forW_oo.1 hb).2; rw [hn] at this; cases this
    | some o =>
      have := hpost.ob n
      rw [h2 n (by rw [hn]; rfl), hn] at this
      refine this.keep him (fun b => ⟨?_, fun _ => rfl⟩) fun j b => ⟨?_, fun _ => rfl⟩
      · rw [forW_ob, hn]; simp
      · rw [forW_oo, hn]; simp
  · obtain ⟨a1, a2⟩ := hpost.since.im b hb h0
    exact ⟨forW_none a1, a2⟩
  · obtain ⟨a1, a2⟩ := hpost.since.ext b hb
    exact ⟨(forW_same (by simp) (by simp)).2 a1, a2⟩
  · exact hpost.since.noext b ((forW_same (by simp) (by simp)).1 hb)
  · exact resrep_keep him (fun j b => ⟨forW_same (by simp) (by simp), fun _ => rfl⟩) hg hres
theorem hp_at (H : HP) (n : Nat) (k : AK) (x : k.T) : (H.set n k x) n = some ⟨k, x⟩ := if_pos rfl
theorem hp_ne {H : HP} {n m : Nat} {k : AK} {x : k.T} (h : m ≠ n) : (H.set n k x) m = H m := if_neg h
theorem hp_same {H : HP} {n : Nat} {k : AK} {x : k.T} (h : H n = some ⟨k, x⟩) : H.set n k x = H := by
  funext m
  unfold HP.set
  split
  · rename_i e; subst e; exact h.symm
  · rfl
theorem hp_set2 (H : HP) (n : Nat) (k k' : AK) (x : k.T) (y : k'.T) : (H.set n k x).set n k' y = H.set n k' y := by
  funext m
  unfold HP.set
  split <;> rfl
def HP.le (H H' : HP) : Prop := ∀ m, (H m).isSome → H' m = H m
theorem HP.le.refl (H : HP) : H.le H := fun _ _ => rfl
theorem HP.le.trans {H H' H'' : HP} (h : H.le H') (k : H'.le H'') : H.le H'' := fun m hm => by
  have := h m hm
  rw [k m (by rw [this]; exact hm), this]
theorem hp_le_new {H : HP} {n : Nat} {k : AK} {x : k.T} (h : H n = none) : H.le (H.set n k x) := fun m hm => by
  have : m ≠ n := fun e => by subst e; rw [h] at hm; cases hm
  exact hp_ne this
theorem HP.le.get {H H' : HP} (h : H.le H') {n : Nat} {o : OB} (hn : H n = some o) : H' n = some o := by rw [h n (by rw [hn]; rfl), hn]
theorem HP.le.set {H H' : HP} (h : H.le H') {n : Nat} {k : AK} {x : k.T} : (H.set n k x).le (H'.set n k x) := fun m hm => by
  by_cases e : m = n
  · subst e; rw [hp_at, hp_at]
  · rw [hp_ne e] at hm ⊢; rw [hp_ne e]; exact h m hm
theorem ldO_r {k : AK} {n : Nat} {H : HP} {x : k.T} {K : k.T → Prop} (hn : H n = some ⟨k, x⟩) (h : K x) : ldO k n H K := ⟨x, hn, h⟩
theorem refA_r {n : Nat} {K : Nat → Prop} (h : K n) : refA (some n) K := ⟨n, rfl, h⟩
theorem retH_r {P : Program} {f : FuncId} {ps : List (Bool × AK)} {xs : HT ps} {rs : List (Bool × AK)} {H : HP} {K : HT rs → Prop} (r : HT rs) (h : ∀ K' : HT rs → HP → Prop, K' r H → callA P f ps xs rs H K') (hk : K r) : retH P f ps xs rs H K := ⟨r, h, hk⟩
theorem capA_r {n : Nat} {r : List Nat} {K : Nat → List Nat → Prop} (h : K n r) : capA (n :: r) K := ⟨n, r, rfl, h⟩
def elAd (b i sz : Nat) : Addr := ⟨b, i * sz, none⟩
theorem arrA_r {s : Sl} {m : Int} {b i sz : Nat} {K : Addr → Prop} (hs : s.a = some ⟨b, 0, none⟩) (hm : m = (i : Int)) (hi : i < s.len) (h : K (elAd b i sz)) : arrA s m sz K := by
  subst hm
  refine ⟨by omega, by omega, _, hs, ?_⟩
  rw [addr_add, Nat.zero_add, Int.toNat_natCast]; exact h
def ArrAt (H : HP) (b : Nat) (e : AK) (t : Nat) (s : Sl) (xs : List e.T) : Prop := H b = some ⟨.arr e t, (s, xs)⟩
theorem ldE_r {e : AK} {H : HP} {b i t : Nat} {s : Sl} {xs : List e.T} {K : e.T → Prop} (hb : ArrAt H b e t s xs) {x : e.T} (hx : xs[i]? = some x) (h : K x) : ldE e (elAd b i e.sz) H K := ⟨t, s, xs, i, x, hb, rfl, hx, h⟩
theorem stE_r {e : AK} {H : HP} {b i t : Nat} {s : Sl} {xs : List e.T} {K : e.T → (e.T → HP) → Prop} (hb : ArrAt H b e t s xs) {x : e.T} (hx : xs[i]? = some x) (h : K x fun y => H.set b (.arr e t) (s, xs.set i y)) : stE e (elAd b i e.sz) H K := ⟨t, s, xs, i, x, hb, rfl, hx, h⟩
structure SlAt (s : Sl) (b n : Nat) : Prop where
  at0 : s.a = some ⟨b, 0, none⟩
  len : s.len = n
  cap : n ≤ s.cap
theorem pubA_r {e : AK} {t : Nat} {xs : List e.T} {H : HP} {K : Sl → HP → Prop} (hne : xs ≠ []) (h : ∀ s n, H n = none → SlAt s n xs.length → K s (H.set n (.arr e t) (s, xs))) : pubA e t xs H K := fun s H' hp => by
  obtain ⟨h1, h2, h3, h4⟩ := hp
  rcases h4 with ⟨_, h5, _⟩ | ⟨n, h5, h6, rfl⟩
  · exact absurd h5 hne
  · exact h s n h6 ⟨h5, h1, by omega⟩
end Go.Ga
