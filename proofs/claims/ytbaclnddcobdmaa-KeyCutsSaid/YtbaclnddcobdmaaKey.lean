/-
  The keys (layer 5), the reference's, and what a key's functions come to.
-/
import Derived.Test.YtbaclnddcobdmaaDkey
import Derived.Test.YtbaclnddcobdmaaGk9
import Derived.Test.YtbaclnddcobdmaaCrew
set_option linter.unusedSimpArgs false
set_option linter.unusedVariables false
namespace Go.Proofs.Ytbaclnddcobdmaa
open Go Go.Gp

theorem u45 : Try.prog.underlying 45 = some (.slice 5) := by kernel_rfl
theorem u5 : Try.prog.underlying 5 = some (.int .u8) := by kernel_rfl
theorem u9 : Try.prog.underlying 9 = some .string := by kernel_rfl
theorem same_core {W : World} {a b : Sl} {x y : List UInt8} (ha : Bs W a x) (hb : Bs W b y) {K : Bool × Unit → World → Prop} (hk : K (decide (x = y), ()) W) : G33 a b W K := by
  unfold G33
  refine conv_str u45 u5 u9 ha (conv_str u45 u5 u9 hb ?_)
  rw [str_eq]
  exact hk
theorem rsame_spec {W : World} {a b : Sl} {x y : List UInt8} (ha : Bs W a x) (hb : Bs W b y) {K : Bool × Unit → World → Prop} (hk : K (decide (x = y), ()) W) :
    callG Try.prog 33 [.slice a.a a.len a.cap, .slice b.a b.len b.cap] [.one .bool] W K := call33 _ _ _ _ (same_core ha hb hk)
theorem equal_spec {W : World} {a b : Sl} {x y : List UInt8} (ha : Bs W a x) (hb : Bs W b y) {K : Bool × Unit → World → Prop} (hk : K (decide (x = y), ()) W) :
    callG Try.prog 91 [.slice a.a a.len a.cap, .slice b.a b.len b.cap] [.one .bool] W K := call91 _ _ _ _ (same_core ha hb hk)
theorem comp_spec {W : World} {a b : Sl} {x y : List UInt8} (ha : Bs W a x) (hb : Bs W b y) {K : Int × Unit → World → Prop} (hk : K (cmpL x y, ()) W) :
    callG Try.prog 103 [.slice a.a a.len a.cap, .slice b.a b.len b.cap] [.one (.int .i64)] W K := by
  apply call103
  unfold G103
  apply call106
  unfold G106
  exact ext_compare Try.func107 (by kernel_rfl) (by kernel_rfl) (by kernel_rfl) (by kernel_rfl) ha hb hk

theorem less_spec {W : World} {a b : Sl} {x y : List UInt8} (ha : Bs W a x) (hb : Bs W b y) {K : Bool × Unit → World → Prop} (hk : ∀ W', Keeps [] W W' → K (lessL x y, ()) W') :
    callG Try.prog 88 [.slice a.a a.len a.cap, .slice b.a b.len b.cap] [.one .bool] W K := by
  apply call88
  unfold G88
  have bx := ha.big
  have bb := hb.big
  refine LoopG.rule (fun v w => Keeps [] W w ∧ ∃ i : Nat, v = (a, b, (i : Int), ()) ∧ i ≤ x.length ∧ i ≤ y.length ∧ ∀ j, j < i → x[j]? = y[j]?) (fun v _ => x.length - v.2.2.1.toNat)
    ⟨Keeps.refl _ _, 0, rfl, Nat.zero_le _, Nat.zero_le _, fun j h => absurd h (Nat.not_lt_zero j)⟩ ?_
  rintro v w ⟨k, i, rfl, hix, hiy, heq⟩ C hC j
  dsimp only
  rw [ha.len, hb.len]
  have out : ¬ (i < x.length ∧ i < y.length) → K (decide (((x.length : Nat) : Int) < ((y.length : Nat) : Int)), ()) w := fun h => by
    have e : lessL x y = decide (x.length < y.length) := lessL_len x y fun j h1 h2 => heq j (by omega)
    have := hk w k
    rw [e] at this
    rwa [show (decide (((x.length : Nat) : Int) < ((y.length : Nat) : Int))) = decide (x.length < y.length) from by rw [decide_eq_decide]; omega]
  refine ifD (fun h1 => ifD (fun h2 => ?_) fun h2 => out (by omega)) fun h1 => out (by omega)
  refine drw_intro fun W4 k4 _ => ?_
  have hx : i < x.length := by omega
  have hy : i < y.length := by omega
  obtain ⟨p, hp, hc⟩ := ((ha.keep0 k).keep0 k4).at_ i x[i] (List.getElem?_eq_getElem hx)
  obtain ⟨q, hq, hd⟩ := ((hb.keep0 k).keep0 k4).at_ i y[i] (List.getElem?_eq_getElem hy)
  rw [hp, hq]
  refine idx_some (by omega) (by omega) ?_
  simp only [ldS_eq, Int.toNat_natCast, Nat.mul_one]
  refine ld_int hc (idx_some (by omega) (by omega) (ld_int hd ?_))
  refine ifB_i (fun hne => ?_) fun he => ?_
  · have hne : x[i] ≠ y[i] := u8_ne.1 (by simpa using hne)
    refine drw_intro fun W5 k5 _ => idx_some (by omega) (by omega) ?_
    refine ld_int (k5.cell hc (by simp)) (idx_some (by omega) (by omega) (ld_int (k5.cell hd (by simp)) ?_))
    rw [u8_lt, ← lessL_diff i x y _ _ heq (List.getElem?_eq_getElem hx) (List.getElem?_eq_getElem hy) hne]
    exact hk _ ((k.trans k4).trans k5)
  · have he : x[i] = y[i] := by
      have : ¬ ((x[i].toNat : Int) ≠ (y[i].toNat : Int)) := by simpa using he
      exact Decidable.not_not.1 fun h => this (u8_ne.2 h)
    rw [w64 (by omega) (by omega)]
    refine hC _ _ ⟨k.trans k4, i + 1, by simp [hp, hq], by omega, by omega, fun j hj => ?_⟩ (by simp only; omega)
    rcases (by omega : j < i ∨ j = i) with h | rfl
    · exact heq j h
    · rw [List.getElem?_eq_getElem hx, List.getElem?_eq_getElem hy, he]

theorem lessL_asymm : ∀ (x y : List UInt8), lessL x y = true → lessL y x = false
  | _, [], h => by simp [lessL] at h
  | [], _ :: _, _ => by simp [lessL]
  | a :: x, b :: y, h => by
    unfold lessL at h ⊢
    by_cases e : a = b
    · subst e
      simp only [if_true] at h ⊢
      exact lessL_asymm x y h
    · rw [if_neg e] at h
      rw [if_neg (Ne.symm e)]
      simp only [decide_eq_true_eq, decide_eq_false_iff_not, UInt8.lt_iff_toNat_lt] at h ⊢
      omega
theorem cmpL_neg (x y : List UInt8) : decide (cmpL x y < 0) = lessL x y := by
  unfold cmpL; cases lessL x y <;> cases lessL y x <;> simp
theorem cmpL_le (x y : List UInt8) : decide (cmpL x y ≤ 0) = !lessL y x := by
  unfold cmpL
  cases h : lessL x y
  · cases lessL y x <;> simp
  · rw [lessL_asymm x y h]; simp
def mayK (k : List UInt8) : Bool := decide (1 ≤ k.length) && decide (k.length ≤ 16)
def soundR (x y : List UInt8) : Bool := decide (x.length ≤ 16) && decide (y.length ≤ 16) && (decide (y.length = 0) || lessL x y)
def inR (x y k : List UInt8) : Bool := !lessL k x && (decide (y.length = 0) || lessL k y)
theorem ld2 {W : World} {b : Nat} {u v : Sl} {t : TypeId} (h : Blk W b [.slice u.a u.len u.cap, .slice v.a v.len v.cap] t) {K : Sl × Sl × Unit → Prop} (hk : K (u, v, ())) : ldN [.sl, .sl] (Addr.mk b 0 none) W K :=
  ldN_intro (u, v, ()) ⟨by rw [show (Addr.mk b 0 none).add 0 = Addr.mk b 0 none from rfl, h.cell]; rfl, by rw [addr0, h.cell]; rfl, trivial⟩ hk
theorem st2 {W : World} {b : Nat} {c0 c1 u v : Value} {t : TypeId} (h : Blk W b [c0, c1] t) {K : World → Prop} (hk : ∀ W', Keeps [b] W W' → Blk W' b [u, v] t → K W') :
    st1 (Addr.mk b 0 none) u W fun W => st1 ((Addr.mk b 0 none).add 1) v W K := by
  refine st_blk' h (by simp) fun W1 k1 b1 => ?_
  rw [addr0]
  refine st_blk' b1 (by simp) fun W2 k2 b2 => hk W2 (k1.trans k2) b2
theorem may_core {W : World} {a : Sl} {x : List UInt8} (ha : Bs W a x) {K : Bool × Unit → World → Prop} (hk : K (mayK x, ()) W) : G31 a W K ∧ G86 a W K := by
  unfold G31 G86
  rw [ha.len]
  unfold mayK at hk
  constructor
  · refine ifD (fun h => ?_) fun h => ?_
    · rw [decide_eq_true (by omega : 1 ≤ x.length), Bool.true_and] at hk
      rwa [show decide ((x.length : Int) ≤ 16) = decide (x.length ≤ 16) from by rw [decide_eq_decide]; omega]
    · rwa [decide_eq_false (by omega : ¬ 1 ≤ x.length), Bool.false_and] at hk
  · refine ifD (fun h => ?_) fun h => ?_
    · rw [decide_eq_true (by omega : 1 ≤ x.length), Bool.true_and] at hk
      rwa [show decide ((x.length : Int) ≤ 16) = decide (x.length ≤ 16) from by rw [decide_eq_decide]; omega]
    · rwa [decide_eq_false (by omega : ¬ 1 ≤ x.length), Bool.false_and] at hk
theorem krmay_spec {W : World} {a : Sl} {x : List UInt8} (ha : Bs W a x) {K : Bool × Unit → World → Prop} (hk : K (mayK x, ()) W) : callG Try.prog 31 [.slice a.a a.len a.cap] [.one .bool] W K := call31 _ _ _ (may_core ha hk).1
theorem kmay_spec {W : World} {a : Sl} {x : List UInt8} (ha : Bs W a x) {K : Bool × Unit → World → Prop} (hk : K (mayK x, ()) W) : callG Try.prog 86 [.slice a.a a.len a.cap] [.one .bool] W K := call86 _ _ _ (may_core ha hk).2
theorem rsound_spec {W : World} {a b : Sl} {x y : List UInt8} (ha : Bs W a x) (hb : Bs W b y) {K : Bool × Unit → World → Prop} (hk : ∀ W', Keeps [] W W' → K (soundR x y, ()) W') :
    callG Try.prog 30 [.agg #[.slice a.a a.len a.cap, .slice b.a b.len b.cap]] [.one .bool] W K := by
  apply call30
  unfold G30
  refine new_blk fun m W1 hm k1 b1 => ?_
  simp only [addr0]
  refine ld_sl (by rw [b1.cell]; rfl) (ld_sl (by rw [b1.cell]; rfl) (less_spec (ha.keep0 k1) (hb.keep0 k1) fun W2 k2 => ?_))
  replace hk := hk W2 (k1.trans k2)
  replace b1 := b1.keep k2 (by simp)
  unfold soundR at hk
  refine ld_sl (by rw [b1.cell]; rfl) ?_
  dsimp only
  rw [ha.len]
  refine ifD (fun h1 => ld_sl (by rw [b1.cell]; rfl) ?_) fun h1 => ?_
  · rw [decide_eq_true (by omega : x.length ≤ 16), Bool.true_and] at hk
    dsimp only
    rw [hb.len]
    refine ifD (fun h2 => ld_sl (by rw [b1.cell]; rfl) ?_) fun h2 => ?_
    · rw [decide_eq_true (by omega : y.length ≤ 16), Bool.true_and] at hk
      dsimp only
      rw [hb.len]
      refine ifE (fun h3 => ?_) fun h3 => ?_
      · rwa [decide_eq_true (by omega : y.length = 0), Bool.true_or] at hk
      · rwa [decide_eq_false (by omega : ¬ y.length = 0), Bool.false_or] at hk
    · rwa [decide_eq_false (by omega : ¬ y.length ≤ 16), Bool.false_and] at hk
  · rwa [decide_eq_false (by omega : ¬ x.length ≤ 16), Bool.false_and, Bool.false_and] at hk
theorem sound_spec {W : World} {a b : Sl} {x y : List UInt8} (ha : Bs W a x) (hb : Bs W b y) {K : Bool × Unit → World → Prop} (hk : ∀ W', Keeps [] W W' → K (soundR x y, ()) W') :
    callG Try.prog 89 [.agg #[.slice a.a a.len a.cap, .slice b.a b.len b.cap]] [.one .bool] W K := by
  apply call89
  unfold G89
  refine new_blk fun m W1 hm k1 b1 => ?_
  replace hk := hk W1 k1
  simp only [addr0]
  unfold soundR at hk
  refine ld_sl (by rw [b1.cell]; rfl) ?_
  dsimp only
  rw [ha.len]
  refine ifD (fun h1 => ld_sl (by rw [b1.cell]; rfl) ?_) fun h1 => ?_
  · rw [decide_eq_true (by omega : x.length ≤ 16), Bool.true_and] at hk
    dsimp only
    rw [hb.len]
    refine ifD (fun h2 => ld_sl (by rw [b1.cell]; rfl) ?_) fun h2 => ?_
    · rw [decide_eq_true (by omega : y.length ≤ 16), Bool.true_and] at hk
      dsimp only
      rw [hb.len]
      refine ifE (fun h3 => ?_) fun h3 => ?_
      · rwa [decide_eq_true (by omega : y.length = 0), Bool.true_or] at hk
      · rw [decide_eq_false (by omega : ¬ y.length = 0), Bool.false_or] at hk
        refine ld_sl (by rw [b1.cell]; rfl) (ld_sl (by rw [b1.cell]; rfl) (comp_spec (ha.keep0 k1) (hb.keep0 k1) ?_))
        dsimp only
        rw [cmpL_neg]
        exact hk
    · rwa [decide_eq_false (by omega : ¬ y.length ≤ 16), Bool.false_and] at hk
  · rwa [decide_eq_false (by omega : ¬ x.length ≤ 16), Bool.false_and, Bool.false_and] at hk
theorem in_spec {W : World} {a b c : Sl} {x y k : List UInt8} (ha : Bs W a x) (hb : Bs W b y) (hc : Bs W c k) {K : Bool × Unit → World → Prop} (hk : ∀ W', Keeps [] W W' → K (inR x y k, ()) W') :
    callG Try.prog 90 [.agg #[.slice a.a a.len a.cap, .slice b.a b.len b.cap], .slice c.a c.len c.cap] [.one .bool] W K := by
  apply call90
  unfold G90
  refine new_blk fun m W1 hm k1 b1 => ?_
  replace hk := hk W1 k1
  simp only [addr0]
  unfold inR at hk
  refine ld_sl (by rw [b1.cell]; rfl) (comp_spec (ha.keep0 k1) (hc.keep0 k1) ?_)
  dsimp only
  rw [cmpL_le]
  refine ifNot (fun h => ?_) fun h => ?_
  · rw [h, Bool.not_false, Bool.true_and] at hk
    refine ld_sl (by rw [b1.cell]; rfl) ?_
    dsimp only
    rw [hb.len]
    refine ifE (fun h3 => ?_) fun h3 => ?_
    · rwa [decide_eq_true (by omega : y.length = 0), Bool.true_or] at hk
    · rw [decide_eq_false (by omega : ¬ y.length = 0), Bool.false_or] at hk
      refine ld_sl (by rw [b1.cell]; rfl) (comp_spec (hc.keep0 k1) (hb.keep0 k1) ?_)
      dsimp only
      rw [cmpL_neg]
      exact hk
  · rwa [h, Bool.not_true, Bool.false_and] at hk
theorem rin_spec {W : World} {a b c : Sl} {x y k : List UInt8} (ha : Bs W a x) (hb : Bs W b y) (hc : Bs W c k) {K : Bool × Unit → World → Prop} (hk : ∀ W', Keeps [] W W' → K (inR x y k, ()) W') :
    callG Try.prog 32 [.agg #[.slice a.a a.len a.cap, .slice b.a b.len b.cap], .slice c.a c.len c.cap] [.one .bool] W K := by
  apply call32
  unfold G32
  refine new_blk fun m W1 hm k1 b1 => ?_
  simp only [addr0]
  refine ld_sl (by rw [b1.cell]; rfl) (less_spec (hc.keep0 k1) (ha.keep0 k1) fun W2 k2 => ?_)
  replace b1 := b1.keep k2 (by simp)
  have k12 := k1.trans k2
  refine ld_sl (by rw [b1.cell]; rfl) (less_spec (hc.keep0 k12) (hb.keep0 k12) fun W3 k3 => ?_)
  replace hk := hk W3 (k12.trans k3)
  replace b1 := b1.keep k3 (by simp)
  unfold inR at hk
  refine ifNot (fun h => ?_) fun h => ?_
  · rw [show lessL k x = false from h, Bool.not_false, Bool.true_and] at hk
    refine ld_sl (by rw [b1.cell]; rfl) ?_
    dsimp only
    rw [hb.len]
    refine ifE (fun h3 => ?_) fun h3 => ?_
    · rwa [decide_eq_true (by omega : y.length = 0), Bool.true_or] at hk
    · rwa [decide_eq_false (by omega : ¬ y.length = 0), Bool.false_or] at hk
  · rwa [show lessL k x = true from h, Bool.not_true, Bool.false_and] at hk
theorem i5 : ∃ i, Try.prog.info? 5 = some i ∧ i.zero = some (.int .u8 0) ∧ i.size = 1 ∧ i.bytes = 1 := by
  have h : (Try.prog.info? 5).map (fun i => (i.zero, i.size, i.bytes)) = some (some (.int .u8 0), 1, 1) := by kernel_rfl
  obtain ⟨i, hi, h⟩ := Option.map_eq_some_iff.1 h
  simp only [Prod.mk.injEq] at h
  exact ⟨i, hi, h.1, h.2.1, h.2.2⟩
theorem clone_spec {W : World} {a : Sl} {x : List UInt8} (ha : Bs W a x) (hx : x.length ≤ 140737488355328) {K : Sl × Unit → World → Prop}
    (hk : ∀ r W', Bs W' r x → Keeps [] W W' → (∀ p, r.a = some p → W.heap.size ≤ p.block) → K (r, ()) W') : callG Try.prog 104 [.slice a.a a.len a.cap] [.one .sl] W K := by
  apply call104
  unfold G104
  obtain ⟨p, n, c⟩ := a
  cases p with
  | none =>
    rw [ha.nil] at hk
    exact hk _ _ (Bs.none W) (Keeps.refl _ _) (by simp)
  | some p =>
    simp only [Option.isNone_some, ifB_false]
    refine new_blk fun m W1 hm k1 b1 => ?_
    obtain ⟨i, hi, h1, h2, h3⟩ := i5
    refine app_clone u45 hi h1 h2 h3 b1 (ha.keep0 k1) hx m (Nat.le_refl _) fun r W2 hr k2 hg => ?_
    refine hk r W2 hr (k1.push k2 (by simp [hm])) fun p hp => ?_
    obtain ⟨g, hg, hle⟩ := hg
    rw [hg] at hp
    injection hp with hp
    rw [← hp]; show W.heap.size ≤ g; omega
theorem made_spec {W : World} {a b : Sl} {x y : List UInt8} (ha : Bs W a x) (hb : Bs W b y) (hx : x.length ≤ 140737488355328) (hy : y.length ≤ 140737488355328) {K : (Sl × Sl × Unit) × Unit → World → Prop}
    (hk : ∀ r s W', Bs W' r x → Bs W' s y → Keeps [] W W' → (∀ p, r.a = some p → W.heap.size ≤ p.block) → (∀ p, s.a = some p → W.heap.size ≤ p.block) → K ((r, s, ()), ()) W') :
    callG Try.prog 92 [.slice a.a a.len a.cap, .slice b.a b.len b.cap] [.agg [.sl, .sl]] W K := by
  apply call92
  unfold G92
  refine new_blk fun m W1 hm k1 b1 => clone_spec (ha.keep0 k1) hx fun r W2 hr k2 fr => clone_spec ((hb.keep0 k1).keep0 k2) hy fun s W3 hs k3 fs => ?_
  refine st2 ((b1.keep k2 (by simp)).keep k3 (by simp)) fun W4 k4 b4 => ld2 b4 ?_
  have s1 := k1.size
  have s2 := k2.size
  have hml := b1.lt
  refine hk r s W4 ((hr.keep0 k3).keep k4 fun p hp _ => ?_) (hs.keep k4 fun p hp _ => ?_) (((k1.trans k2).trans k3).push k4 (by simp [hm])) (fun p hp => Nat.le_trans s1 (fr p hp)) (fun p hp => Nat.le_trans (Nat.le_trans s1 s2) (fs p hp))
  · have := fr p hp; simp; omega
  · have := fs p hp; simp; omega

def cutC (x y k : List UInt8) : Int := if soundR x y = false then 1 else if mayK k = false then 1 else if inR x y k = false then 6 else if x = k then 6 else 0
def joinC (x y u v : List UInt8) : Int := if soundR x y = false then 1 else if soundR u v = false then 1 else if y.length = 0 then 6 else if y = u then 0 else 6
abbrev z2 : List Value := [.slice none 0 0, .slice none 0 0]
/-- Two ranges made nil, and read. -/
theorem fail2 {W : World} {b2 b3 : Nat} (h2 : Blk W b2 z2 47) (h3 : Blk W b3 z2 47) (hne : b2 ≠ b3) {K : (Sl × Sl × Unit) → (Sl × Sl × Unit) → World → Prop} (hk : ∀ r s W', Keeps [b2, b3] W W' → K r s W') :
    st1 (Addr.mk b2 0 none) (.slice none 0 0) W fun W => st1 ((Addr.mk b2 0 none).add 1) (.slice none 0 0) W fun W => st1 (Addr.mk b3 0 none) (.slice none 0 0) W fun W => st1 ((Addr.mk b3 0 none).add 1) (.slice none 0 0) W fun W => ldN [.sl, .sl] (Addr.mk b2 0 none) W fun (x6 : Sl × Sl × Unit) => ldN [.sl, .sl] (Addr.mk b3 0 none) W fun (x7 : Sl × Sl × Unit) => K x6 x7 W := by
  refine st2 h2 fun W1 k1 c2 => st2 (h3.keep k1 (by simp [Ne.symm hne])) fun W2 k2 c3 => ?_
  refine ld2 (u := ⟨none, 0, 0⟩) (v := ⟨none, 0, 0⟩) (c2.keep k2 (by simp [hne])) (ld2 (u := ⟨none, 0, 0⟩) (v := ⟨none, 0, 0⟩) c3 (hk _ _ _ ?_))
  exact (k1.mono (by simp)).trans (k2.mono (by simp))
theorem cut_spec {W : World} {a b c : Sl} {x y k : List UInt8} (ha : Bs W a x) (hb : Bs W b y) (hc : Bs W c k) (hx : x.length ≤ 140737488355328) (hy : y.length ≤ 140737488355328) (hkl : k.length ≤ 140737488355328) {K : (Sl × Sl × Unit) × (Sl × Sl × Unit) × Value × Unit → World → Prop}
    (hk : ∀ r1 r2 s1 s2 W', Keeps [] W W' → (cutC x y k = 0 → Bs W' r1 x ∧ Bs W' r2 k ∧ Bs W' s1 k ∧ Bs W' s2 y) → K ((r1, r2, ()), (s1, s2, ()), er (cutC x y k), ()) W') :
    callG Try.prog 34 [.agg #[.slice a.a a.len a.cap, .slice b.a b.len b.cap], .slice c.a c.len c.cap] [.agg [.sl, .sl], .agg [.sl, .sl], .one .any] W K := by
  apply call34
  unfold G34
  refine new_blk fun m1 W1 hm1 k1 b1 => new_blk fun m2 W2 hm2 k2 b2 => new_blk fun m3 W3 hm3 k3 b3 => ?_
  have d12 : m1 < m2 := by rw [hm2]; exact b1.lt
  have d23 : m2 < m3 := by rw [hm3]; exact b2.lt
  replace b1 := (b1.keep k2 (by simp)).keep k3 (by simp)
  replace b2 := b2.keep k3 (by simp)
  have kk := (k1.trans k2).trans k3
  clear k2 k3
  have l1 : W.heap.size ≤ m1 := by omega
  clear k1 hm2 hm3
  refine ld2 b1 (sound_spec (ha.keep0 kk) (hb.keep0 kk) fun W4 k4 => ?_)
  replace b1 := b1.keep k4 (by simp)
  replace b2 := b2.keep k4 (by simp)
  replace b3 := b3.keep k4 (by simp)
  replace kk := kk.trans k4
  clear k4
  have fin : ∀ {Wa Wb : World} (r s : Sl × Sl × Unit) (e : Int), Keeps [] W Wa → Keeps [m2, m3] Wa Wb → cutC x y k = e → e ≠ 0 → K ((r.1, r.2.1, ()), (s.1, s.2.1, ()), .iface 29 (.int .i64 e), ()) Wb := fun r s e ka kb he h0 => by
    rw [er_of h0, ← he]
    exact hk _ _ _ _ _ (ka.push kb (by simp; omega)) fun h => absurd (he.symm.trans h) h0
  refine ifNot (fun hs => ?_) fun hs => kmay_spec (hc.keep0 kk) ?_
  · exact fail2 b2 b3 (by omega) fun r s W' kw => fin r s 1 kk kw (by rw [cutC, if_pos hs]) (by decide)
  replace hs : ¬ soundR x y = false := by rw [show soundR x y = true from hs]; decide
  refine ifNot (fun hm => ?_) fun hm => ld2 b1 (in_spec (ha.keep0 kk) (hb.keep0 kk) (hc.keep0 kk) fun W5 k5 => ?_)
  · exact fail2 b2 b3 (by omega) fun r s W' kw => fin r s 1 kk kw (by rw [cutC, if_neg hs, if_pos hm]) (by decide)
  replace hm : ¬ mayK k = false := by rw [show mayK k = true from hm]; decide
  replace b1 := b1.keep k5 (by simp)
  replace b2 := b2.keep k5 (by simp)
  replace b3 := b3.keep k5 (by simp)
  replace kk := kk.trans k5
  clear k5
  refine ifNot (fun hi => ?_) fun hi => ld_sl (by rw [b1.cell]; rfl) (equal_spec (ha.keep0 kk) (hc.keep0 kk) ?_)
  · exact fail2 b2 b3 (by omega) fun r s W' kw => fin r s 6 kk kw (by rw [cutC, if_neg hs, if_neg hm, if_pos hi]) (by decide)
  replace hi : ¬ inR x y k = false := by rw [show inR x y k = true from hi]; decide
  refine ifD (fun he => ?_) fun he => ?_
  · exact fail2 b2 b3 (by omega) fun r s W' kw => fin r s 6 kk kw (by rw [cutC, if_neg hs, if_neg hm, if_neg hi, if_pos he]) (by decide)
  refine drw_intro fun W6 k6 bk => ⟨fun u => u.cell? ⟨m1, 0, none⟩ = some (.slice a.a a.len a.cap) ∧ u.cell? ⟨m1, 1, none⟩ = some (.slice b.a b.len b.cap), ⟨by rw [(bk _ _ _ b1).cell]; rfl, by rw [(bk _ _ _ b1).cell]; rfl⟩, ?_⟩
  simp only [addr0]
  refine ldS_sl (fun u hu => hu.1) (ldS_sl (fun u hu => hu.2) ?_)
  replace b1 := bk _ _ _ b1
  replace b2 := bk _ _ _ b2
  replace b3 := bk _ _ _ b3
  replace kk := kk.trans k6
  clear bk k6
  refine made_spec (ha.keep0 kk) (hc.keep0 kk) hx hkl fun r1 r2 W7 q1 q2 k7 f1 f2 => ⟨⟨by rw [(b1.keep k7 (by simp)).cell]; rfl, by rw [(b1.keep k7 (by simp)).cell]; rfl⟩, ?_⟩
  refine made_spec (hc.keep0 (kk.trans k7)) (hb.keep0 (kk.trans k7)) hkl hy fun s1 s2 W8 q3 q4 k8 f3 f4 => ?_
  have e6 := b3.lt
  have e7 := k7.size
  replace b2 := (b2.keep k7 (by simp)).keep k8 (by simp)
  replace b3 := (b3.keep k7 (by simp)).keep k8 (by simp)
  refine st2 b2 fun W9 k9 c2 => st2 (b3.keep k9 (by simp; omega)) fun Wa ka c3 => ld2 (c2.keep ka (by simp; omega)) (ld2 c3 ?_)
  have kt : Keeps [m2, m3] W8 Wa := (k9.mono (by simp)).trans (ka.mono (by simp))
  have ez : cutC x y k = 0 := by rw [cutC, if_neg hs, if_neg hm, if_neg hi, if_neg he]
  rw [← er_zero, ← ez]
  refine hk _ _ _ _ _ (((kk.trans k7).trans k8).push kt (by simp; omega)) fun _ => ⟨(q1.keep0 k8).keep kt ?_, (q2.keep0 k8).keep kt ?_, q3.keep kt ?_, q4.keep kt ?_⟩
  · intro p hp _; have := f1 p hp; simp; omega
  · intro p hp _; have := f2 p hp; simp; omega
  · intro p hp _; have := f3 p hp; simp; omega
  · intro p hp _; have := f4 p hp; simp; omega

theorem fail1 {W : World} {b2 : Nat} (h2 : Blk W b2 z2 47) {K : (Sl × Sl × Unit) → World → Prop} (hk : ∀ r W', Keeps [b2] W W' → K r W') :
    st1 (Addr.mk b2 0 none) (.slice none 0 0) W fun W => st1 ((Addr.mk b2 0 none).add 1) (.slice none 0 0) W fun W => ldN [.sl, .sl] (Addr.mk b2 0 none) W fun (x6 : Sl × Sl × Unit) => K x6 W :=
  st2 h2 fun W1 k1 c2 => ld2 (u := ⟨none, 0, 0⟩) (v := ⟨none, 0, 0⟩) c2 (hk _ _ k1)
theorem join_spec {W : World} {a b c d : Sl} {x y u v : List UInt8} (ha : Bs W a x) (hb : Bs W b y) (hc : Bs W c u) (hd : Bs W d v) (hx : x.length ≤ 140737488355328) (hv : v.length ≤ 140737488355328) {K : (Sl × Sl × Unit) × Value × Unit → World → Prop}
    (hk : ∀ r1 r2 W', Keeps [] W W' → (joinC x y u v = 0 → Bs W' r1 x ∧ Bs W' r2 v) → K ((r1, r2, ()), er (joinC x y u v), ()) W') :
    callG Try.prog 36 [.agg #[.slice a.a a.len a.cap, .slice b.a b.len b.cap], .agg #[.slice c.a c.len c.cap, .slice d.a d.len d.cap]] [.agg [.sl, .sl], .one .any] W K := by
  apply call36
  unfold G36
  refine new_blk fun m1 W1 hm1 k1 b1 => new_blk fun m2 W2 hm2 k2 b2 => new_blk fun m3 W3 hm3 k3 b3 => ?_
  have d12 : m1 < m2 := by rw [hm2]; exact b1.lt
  have d23 : m2 < m3 := by rw [hm3]; exact b2.lt
  replace b1 := (b1.keep k2 (by simp)).keep k3 (by simp)
  replace b2 := b2.keep k3 (by simp)
  have kk := (k1.trans k2).trans k3
  clear k2 k3
  have l1 : W.heap.size ≤ m1 := by omega
  clear k1 hm2 hm3
  refine ld2 b1 (sound_spec (ha.keep0 kk) (hb.keep0 kk) fun W4 k4 => ?_)
  replace b1 := b1.keep k4 (by simp)
  replace b2 := b2.keep k4 (by simp)
  replace b3 := b3.keep k4 (by simp)
  replace kk := kk.trans k4
  clear k4
  have fin : ∀ {Wa Wb : World} (r : Sl × Sl × Unit) (e : Int), Keeps [] W Wa → Keeps [m3] Wa Wb → joinC x y u v = e → e ≠ 0 → K ((r.1, r.2.1, ()), .iface 29 (.int .i64 e), ()) Wb := fun r e ka kb he h0 => by
    rw [er_of h0, ← he]
    exact hk _ _ _ (ka.push kb (by simp; omega)) fun h => absurd (he.symm.trans h) h0
  refine ifNot (fun hs => ?_) fun hs => ld2 b2 (sound_spec (hc.keep0 kk) (hd.keep0 kk) fun W5 k5 => ?_)
  · exact fail1 b3 fun r W' kw => fin r 1 kk kw (by rw [joinC, if_pos hs]) (by decide)
  replace hs : ¬ soundR x y = false := by rw [show soundR x y = true from hs]; decide
  replace b1 := b1.keep k5 (by simp)
  replace b2 := b2.keep k5 (by simp)
  replace b3 := b3.keep k5 (by simp)
  replace kk := kk.trans k5
  clear k5
  refine ifNot (fun hm => ?_) fun hm => ?_
  · exact fail1 b3 fun r W' kw => fin r 1 kk kw (by rw [joinC, if_neg hs, if_pos hm]) (by decide)
  replace hm : ¬ soundR u v = false := by rw [show soundR u v = true from hm]; decide
  simp only [addr0]
  refine ld_sl (by rw [b1.cell]; rfl) ?_
  dsimp only
  rw [hb.len]
  refine ifE (fun hi => ?_) fun hi => ld_sl (by rw [b1.cell]; rfl) (ld_sl (by rw [b2.cell]; rfl) (equal_spec (hb.keep0 kk) (hc.keep0 kk) ?_))
  · exact fail1 b3 fun r W' kw => fin r 6 kk kw (by rw [joinC, if_neg hs, if_neg hm, if_pos (by omega)]) (by decide)
  replace hi : ¬ y.length = 0 := by omega
  refine ifNot (fun he => ?_) fun he => ld_sl (by rw [b1.cell]; rfl) (ld_sl (by rw [b2.cell]; rfl) ?_)
  · exact fail1 b3 fun r W' kw => fin r 6 kk kw (by rw [joinC, if_neg hs, if_neg hm, if_neg hi, if_neg (by simpa using he)]) (by decide)
  replace he : y = u := by simpa using he
  refine made_spec (ha.keep0 kk) (hd.keep0 kk) hx hv fun r1 r2 W7 q1 q2 k7 f1 f2 => ?_
  have e6 := b3.lt
  refine st2 (b3.keep k7 (by simp)) fun W9 k9 c2 => ld2 c2 ?_
  have ez : joinC x y u v = 0 := by rw [joinC, if_neg hs, if_neg hm, if_neg hi, if_pos he]
  rw [← er_zero, ← ez]
  refine hk _ _ _ ((kk.trans k7).push k9 (by simp; omega)) fun _ => ⟨q1.keep k9 ?_, q2.keep k9 ?_⟩
  · intro p hp _; have := f1 p hp; simp; omega
  · intro p hp _; have := f2 p hp; simp; omega
theorem ranges_spec {W : World} {a b c d : Sl} {x y u v : List UInt8} (ha : Bs W a x) (hb : Bs W b y) (hc : Bs W c u) (hd : Bs W d v) {K : Bool × Unit → World → Prop}
    (hk : ∀ W', Keeps [] W W' → K (decide (x = u) && decide (y = v), ()) W') :
    callG Try.prog 35 [.agg #[.slice a.a a.len a.cap, .slice b.a b.len b.cap], .agg #[.slice c.a c.len c.cap, .slice d.a d.len d.cap]] [.one .bool] W K := by
  apply call35
  unfold G35
  refine new_blk fun m1 W1 hm1 k1 b1 => new_blk fun m2 W2 hm2 k2 b2 => ?_
  replace b1 := b1.keep k2 (by simp)
  have kk := k1.trans k2
  replace hk := hk W2 kk
  simp only [addr0]
  refine ld_sl (by rw [b1.cell]; rfl) (ld_sl (by rw [b2.cell]; rfl) (rsame_spec (ha.keep0 kk) (hc.keep0 kk) (ld_sl (by rw [b1.cell]; rfl) (ld_sl (by rw [b2.cell]; rfl) (rsame_spec (hb.keep0 kk) (hd.keep0 kk) ?_)))))
  refine ifD (fun h => ?_) fun h => ?_
  · rwa [decide_eq_true h, Bool.true_and] at hk
  · rwa [decide_eq_false h, Bool.false_and] at hk
theorem tiles_one {W : World} {b : Nat} (hb : Blk W b z2 47) {K : Bool × Unit → World → Prop} (hk : ∀ W', Keeps [] W W' → K (true, ()) W') :
    callG Try.prog 87 [.slice (some ⟨b, 0, none⟩) 1 1] [.one .bool] W K := by
  refine call87 ⟨some ⟨b, 0, none⟩, 1, 1⟩ _ _ ?_
  unfold G87
  refine LoopG.rule (fun v w => Keeps [] W w ∧ ∃ i : Nat, i ≤ 1 ∧ v = (⟨some ⟨b, 0, none⟩, 1, 1⟩, ⟨none, 0, 0⟩, ⟨some ⟨b, 0, none⟩, 1, 1⟩, 1, (i : Int), ())) (fun v _ => 1 - v.2.2.2.2.1.toNat) ⟨Keeps.refl _ _, 0, by omega, rfl⟩ ?_
  rintro v w ⟨k, i, hi, rfl⟩ C hC j
  dsimp only
  refine ifD (fun h => ?_) fun h => ?_
  · obtain rfl : i = 0 := by omega
    refine idx_some (by omega) (by omega) ?_
    refine ld2 (u := ⟨none, 0, 0⟩) (v := ⟨none, 0, 0⟩) (b := b) (hb.keep k (by simp)) (new_blk fun m W1 hm k1 b1 => st2 b1 fun W2 k2 b2 => ld2 (u := ⟨none, 0, 0⟩) (v := ⟨none, 0, 0⟩) b2 ?_)
    have k02 := k1.push k2 (by simp [hm])
    refine sound_spec (Bs.none _) (Bs.none _) fun W3 k3 => ?_
    rw [show soundR [] [] = true from by decide]
    replace b2 := b2.keep k3 (by simp)
    refine ifB_f rfl ?_
    simp only [addr0]
    refine ld_sl (by rw [b2.cell]; rfl) (equal_spec (x := []) (y := []) (Bs.none _) (Bs.none _) (ifB_f (by decide) (ifB_f (by simp) (ld_sl (by rw [b2.cell]; rfl) ?_))))
    rw [w64 (by omega) (by omega)]
    exact hC _ _ ⟨(k.trans k02).trans k3, 1, by omega, rfl⟩ (by simp)
  · exact ifB_t (by simp) (hk w k)
theorem kup_spec {W : World} {K : Bool × Unit → World → Prop} (hk : ∀ W', Keeps [] W W' → K (true, ()) W') : callG Try.prog 29 [] [.one .bool] W K := by
  apply call29
  unfold G29
  refine lit_bytes u45 u5 [98] rfl rfl (by decide) fun s1 W1 q1 k1 => lit_bytes u45 u5 [100] rfl rfl (by decide) fun s2 W2 q2 k2 => lit_bytes u45 u5 [99] rfl rfl (by decide) fun s3 W3 q3 k3 => ?_
  refine cut_spec ((q1.keep0 k2).keep0 k3) (q2.keep0 k3) q3 (by decide) (by decide) (by decide) fun r1 r2 t1 t2 W4 k4 hr => ?_
  rw [show cutC [98] [100] [99] = 0 from by decide] at *
  obtain ⟨p1, p2, p3, p4⟩ := hr rfl
  refine new_blk fun m1 W5 hm1 k5 b1 => new_blk fun m2 W6 hm2 k6 b2 => ?_
  have d12 : m1 < m2 := by rw [hm2]; exact b1.lt
  refine st2 (b1.keep k6 (by simp)) fun W7 k7 c1 => st2 (b2.keep k7 (by simp; omega)) fun W8 k8 c2 => ?_
  have kk : Keeps [] W4 W8 := (k5.trans k6).push ((k7.mono (T := [m1, m2]) (by simp)).trans (k8.mono (by simp))) (by simp; omega)
  replace c1 := c1.keep k8 (by simp; omega)
  refine ⟨er_ifc 0, ifB_t rfl ?_⟩
  simp only [addr0]
  refine ld_sl (by rw [c1.cell]; rfl) (conv_str u45 u5 u9 (p2.keep0 kk) (ifB_t ((str_eq [99] [99]).trans (by decide)) ?_))
  refine ld_sl (by rw [c2.cell]; rfl) (conv_str u45 u5 u9 (p3.keep0 kk) (ifB_t ((str_eq [99] [99]).trans (by decide)) ?_))
  refine ld_sl (by rw [c2.cell]; rfl) (conv_str u45 u5 u9 (p4.keep0 kk) (ifB_t ((str_eq [100] [100]).trans (by decide)) ?_))
  refine lit_bytes u45 u5 [97] rfl rfl (by decide) fun s4 W9 q4 k9 => kmay_spec q4 (ifB_t (by decide) ?_)
  refine new_blk fun m3 Wa hm3 ka b3 => tiles_one b3 fun Wb kb => hk _ ?_
  exact (((((((k1.trans k2).trans k3).trans k4).trans kk).trans k9).trans ka).trans kb)
end Go.Proofs.Ytbaclnddcobdmaa
