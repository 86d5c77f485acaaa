/-
  The order of weights; the ranks; the heaviest.
-/
import Derived.Test.YtjbpgebjcehfkaaDwrank
import Derived.Test.YtjbpgebjcehfkaaWeigh1
import Derived.Test.YtjbpgebjcehfkaaKt
import Derived.Test.YtjbpgebjcehfkaaWsort4
set_option linter.unusedSimpArgs false
set_option linter.unusedVariables false
namespace Go.Proofs.Ytjbpgebjcehfkaa
open Go Go.Gp Go.Ga Go.Th Ieee
def plcD : Datum → Int | .number _ _ i => i | _ => 0
def clsD : Datum → Int | .nan _ _ => -2 | .infinity s => if s = true then -1 else 1 | .number _ _ _ => 0
def valD (B : Int) : Datum → Int | .number s m i => signed s m (i - B).toNat | _ => 0
def magD : Datum → Nat | .number _ m _ => m | _ => 1
theorem signed_add (s : Bool) (m k r : Nat) : signed s m (k + r) = signed s m k * ((2 ^ r : Nat) : Int) := by
  unfold signed
  rw [Nat.shiftLeft_eq, Nat.shiftLeft_eq, Nat.pow_add, ← Nat.mul_assoc]
  split
  · rw [Int.natCast_mul, ← Int.neg_mul]
  · exact Int.natCast_mul _ _
theorem valD_base {B base : Int} {s : Bool} {m : Nat} {i : Int} (h : base ≤ i) (hB : B ≤ base) : signed s m (i - B).toNat = signed s m (i - base).toNat * ((2 ^ (base - B).toNat : Nat) : Int) := by
  rw [← signed_add]
  congr 1
  omega
theorem order_key {B : Int} {d e : Datum} (hd : d.isNaN = false) (he : e.isNaN = false) (h1 : B ≤ plcD d ∨ clsD d ≠ 0) (h2 : B ≤ plcD e ∨ clsD e ≠ 0) :
    (d.order e = some .lt ↔ clsD d < clsD e ∨ (clsD d = clsD e ∧ valD B d < valD B e)) ∧ (d.order e = some .gt ↔ clsD e < clsD d ∨ (clsD d = clsD e ∧ valD B e < valD B d)) := by
  cases d with
  | nan s f => simp [Datum.isNaN] at hd
  | infinity s =>
    cases e with
    | nan t f => simp [Datum.isNaN] at he
    | infinity t => cases s <;> cases t <;> simp [Datum.order, clsD, valD] <;> decide
    | number t n j => cases s <;> simp [Datum.order, clsD, valD]
  | number s m i =>
    cases e with
    | nan t f => simp [Datum.isNaN] at he
    | infinity t => cases t <;> simp [Datum.order, clsD, valD]
    | number t n j =>
      have h1 : B ≤ i := h1.resolve_right (by simp [clsD])
      have h2 : B ≤ j := h2.resolve_right (by simp [clsD])
      simp only [Datum.order, clsD, valD, Int.lt_irrefl, false_or, true_and, Option.some.injEq]
      rw [valD_base (B := B) (base := min i j) (by omega) (by omega), valD_base (B := B) (base := min i j) (i := j) (by omega) (by omega)]
      have hp : (0 : Int) < ((2 ^ (min i j - B).toNat : Nat) : Int) := by have := Nat.two_pow_pos (min i j - B).toNat; omega
      rw [Int.compare_eq_lt, Int.compare_eq_gt]
      exact ⟨(Int.mul_lt_mul_right hp).symm, (Int.mul_lt_mul_right hp).symm⟩
def zerW (a : Nat) : Int := if magD (rdF a) = 0 then sgnF a else 0
abbrev clsW (a : Nat) : Int := clsD (rdF a)
abbrev valW (B : Int) (a : Nat) : Int := valD B (rdF a)
theorem valD_zero {B : Int} {s : Bool} {m : Nat} {i : Int} : signed s m (i - B).toNat = 0 ↔ m = 0 := ⟨signed_zero, fun h => by rw [h, signed_0]⟩
def LxW (B : Int) (a b : Nat) : Prop := clsW a < clsW b ∨ (clsW a = clsW b ∧ (valW B a < valW B b ∨ (valW B a = valW B b ∧ zerW a < zerW b)))
theorem fEq_zero {a : Nat} : fEq .f64 a 0 = true ↔ magD (rdF a) = 0 := by
  refine ⟨fun h => by obtain ⟨s, e, hr⟩ := read_zero h; rw [hr]; rfl, fun h => ?_⟩
  unfold fEq Format.order
  have e0 : FloatKind.f64.format.read 0 = .number false 0 (FloatKind.f64.format.leastPlace) := rfl
  rw [e0]
  cases hr : rdF a with
  | nan s f => rw [hr] at h; simp [magD] at h
  | infinity s => rw [hr] at h; simp [magD] at h
  | number s m i =>
    rw [hr] at h
    have h : m = 0 := h
    subst h
    have hr : FloatKind.f64.format.read a = .number s 0 i := hr
    rw [hr]
    simp only [Datum.order, signed_0]
    rfl
theorem sgn_two (a : Nat) : sgnF a = 0 ∨ sgnF a = 1 := by unfold sgnF; split <;> simp
theorem cmpF_key {B : Int} {a b : Nat} (h1 : B ≤ plcD (rdF a)) (h2 : B ≤ plcD (rdF b)) : (cmpF a b = -1 ↔ LxW B a b) ∧ (cmpF a b = 1 ↔ LxW B b a) ∧ (cmpF a b = -1 ∨ cmpF a b = 0 ∨ cmpF a b = 1) := by
  unfold cmpF LxW zerW
  simp only [fEq_zero]
  by_cases hz : magD (rdF a) = 0 ∧ magD (rdF b) = 0
  · rw [if_pos hz, if_pos hz.1, if_pos hz.2]
    have z : ∀ {c : Nat}, magD (rdF c) = 0 → clsW c = 0 ∧ valW B c = 0 := fun {c} h => by
      unfold clsW valW
      cases hr : rdF c with
      | nan s f => rw [hr] at h; simp [magD] at h
      | infinity s => rw [hr] at h; simp [magD] at h
      | number s m i => rw [hr] at h; have h : m = 0 := h; subst h; exact ⟨rfl, signed_0 _ _⟩
    rw [(z hz.1).1, (z hz.1).2, (z hz.2).1, (z hz.2).2]
    unfold cmpI
    rcases sgn_two a with ha | ha <;> rcases sgn_two b with hb | hb <;> rw [ha, hb] <;> decide
  · rw [if_neg hz]
    unfold ordF
    by_cases na : nanB a = true
    · have ca : clsW a = -2 ∧ valW B a = 0 ∧ magD (rdF a) ≠ 0 := by
        unfold nanB at na; unfold clsW valW
        cases hr : rdF a with
        | nan s f => exact ⟨rfl, rfl, by simp [magD]⟩
        | infinity s => rw [hr] at na; simp [Datum.isNaN] at na
        | number s m i => rw [hr] at na; simp [Datum.isNaN] at na
      rw [if_pos na, ca.1, ca.2.1, if_neg ca.2.2]
      by_cases nb : nanB b = true
      · have cb : clsW b = -2 ∧ valW B b = 0 ∧ magD (rdF b) ≠ 0 := by
          unfold nanB at nb; unfold clsW valW
          cases hr : rdF b with
          | nan s f => exact ⟨rfl, rfl, by simp [magD]⟩
          | infinity s => rw [hr] at nb; simp [Datum.isNaN] at nb
          | number s m i => rw [hr] at nb; simp [Datum.isNaN] at nb
        rw [if_pos nb, cb.1, cb.2.1, if_neg cb.2.2]
        decide
      · rw [if_neg nb]
        have cb : -1 ≤ clsW b := by
          unfold nanB at nb; unfold clsW
          cases hr : rdF b with
          | nan s f => rw [hr] at nb; simp [Datum.isNaN] at nb
          | infinity s => cases s <;> decide
          | number s m i => show (-1 : Int) ≤ 0; decide
        omega
    · rw [if_neg na]
      have ca : -1 ≤ clsW a := by
        unfold nanB at na; unfold clsW
        cases hr : rdF a with
        | nan s f => rw [hr] at na; simp [Datum.isNaN] at na
        | infinity s => cases s <;> decide
        | number s m i => show (-1 : Int) ≤ 0; decide
      by_cases nb : nanB b = true
      · have cb : clsW b = -2 := by
          unfold nanB at nb; unfold clsW
          cases hr : rdF b with
          | nan s f => rfl
          | infinity s => rw [hr] at nb; simp [Datum.isNaN] at nb
          | number s m i => rw [hr] at nb; simp [Datum.isNaN] at nb
        rw [if_pos nb, cb]
        omega
      · rw [if_neg nb]
        have na' : (rdF a).isNaN = false := by simpa [nanB] using na
        have nb' : (rdF b).isNaN = false := by simpa [nanB] using nb
        obtain ⟨k1, k2⟩ := order_key (B := B) na' nb' (.inl h1) (.inl h2)
        have hzz : clsW a = clsW b → valW B a = valW B b → (if magD (rdF a) = 0 then sgnF a else 0) = (if magD (rdF b) = 0 then sgnF b else 0) := fun e1 e2 => by
          have : magD (rdF a) = 0 ↔ magD (rdF b) = 0 := by
            unfold clsW at e1; unfold valW at e2
            cases hra : rdF a with
            | nan s f => rw [hra] at na'; simp [Datum.isNaN] at na'
            | infinity s =>
              cases hrb : rdF b with
              | nan s f => rw [hrb] at nb'; simp [Datum.isNaN] at nb'
              | infinity t => simp [magD]
              | number t n j => rw [hra, hrb] at e1; cases s <;> simp [clsD] at e1
            | number s m i =>
              cases hrb : rdF b with
              | nan s f => rw [hrb] at nb'; simp [Datum.isNaN] at nb'
              | infinity t => rw [hra, hrb] at e1; cases t <;> simp [clsD] at e1
              | number t n j =>
                rw [hra, hrb] at e2
                show m = 0 ↔ n = 0
                rw [← valD_zero (B := B) (s := s) (i := i), ← valD_zero (B := B) (s := t) (i := j)]
                have e2 : signed s m (i - B).toNat = signed t n (j - B).toNat := e2
                rw [e2]
          by_cases hm : magD (rdF a) = 0
          · exact absurd ⟨hm, this.1 hm⟩ hz
          · rw [if_neg hm, if_neg fun h => hm (this.2 h)]
        have l1 := (show fLt .f64 a b = true ↔ (rdF a).order (rdF b) = some .lt from by unfold fLt Format.order; exact beq_iff_eq).trans k1
        have l2 := (show fGt .f64 a b = true ↔ (rdF a).order (rdF b) = some .gt from by unfold fGt Format.order; exact beq_iff_eq).trans k2
        generalize (if magD (rdF a) = 0 then sgnF a else 0) = za at hzz ⊢
        generalize (if magD (rdF b) = 0 then sgnF b else 0) = zb at hzz ⊢
        unfold clsW valW at hzz ⊢
        generalize clsD (rdF a) = c1 at *
        generalize clsD (rdF b) = c2 at *
        generalize valD B (rdF a) = v1 at *
        generalize valD B (rdF b) = v2 at *
        by_cases g1 : fLt .f64 a b = true
        · rw [if_pos g1]; have := l1.1 g1; omega
        · rw [if_neg g1]
          have g1' : ¬ _ := fun h => g1 (l1.2 h)
          by_cases g2 : fGt .f64 a b = true
          · rw [if_pos g2]; have := l2.1 g2; omega
          · rw [if_neg g2]
            have g2' : ¬ _ := fun h => g2 (l2.2 h)
            omega
theorem cmpF_anti (a b : Nat) : cmpF b a = - cmpF a b := by
  obtain ⟨B, h1, h2⟩ : ∃ B : Int, B ≤ plcD (rdF a) ∧ B ≤ plcD (rdF b) := ⟨min (plcD (rdF a)) (plcD (rdF b)), by omega, by omega⟩
  have k1 := cmpF_key h1 h2
  have k2 := cmpF_key h2 h1
  unfold LxW at k1 k2
  omega
theorem cmpF_tr (a b c : Nat) : (cmpF a b ≤ 0 → cmpF b c ≤ 0 → cmpF a c ≤ 0) ∧ (cmpF a b < 0 → cmpF b c ≤ 0 → cmpF a c < 0) ∧ (cmpF a b ≤ 0 → cmpF b c < 0 → cmpF a c < 0) := by
  obtain ⟨B, h1, h2, h3⟩ : ∃ B : Int, B ≤ plcD (rdF a) ∧ B ≤ plcD (rdF b) ∧ B ≤ plcD (rdF c) := ⟨min (min (plcD (rdF a)) (plcD (rdF b))) (plcD (rdF c)), by omega, by omega, by omega⟩
  have k1 := cmpF_key h1 h2
  have k2 := cmpF_key h2 h3
  have k3 := cmpF_key h1 h3
  unfold LxW at k1 k2 k3
  generalize clsW a = c1 at *; generalize clsW b = c2 at *; generalize clsW c = c3 at *
  generalize valW B a = v1 at *; generalize valW B b = v2 at *; generalize valW B c = v3 at *
  generalize zerW a = z1 at *; generalize zerW b = z2 at *; generalize zerW c = z3 at *
  generalize cmpF a b = x at *; generalize cmpF b c = y at *; generalize cmpF a c = z at *
  omega
def wt (l : List Nat) (i : Int) : Nat := (l[i.toNat]?).getD 0
def inW (l : List Nat) (i : Int) : Prop := 0 ≤ i ∧ i < l.length
theorem wt_at {l : List Nat} {i : Int} (h : inW l i) : l[i.toNat]? = some (wt l i) := by
  obtain ⟨h1, h2⟩ := h
  have : i.toNat < l.length := by omega
  unfold wt
  rw [List.getElem?_eq_getElem this]; rfl
def ltW (l : List Nat) (x y : Int) : Prop := inW l x ∧ inW l y ∧ (cmpF (wt l x) (wt l y) > 0 ∨ (cmpF (wt l x) (wt l y) = 0 ∧ x < y))
def cmW (l : List Nat) (y x : Int) : Int := cmpF (wt l x) (wt l y)
theorem ltW_tr (l : List Nat) : ∀ x y z, ltW l x y → ltW l y z → ltW l x z := by
  rintro x y z ⟨h1, _, h2⟩ ⟨_, h3, h4⟩
  refine ⟨h1, h3, ?_⟩
  have t := cmpF_tr (wt l z) (wt l y) (wt l x)
  have t' := cmpF_tr (wt l x) (wt l y) (wt l z)
  have a1 := cmpF_anti (wt l x) (wt l y)
  have a2 := cmpF_anti (wt l y) (wt l z)
  have a3 := cmpF_anti (wt l x) (wt l z)
  omega
theorem ltW_as (l : List Nat) : ∀ x y, ltW l x y → ¬ ltW l y x := by
  rintro x y ⟨_, _, h2⟩ ⟨_, _, h4⟩
  have a1 := cmpF_anti (wt l x) (wt l y)
  omega
theorem upTo_ordW (l : List Nat) : OrdI (cmW l) (ltW l) (upTo l.length) := by
  refine ⟨ltW_tr l, ltW_as l, ?_⟩
  have : ∀ n, n ≤ l.length → (upTo n).Pairwise fun x y => (cmW l y x < 0 ↔ ltW l y x) ∧ (ltW l x y ∨ ltW l y x) := by
    intro n
    induction n with
    | zero => intro _; exact .nil
    | succ n ih =>
      intro hn
      rw [upTo_succ]
      refine List.pairwise_append.2 ⟨ih (by omega), by simp, fun x hx y hy => ?_⟩
      obtain rfl : y = (n : Int) := by simpa using hy
      rw [upTo_mem] at hx
      have o1 : inW l x := ⟨hx.1, by omega⟩
      have o2 : inW l (n : Int) := ⟨by omega, by omega⟩
      have a1 := cmpF_anti (wt l x) (wt l n)
      unfold cmW ltW
      refine ⟨⟨fun h => ⟨o2, o1, .inl (by omega)⟩, fun ⟨_, _, h⟩ => by omega⟩, ?_⟩
      by_cases h : cmpF (wt l x) (wt l n) < 0
      · exact .inr ⟨o2, o1, .inl (by omega)⟩
      · exact .inl ⟨o1, o2, by omega⟩
  exact this _ (Nat.le_refl _)
theorem c_rank1 {l : List Nat} (hb : ∀ a ∈ l, a < 2 ^ 64) {H : HP} {c : Nat} (hc : H c = some ⟨.row (.one (.flt .f64)), l⟩) {y x : Int} (hy : inW l y) (hx : inW l x) (K : HT [(false, .one (.int .i64))] → HP → Prop) (hk : K (cmW l y x, ()) H) : C22 y x (some c) H K := callA22 _ _ _ _ _ (by
  unfold A22
  have ry := wt_at hy
  have rx := wt_at hx
  have ey : y = ((y.toNat : Nat) : Int) := by have := hy.1; omega
  have ex : x = ((x.toNat : Nat) : Int) := by have := hx.1; omega
  exact refA_r (ldO_r hc (atA_g ex rx (ldO_r hc (atA_g ey ry (retA_i _ (c_compare _ _ (hb _ (List.mem_of_getElem? rx)) (hb _ (List.mem_of_getElem? ry))) hk))))))
theorem c_rank (l : List Nat) (hne : l ≠ []) (hl : l.length ≤ 1000) (hb : ∀ a ∈ l, a < 2 ^ 64) (H : HP) (K : HT [(false, .one .sl)] → HP → Prop) (hk : ∀ C : List Int, C.Perm (upTo l.length) → Rise (ltW l) C → ∀ s n, SlAt s n l.length → K (s, ()) (H.set n (.arr IK 3) (s, C))) : C13 l H K := callA_sub rfl (callA13 _ _ _ (by
  unfold A13
  intro c hcn
  have hat : (H.set c (.row (.one (.flt .f64))) l) c = some ⟨.row (.one (.flt .f64)), l⟩ := hp_at _ _ _ _
  refine ldO_r hat (lenA_i fun _ => ?_)
  refine loop_n l.length (fun i => ((c, upTo i, (l.length : Int), (i : Int), ()), ())) (fun _ => True) rfl trivial ?_
  intro i C hi _ hC
  dsimp only
  refine ifLt (fun h => ?_) fun h => ?_
  · refine appA_i (by rw [upTo_len]; omega) ?_
    rw [w1 (by omega), ← upTo_succ]
    exact hC h trivial
  · obtain rfl : i = l.length := by omega
    have ne : upTo l.length ≠ [] := fun e => hne (List.eq_nil_of_length_eq_zero (by rw [← upTo_len l.length, e]; rfl))
    refine pubA_r ne fun s n h6 hs => ?_
    have hne' : n ≠ c := fun e => by subst e; rw [hat] at h6; cases h6
    rw [upTo_len] at hs
    have g : Srt (H.set c (.row (.one (.flt .f64))) l) n 3 s l.length c (cmW l) (ltW l) := ⟨hs.at0, hs.len, by omega, fun xs y x K' hlt hk' => by
      have hyx : inW l y ∧ inW l x := by rcases hlt with h | h <;> exact ⟨by first | exact h.2.1 | exact h.1, by first | exact h.1 | exact h.2.1⟩
      exact c_rank1 (l := l) hb ((hp_ne (Ne.symm hne')).trans hat) hyx.1 hyx.2 K' hk'⟩
    refine c_sortst g (upTo l.length) (upTo_len _) (upTo_ordW l) _ fun C' hp' hr => ?_
    exact ⟨H.set n (.arr IK 3) (s, C'), HP.le.set (hp_le_new hcn), hk C' hp' hr s n hs⟩))
def hvN (l : List Nat) : Nat → Int
  | 0 => -1
  | i + 1 => if hvN l i < 0 then (i : Int) else if cmpF (wt l i) (wt l (hvN l i)) > 0 then (i : Int) else hvN l i
theorem hvN_ok (l : List Nat) : ∀ i, i ≤ l.length → (i = 0 ∧ hvN l i = -1) ∨ (0 ≤ hvN l i ∧ hvN l i < i ∧ ∀ j : Int, 0 ≤ j → j < i → j ≠ hvN l i → ltW l (hvN l i) j)
  | 0, _ => .inl ⟨rfl, rfl⟩
  | i + 1, hi => by
    right
    have ih := hvN_ok l i (by omega)
    have oi : inW l (i : Int) := ⟨by omega, by omega⟩
    rcases ih with ⟨rfl, e⟩ | ⟨e1, e2, e3⟩
    · have : hvN l (0 + 1) = 0 := by show (if hvN l 0 < 0 then ((0 : Nat) : Int) else _) = 0; rw [e]; rfl
      rw [this]
      exact ⟨by omega, by omega, fun j h1 h2 h3 => by omega⟩
    · have ob : inW l (hvN l i) := ⟨e1, by omega⟩
      have hd : hvN l (i + 1) = if cmpF (wt l i) (wt l (hvN l i)) > 0 then (i : Int) else hvN l i := by
        show (if hvN l i < 0 then (i : Int) else _) = _
        rw [if_neg (by omega)]
      rw [hd]
      split
      · rename_i h
        refine ⟨by omega, by omega, fun j h1 h2 h3 => ?_⟩
        have first : ltW l i (hvN l i) := ⟨oi, ob, .inl h⟩
        by_cases hj : j = hvN l i
        · rw [hj]; exact first
        · exact ltW_tr l _ _ _ first (e3 j h1 (by omega) hj)
      · rename_i h
        refine ⟨e1, by omega, fun j h1 h2 h3 => ?_⟩
        by_cases hj : j = (i : Int)
        · rw [hj]
          have := cmpF_anti (wt l i) (wt l (hvN l i))
          exact ⟨ob, oi, by omega⟩
        · exact e3 j h1 (by omega) h3
theorem c_heaviest (l : List Nat) (hl : l.length ≤ 1000) (hb : ∀ a ∈ l, a < 2 ^ 64) : S12 l (hvN l l.length, ()) := pure12 l fun H K hk => by
  unfold A12
  refine lenA_i fun _ => loop_n l.length (fun i => ((l, hvN l i, l, (l.length : Int), (i : Int), ()), ())) (fun _ => True) rfl trivial fun i C hi _ hC => ?_
  dsimp only
  refine ifLt (fun h => ?_) fun h => ?_
  · have oi : inW l (i : Int) := ⟨by omega, by omega⟩
    have ri : l[i]? = some (wt l i) := by have := wt_at oi; rwa [Int.toNat_natCast] at this
    have nx := hC h trivial
    rw [← w1 (by omega)] at nx
    refine atA_g rfl ri (JoinA_i ?_)
    rcases hvN_ok l i (by omega) with ⟨_, e⟩ | ⟨e1, e2, e3⟩
    · have hd : hvN l (i + 1) = i := by
        show (if hvN l i < 0 then (i : Int) else _) = _
        rw [if_pos (by omega)]
      rw [hd] at nx
      exact ifT (decide_eq_true (by omega)) (ifT rfl nx)
    · have hd : hvN l (i + 1) = if cmpF (wt l i) (wt l (hvN l i)) > 0 then (i : Int) else hvN l i := by
        show (if hvN l i < 0 then (i : Int) else _) = _
        rw [if_neg (by omega)]
      rw [hd] at nx
      have ob : inW l (hvN l i) := ⟨e1, by omega⟩
      have rb := wt_at ob
      refine ifF (decide_eq_false (by omega)) (atA_g (i := (hvN l i).toNat) (by omega) rb (retA_i _ (c_compare _ _ (hb _ (List.mem_of_getElem? ri)) (hb _ (List.mem_of_getElem? rb))) ?_))
      dsimp only
      by_cases hc : cmpF (wt l i) (wt l (hvN l i)) > 0
      · rw [if_pos hc] at nx; exact ifT (decide_eq_true hc) nx
      · rw [if_neg hc] at nx; exact ifF (decide_eq_false hc) nx
  · obtain rfl : i = l.length := by omega
    exact hk
theorem weighOrder_walk (a0 a1 a2 : Nat) (h0 : a0 < 2 ^ 64) (h1 : a1 < 2 ^ 64) (h2 : a2 < 2 ^ 64) (H : HP) (K : HT [(false, .one .bool)] → HP → Prop) (hk : ∀ H', K (true, ()) H') : A5 a0 a1 a2 H K := by
  unfold A5
  have anti := cmpF_anti a0 a1
  obtain ⟨t1, t2, _⟩ := cmpF_tr a0 a1 a2
  have rg : -1 ≤ cmpF a1 a0 ∧ cmpF a1 a0 ≤ 1 := by have := (cmpF_key (B := min (plcD (rdF a1)) (plcD (rdF a0))) (a := a1) (b := a0) (by omega) (by omega)).2.2; omega
  have hb : ∀ a ∈ [a0, a1, a2], a < 2 ^ 64 := fun a ha => by simp at ha; rcases ha with rfl | rfl | rfl <;> assumption
  have rest : retA Try.prog 12 [(false, .row (.one (.flt .f64)))] ([a0, a1, a2], ()) [(false, .one (.int .i64))] fun (x6 : Int × Unit) => callA Try.prog 13 [(false, .row (.one (.flt .f64)))] ([a0, a1, a2], ()) [(false, .one .sl)] H fun (x7 : Sl × Unit) H8 => ifB (decide (x6.1 < 0)) (K (false, ()) H8) (ifB (decide (x6.1 > 2)) (K (false, ()) H8) (ifB ((((x7.1.len : Nat) : Int) : Int) != 3) (K (false, ()) H8) (ifB true (arrA x7.1 0 1 fun (x9 : Addr) => ldE (.one (.int .i64)) x9 H8 fun n10 => ifB (n10 == x6.1) (atA [a0, a1, a2] x6.1 fun i11 => retA Try.prog 7 [(false, .one (.flt .f64)), (false, .one (.flt .f64))] (i11, a0, ()) [(false, .one (.int .i64))] fun (x12 : Int × Unit) => ifB (decide (x12.1 ≥ 0)) (atA [a0, a1, a2] x6.1 fun i13 => retA Try.prog 7 [(false, .one (.flt .f64)), (false, .one (.flt .f64))] (i13, a1, ()) [(false, .one (.int .i64))] fun (x14 : Int × Unit) => ifB (decide (x14.1 ≥ 0)) (atA [a0, a1, a2] x6.1 fun i15 => retA Try.prog 7 [(false, .one (.flt .f64)), (false, .one (.flt .f64))] (i15, a2, ()) [(false, .one (.int .i64))] fun (x16 : Int × Unit) => K (decide (x16.1 ≥ 0), ()) H8) (K (false, ()) H8)) (K (false, ()) H8)) (K (false, ()) H8)) (K (false, ()) H8)))) := by
    refine retA_i _ (c_heaviest _ (by simp) hb) (c_rank _ (by simp) (by simp) hb _ _ fun C hp hr s n hs => ?_)
    have hv := hvN_ok [a0, a1, a2] 3 (Nat.le_refl _)
    rw [show [a0, a1, a2].length = 3 from rfl] at hs hp ⊢
    dsimp only
    generalize hvN [a0, a1, a2] 3 = m at hv ⊢
    obtain ⟨v1, v2, v3⟩ := hv.resolve_left (by simp)
    have om : inW [a0, a1, a2] m := ⟨v1, by simpa using v2⟩
    have rm := wt_at om
    have bm := hb _ (List.mem_of_getElem? rm)
    have em : m = ((m.toNat : Nat) : Int) := by omega
    have hC0 : C[0]? = some m := by
      have hm : m ∈ C := hp.symm.subset (upTo_mem.2 ⟨v1, v2⟩)
      cases C with
      | nil => cases hm
      | cons x C =>
        rcases List.mem_cons.1 hm with rfl | hm
        · rfl
        · have l1 := (List.pairwise_cons.1 hr).1 m hm
          have hx := upTo_mem.1 (hp.subset (List.mem_cons_self (a := x) (l := C)))
          by_cases e : x = m
          · rw [e]; rfl
          · exact absurd (v3 x hx.1 hx.2 e) (ltW_as _ _ _ l1)
    have ge : ∀ j : Int, 0 ≤ j → j < 3 → cmpF (wt [a0, a1, a2] m) (wt [a0, a1, a2] j) ≥ 0 := fun j h1 h2 => by
      by_cases e : j = m
      · rw [e]; have := cmpF_anti (wt [a0, a1, a2] m) (wt [a0, a1, a2] m); omega
      · obtain ⟨_, _, h⟩ := v3 j h1 h2 e; omega
    refine ifF (decide_eq_false (by omega)) (ifF (decide_eq_false (by omega)) (ifF (by rw [hs.len]; rfl) (ifT rfl (arrA_r (i := 0) hs.at0 rfl (by rw [hs.len]; decide) (ldE_r (hp_at _ _ _ _) hC0 (ifT (by simp) ?_))))))
    refine atA_g em rm (retA_i _ (c_compare _ _ bm h0) (ifT (decide_eq_true (ge 0 (by omega) (by omega))) ?_))
    refine atA_g em rm (retA_i _ (c_compare _ _ bm h1) (ifT (decide_eq_true (ge 1 (by omega) (by omega))) ?_))
    refine atA_g em rm (retA_i _ (c_compare _ _ bm h2) ?_)
    have := ge 2 (by omega) (by omega)
    show K (decide (cmpF _ a2 ≥ 0), ()) _
    rw [decide_eq_true (show cmpF (wt [a0, a1, a2] m) a2 ≥ 0 from this)]
    exact hk _
  refine retA_i _ c_up03 (retA_i _ (c_compare _ _ h0 h1) (retA_i _ (c_compare _ _ h1 h2) (retA_i _ (c_compare _ _ h0 h2) (retA_i _ (c_compare _ _ h1 h0) ?_))))
  dsimp only
  rw [wI (x := 0 - cmpF a1 a0) (by omega) (by omega)]
  refine ifF (by rw [bne_eq_false_iff_eq]; omega) ?_
  have tail : ifB (decide (cmpF a0 a1 < 0)) (ifB (decide (cmpF a1 a2 ≤ 0)) (ifB (decide (cmpF a0 a2 ≥ 0)) (K (false, ()) H) _) _) _ := ifD (fun g1 => ifD (fun g2 => ifF (decide_eq_false (by have := t2 g1 g2; omega)) rest) fun _ => rest) fun _ => rest
  exact ifD (fun g1 => ifD (fun g2 => ifF (decide_eq_false (by have := t1 g1 g2; omega)) tail) fun _ => tail) fun _ => tail
theorem weighOrder_row (W : World) (a b c : Nat) (h0 : (Lit.float .f64 a).wf = true) (h1 : (Lit.float .f64 b).wf = true) (h2 : (Lit.float .f64 c).wf = true) :
    callG Try.prog 5 [.float .f64 a, .float .f64 b, .float .f64 c] [.one .bool] W fun x W' => x = (true, ()) ∧ Keeps [] W W' :=
  callG_of (callA5 a b c _ _ (weighOrder_walk a b c (flt_lt h0) (flt_lt h1) (flt_lt h2) _ _ fun _ => rfl)) (arg_flt (arg_flt (arg_flt arg_nil)))
end Go.Proofs.Ytjbpgebjcehfkaa
