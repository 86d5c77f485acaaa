/-
  Kc: texts of ours, one behind the other: Ga24, Ga242, Ga25, Ga26, Ga27, Ga28, Ga29, Ga30, Ga31, Ga32.
-/
import Derived.Test.YteljallgjmhkdaaKb
set_option linter.unusedSimpArgs false
set_option linter.unusedVariables false
namespace Go.Ga
open Go Go.Gp
section
variable {W0 : World} {w0 : Mk} {X : Nat → Prop} {E E' : Env} {B : BL} {O : OL} {H : HP} {W : World}
structure PersK (t : Nat) (E : Env) (E' : Env) : Prop where
  im : ∀ b, E.w b = none → E'.w b = none
  ex : ∀ b, E.w b = some .ext → E'.w b = some .ext
  bx : ∀ i, E.va i = true → E'.va i = true ∧ E'.blk i = E.blk i
  ow : ∀ k, k / 64 ≠ t → E.vo k = true → E'.vo k = true ∧ E'.hdr k = E.hdr k
  ba : E'.base = E.base
theorem PersK.imm {t : Nat} (h : PersK t E E') : Imm (imm E.w) (imm E'.w) W W := fun b hb _ => ⟨h.im b hb, SameC.of rfl⟩
theorem PersK.rd {t : Nat} (h : PersK t E E') : Imm (rdb E.w) (rdb E'.w) W W := fun b hb _ => ⟨hb.imp (h.im b) (h.ex b), SameC.of rfl⟩
theorem VRep0.kill {t : Nat} (h : PersK t E E') {a : AV0} {v : Value} (hv : VRep0 E W a v) : VRep0 E' W (killI t a) v := by
  cases a with
  | c k x => exact hv
  | ref x => exact hv
  | row e xs =>
    obtain ⟨g, h0, s, hs, hr⟩ := hv
    exact ⟨g, h0, s, hs, hr.imm h.imm h0 fun _ _ hd => hd.imm h.imm g⟩
  | brw e xs =>
    obtain ⟨g, h0, s, hs, hr⟩ := hv
    exact ⟨g, h0, s, hs, hr.imm h.rd h0 fun _ _ hd => hd.imm h.imm g⟩
  | nils => exact hv
  | bx i j =>
    obtain ⟨h1, h2⟩ := hv
    obtain ⟨h3, h4⟩ := h.bx i h1
    exact ⟨h3, by rw [h4]; exact h2⟩
  | op n k j => exact hv
  | own k =>
    show VRep0 E' W (if k / 64 = t then .dead else .own k) v
    split
    · trivial
    · rename_i hk
      obtain ⟨h1, h2⟩ := hv
      obtain ⟨h3, h4⟩ := h.ow k hk h1
      exact ⟨h3, by rw [h4]; exact h2⟩
  | part k n off len =>
    show VRep0 E' W (if k / 64 = t then .dead else .part k n off len) v
    split
    · trivial
    · rename_i hk
      obtain ⟨h1, h2⟩ := hv
      obtain ⟨h3, h4⟩ := h.ow k hk h1
      exact ⟨h3, by rw [h4]; exact h2⟩
  | elp k n i j =>
    show VRep0 E' W (if k / 64 = t then .dead else .elp k n i j) v
    split
    · trivial
    · rename_i hk
      obtain ⟨h1, h2⟩ := hv
      obtain ⟨h3, h4⟩ := h.ow k hk h1
      exact ⟨h3, by rw [h4]; exact h2⟩
  | rp e x j =>
    obtain ⟨g, h0, p, cs, hs, hw, hl, hc, hd⟩ := hv
    exact ⟨g, h0, p, cs, hs, hw.imp (h.im _) (h.ex _), hl, hc, hd.imm h.imm g⟩
  | lit xs =>
    obtain ⟨b, n, t, C, fz, hs, hb, hw, hh, hC, hn⟩ := hv
    exact ⟨b, n, t, C, fz, hs, by rw [h.ba]; exact hb, h.im b hw, hh, hC, hn⟩
  | clo g ns => exact hv
  | ope e p j => exact hv
  | und => exact hv
  | dead => trivial
theorem VReps.kill {t : Nat} (h : PersK t E E') : ∀ {l : List AV0} {vs : List Value}, VReps E W l vs → VReps E' W (l.map (killI t)) vs
  | [], [], _ => trivial
  | _ :: _, _ :: _, hv => ⟨hv.1.kill h, VReps.kill h hv.2⟩
  | [], _ :: _, hv => hv.elim
  | _ :: _, [], hv => hv.elim
theorem VRepcs.kill {t : Nat} (h : PersK t E E') : ∀ {l : List AVc} {vs : List Value}, VRepcs E W l vs → VRepcs E' W (l.map (killC t)) vs
  | [], [], _ => trivial
  | .s a :: _, _ :: _, hv => ⟨VRep0.kill h hv.1, VRepcs.kill h hv.2⟩
  | .g l :: _, _ :: _, hv => ⟨by obtain ⟨vs, e, hv⟩ := hv.1; exact ⟨vs, e, hv.kill h⟩, VRepcs.kill h hv.2⟩
  | [], _ :: _, hv => hv.elim
  | _ :: _, [], hv => hv.elim
theorem VRep.kill {t : Nat} (h : PersK t E E') {a : AV} {v : Value} (hv : VRep E W a v) : VRep E' W (killV t a) v := by
  cases a with
  | v a => exact VRep0.kill h hv
  | agg l => obtain ⟨vs, e, hv⟩ := hv; exact ⟨vs, e, hv.kill h⟩
  | tup l => obtain ⟨vs, e, hv⟩ := hv; exact ⟨vs, e, hv.kill h⟩
def killX (t : Nat) : BxE → BxE
  | .bx nm cs => .bx nm (cs.map (killI t))
  | b => b
theorem getB_kill (t : Nat) : ∀ (B : BL) (i : Nat), getB (killB t B) i = killX t (getB B i)
  | [], i => rfl
  | (j, b) :: r, i => by
    cases b <;> simp only [killB, getB] <;> split <;> first | rfl | exact getB_kill t r i
theorem getA_kill (t : Nat) : ∀ (f : FA) (i : Nat), getA (f.map (killV t)) i = killV t (getA f i) := fun f i => by
  by_cases h : i < f.length
  · rw [getA_in h, getA_in (f := f.map (killV t)) h]; rfl
  · rw [getA_out f (Nat.le_of_not_lt h), getA_out (f.map (killV t)) (Nat.le_of_not_lt h)]; rfl
def opnW (w : Mk) (t n : Nat) : Mk := fun b => match w b with
  | some (.ob m) => if m = n then some (.lb t) else some (.ob m)
  | some (.oo m j) => if m = n then some (.lo (t * 64 + j)) else some (.oo m j)
  | τ => τ
theorem opnW_none {w : Mk} {t n b : Nat} : opnW w t n b = none ↔ w b = none := by
  unfold opnW
  cases h : w b with
  | none => simp
  | some τ => cases τ <;> simp <;> split <;> simp
theorem opnW_eq {w : Mk} {t n b : Nat} {τ : Tag} : opnW w t n b = some τ ↔ (w b = some τ ∧ τ ≠ .ob n ∧ ∀ j, τ ≠ .oo n j) ∨ (τ = .lb t ∧ w b = some (.ob n)) ∨ ∃ j, τ = .lo (t * 64 + j) ∧ w b = some (.oo n j) := by
  unfold opnW
  cases h : w b with
  | none => simp
  | some u =>
    cases u with
    | ob m =>
      simp only
      split
      · rename_i e
        subst e
        constructor
        · intro e; injection e with e; exact .inr (.inl ⟨e.symm, rfl⟩)
        · rintro (⟨e, h1, _⟩ | ⟨e, _⟩ | ⟨j, _, e⟩)
          · injection e with e; exact absurd e.symm h1
          · rw [e]
          · cases e
      · rename_i e
        constructor
        · intro e'; injection e' with e'; subst e'
          exact .inl ⟨rfl, fun e' => (by injection e' with e'; exact e e'), fun j e' => (by cases e')⟩
        · rintro (⟨e', h1, _⟩ | ⟨_, e'⟩ | ⟨j, _, e'⟩)
          · exact e'
          · injection e' with e'; injection e' with e'; exact absurd e' e
          · cases e'
    | oo m q =>
      simp only
      split
      · rename_i e
        subst e
        constructor
        · intro e; injection e with e; exact .inr (.inr ⟨q, e.symm, rfl⟩)
        · rintro (⟨e, _, h1⟩ | ⟨_, e⟩ | ⟨j, e, e'⟩)
          · injection e with e; exact absurd e.symm (h1 q)
          · cases e
          · injection e' with e'; injection e' with _ e'; subst e'; rw [e]
      · rename_i e
        constructor
        · intro e'; injection e' with e'; subst e'
          exact .inl ⟨rfl, fun e' => (by cases e'), fun j e' => by injection e' with e'; exact e e'⟩
        · rintro (⟨e', _, h1⟩ | ⟨_, e'⟩ | ⟨j, _, e'⟩)
          · exact e'
          · cases e'
          · injection e' with e'; injection e' with e'; exact absurd e' e
    | _ =>
      constructor
      · intro e; injection e with e; subst e
        exact .inl ⟨rfl, by simp, by simp⟩
      · rintro (⟨e, _, _⟩ | ⟨_, e⟩ | ⟨j, _, e⟩)
        · exact e
        · cases e
        · cases e
theorem okIds_spec {t : Nat} : ∀ {k : AK} {j : Nat} {O : OL} {i : Nat}, okIds t k j O = true → j ≤ i → k.ownAt (i - j) = true → getO O (t * 64 + i) = .no ∨ getO O (t * 64 + i) = .gone
  | .own e _, j, O, i, h, h1, h2 => by
    simp [AK.ownAt] at h2
    have : i = j := by omega
    subst this
    simp only [okIds] at h
    split at h
    · rename_i h; exact .inl (by assumption)
    · rename_i h; exact .inr (by assumption)
    · cases h
  | .cons a b, j, O, i, h, h1, h2 => by
    simp only [okIds, Bool.and_eq_true] at h
    simp only [AK.ownAt] at h2
    split at h2
    · exact okIds_spec h.1 h1 h2
    · exact okIds_spec h.2 (by omega) (by rw [show i - (j + a.sz) = i - j - a.sz from by omega]; exact h2)
  | .one _, _, _, _, _, _, h => by simp [AK.ownAt] at h
  | .byte, _, _, _, _, _, h => by simp [AK.ownAt] at h
  | .ref, _, _, _, _, _, h => by simp [AK.ownAt] at h
  | .row _, _, _, _, _, _, h => by simp [AK.ownAt] at h
  | .brw _, _, _, _, _, _, h => by simp [AK.ownAt] at h
  | .nil, _, _, _, _, _, h => by simp [AK.ownAt] at h
theorem BoxOk.kill {t i : Nat} {b : BxE} (h : BoxOk X E W i b) (hp : PersK t E E') (hs : ∀ c, E'.w c = some (.lb i) ↔ E.w c = some (.lb i)) (hva : E.va i = false → E'.va i = false) : BoxOk X E' W i (killX t b) := by
  have nt : (∀ b, E.w b ≠ some (.lb i)) → ∀ b, E'.w b ≠ some (.lb i) := fun h b e => h b ((hs b).1 e)
  cases b with
  | no => exact ⟨nt h.1, hva h.2⟩
  | bx nm cells =>
    refine ⟨fun x => ⟨nt (h.1 x).1, hva (h.1 x).2⟩, fun x => ?_⟩
    obtain ⟨h1, h2, h3, vs, t', h4, h5⟩ := h.2 x
    obtain ⟨h6, h7⟩ := hp.bx i h1
    refine ⟨h6, fun b => by rw [hs b, h2, h7], fun n hn => by rw [h7]; exact h3 n hn, vs, t', ?_, h5.kill hp⟩
    rw [h7]; exact h4
  | closed n k =>
    obtain ⟨h1, h2, h3⟩ := h
    obtain ⟨h6, h7⟩ := hp.bx i h1
    exact ⟨h6, by rw [h7]; exact h2, nt h3⟩
theorem OwnOk.keepK {t k : Nat} {b : OwE} (h : OwnOk E W k b) (hp : PersK t E E') (hs : ∀ c, E'.w c = some (.lo k) ↔ E.w c = some (.lo k)) (hvo : E'.vo k = E.vo k) (hh : E'.hdr k = E.hdr k) : OwnOk E' W k b := by
  have nt : (∀ b, E.w b ≠ some (.lo k)) → ∀ b, E'.w b ≠ some (.lo k) := fun h b e => h b ((hs b).1 e)
  cases b with
  | no => exact ⟨nt h.1, by rw [hvo]; exact h.2⟩
  | own e t xs =>
    obtain ⟨h1, g, h0, h2⟩ := h
    exact ⟨by rw [hvo]; exact h1, g, h0, by rw [hh]; exact h2.keep g hp.imm (fun _ _ => rfl) fun b => hs b⟩
  | frz e xs =>
    obtain ⟨h1, g, h0, h2, h3⟩ := h
    exact ⟨by rw [hvo]; exact h1, g, h0, by rw [hh]; exact h2.imm hp.imm h0 fun _ _ hd => hd.imm hp.imm g, nt h3⟩
  | gone => exact ⟨by rw [hvo]; exact h.1, nt h.2⟩
theorem opn_rel {s : St} {l : Fr} {t n : Nat} {k : AK} {x : k.T} (hs : SRel W0 w0 s l W) (hok : okIds t k 0 s.O = true) (hg : k.good = true) (hsz : k.sz ≤ 32) (hb : getB s.B t = .no ∨ ∃ k', getB s.B t = .closed n k') (hx : s.H n = some ⟨k, x⟩) (hv : getL l t = .pointer (some ⟨n, 0, none⟩)) :
    SRel W0 w0 (opnS t k n x s) l W := by
  obtain ⟨E, hm, hf⟩ := hs
  have hob := hm.ob n
  rw [hx] at hob
  obtain ⟨hob1, hob2, vs, ty, hblk, hcel⟩ := hob.dat hg
  obtain ⟨hd, hown, hreps⟩ := cel_split hg hcel
  have hbt := hm.bx t
  have nlb : ∀ b, E.w b ≠ some (.lb t) := by
    rcases hb with h | ⟨k', h⟩ <;> rw [h] at hbt
    · exact hbt.1
    · exact hbt.2.2
  have hblkt : E.va t = true → E.blk t = n := fun hva => by
    rcases hb with h | ⟨k', h⟩ <;> rw [h] at hbt
    · rw [hbt.2] at hva; cases hva
    · exact hbt.2.1
  let isO : Nat → Bool := fun q => decide (t * 64 ≤ q) && k.ownAt (q - t * 64)
  have isO_iff : ∀ q, isO q = true ↔ t * 64 ≤ q ∧ k.ownAt (q - t * 64) = true := fun q => by simp [isO]
  have isO_div : ∀ q, isO q = true → q / 64 = t := fun q hq => by
    obtain ⟨h1, h2⟩ := (isO_iff q).1 hq
    have := ownAt_lt h2
    omega
  have nlo : ∀ q, isO q = true → ∀ b, E.w b ≠ some (.lo q) := fun q hq => by
    obtain ⟨h1, h2⟩ := (isO_iff q).1 hq
    have h3 := okIds_spec hok (i := q - t * 64) (Nat.zero_le _) (by rw [Nat.sub_zero]; exact h2)
    rw [show t * 64 + (q - t * 64) = q from by omega] at h3
    have := hm.ow q
    rcases h3 with h3 | h3 <;> rw [h3] at this
    · exact this.1
    · exact this.2
  let E' : Env := ⟨opnW E.w t n, fun i => if i = t then n else E.blk i, fun q => if isO q then hd (q - t * 64) else E.hdr q, fun i => if i = t then true else E.va i, fun q => if isO q then true else E.vo q, E.base⟩
  have pk : PersK t E E' := ⟨fun b hb => opnW_none.2 hb, fun b hb => opnW_eq.2 (.inl ⟨hb, by simp, by simp⟩), fun i hi => by
    by_cases h : i = t
    · subst h
      exact ⟨if_pos rfl, by show (if i = i then n else _) = _; rw [if_pos rfl, hblkt hi]⟩
    · exact ⟨by show (if i = t then true else _) = true; rw [if_neg h]; exact hi, if_neg h⟩, fun q hq hvo => by
    have : isO q = false := by
      cases h : isO q with
      | false => rfl
      | true => exact absurd (isO_div q h) hq
    exact ⟨by show (if isO q = true then true else _) = true; rw [this]; exact hvo, by show (if isO q = true then _ else _) = _; rw [this]; rfl⟩, rfl⟩
  have lbS : ∀ i, i ≠ t → ∀ c, E'.w c = some (.lb i) ↔ E.w c = some (.lb i) := fun i hi c => by
    show opnW E.w t n c = _ ↔ _
    rw [opnW_eq]
    exact ⟨fun h => by
      rcases h with h | ⟨h, _⟩ | ⟨j, h, _⟩
      · exact h.1
      · injection h with h; exact absurd h hi
      · (cases h), fun h => .inl ⟨h, by simp, by simp⟩⟩
  have loS : ∀ q, isO q = false → ∀ c, E'.w c = some (.lo q) ↔ E.w c = some (.lo q) := fun q hq c => by
    show opnW E.w t n c = _ ↔ _
    rw [opnW_eq]
    exact ⟨fun h => by
      rcases h with h | ⟨h, _⟩ | ⟨j, h, h'⟩
      · exact h.1
      · cases h
      · injection h with h
        have := hob2 c j h'
        have : isO q = true := (isO_iff q).2 ⟨by omega, by rw [h, Nat.add_sub_cancel_left]; exact this⟩
        rw [hq] at this; (cases this), fun h => .inl ⟨h, by simp, by simp⟩⟩
  have loT : ∀ q, isO q = true → ∀ c, E'.w c = some (.lo q) ↔ E.w c = some (.oo n (q - t * 64)) := fun q hq c => by
    obtain ⟨h1, h2⟩ := (isO_iff q).1 hq
    show opnW E.w t n c = _ ↔ _
    rw [opnW_eq]
    exact ⟨fun h => by
      rcases h with h | ⟨h, _⟩ | ⟨j, h, h'⟩
      · exact absurd h.1 (nlo q hq c)
      · cases h
      · injection h with h
        rw [h', h, Nat.add_sub_cancel_left], fun h => .inr (.inr ⟨q - t * 64, by congr 1; omega, h⟩)⟩
  have obS : ∀ u : Tag, (∀ i, u ≠ .lb i) → (∀ i, u ≠ .lo i) → u ≠ .ob n → (∀ j, u ≠ .oo n j) → Same E.w W E'.w W u u := fun u h1 h2 h3 h4 b => ⟨by
    show opnW E.w t n b = _ ↔ _
    rw [opnW_eq]
    exact ⟨fun h => by
      rcases h with h | ⟨h, _⟩ | ⟨j, h, _⟩
      · exact h.1
      · exact absurd h (h1 _)
      · exact absurd h (h2 _), fun h => .inl ⟨h, h3, h4⟩⟩, fun _ => rfl⟩
  refine ⟨E', ⟨fun b hb => opnW_none.2 (hm.wf b hb), ?_, fun i => ?_, fun q => ?_, fun m => ?_, fun b j => ⟨fun h => (hm.clean b j).1 ((obS _ (by simp) (by simp) (by simp) (by simp) b).1.1 h), fun h => (hm.clean b j).2 ((obS _ (by simp) (by simp) (by simp) (by simp) b).1.1 h)⟩, hm.ba⟩, ?_, fun i _ => ?_⟩
  · have hsn := hm.since
    exact ⟨hsn.os, hsn.tape, hsn.output, hsn.size, fun b hb h => ⟨opnW_none.2 (hsn.im b hb h).1, (hsn.im b hb h).2⟩, fun b h => ⟨pk.ex b (hsn.ext b h).1, (hsn.ext b h).2⟩, fun b h => hsn.noext b ((obS .ext (by simp) (by simp) (by simp) (by simp) b).1.1 h)⟩
  · show BoxOk _ E' W i (getB (setB (killB t s.B) t _) i)
    rw [getB_set]
    by_cases hi : t = i
    · subst hi
      rw [if_pos rfl]
      have hblkE : E'.blk t = n := if_pos rfl
      refine ⟨fun h => h.elim, fun _ => ⟨if_pos rfl, fun b => ?_, fun m hm' => by rw [hblkE]; injection hm', vs, ty, ?_, hreps E' W (t * 64) pk.imm fun q _ _ hq => ?_⟩⟩
      · rw [hblkE]
        show opnW E.w t n b = _ ↔ _
        rw [opnW_eq]
        constructor
        · rintro (h | ⟨_, h⟩ | ⟨j, h, _⟩)
          · exact absurd h.1 (nlb b)
          · exact (hob1 b).1 h
          · cases h
        · exact fun h => .inr (.inl ⟨rfl, (hob1 b).2 h⟩)
      · rw [hblkE]; exact hblk
      · rw [Nat.sub_zero] at hq
        have hO : isO (t * 64 + q) = true := (isO_iff _).2 ⟨by omega, by rw [Nat.add_sub_cancel_left]; exact hq⟩
        exact ⟨by show (if isO (t * 64 + q) = true then true else _) = true; rw [if_pos hO], by show (if isO (t * 64 + q) = true then _ else _) = _; rw [if_pos hO, Nat.add_sub_cancel_left]⟩
    · rw [if_neg hi, getB_kill]
      exact (hm.bx i).kill pk (lbS i (fun e => hi e.symm)) fun h => by show (if i = t then true else _) = false; rw [if_neg (fun e => hi e.symm)]; exact h
  · show OwnOk E' W q (getO (k.ownsM (t * 64) 0 x s.O) q)
    by_cases hq : isO q = true
    · obtain ⟨h1, h2⟩ := (isO_iff q).1 hq
      have h3 := ownsM_own (O := s.O) (n := q) (base := t * 64) (good_goodB hg) hown (by omega) (by rw [Nat.sub_zero]; exact h2)
      unfold OwnN at h3
      split at h3 <;> first | exact h3.elim | skip
      rename_i e t' xs heq
      obtain ⟨g1, g2, g3⟩ := h3
      rw [heq]
      have hhd : E'.hdr q = hd (q - t * 64) := if_pos hq
      refine ⟨if_pos hq, g1, g2, ?_⟩
      rw [hhd]
      exact g3.keep g1 pk.imm (fun _ _ => rfl) fun b => loT q hq b
    · have hq : isO q = false := by simpa using hq
      rw [ownsM_other]
      · exact (hm.ow q).keepK pk (loS q hq) (by show (if isO q = true then true else _) = _; rw [hq]; rfl) (by show (if isO q = true then _ else _) = _; rw [hq]; rfl)
      · rintro ⟨h1, h2⟩
        rw [Nat.sub_zero] at h2
        rw [(isO_iff q).2 ⟨by omega, h2⟩] at hq; cases hq
  · show ObjOk E'.w W m (if m = n then none else s.H m)
    by_cases hmn : m = n
    · subst hmn
      rw [if_pos rfl]
      intro b
      constructor
      · intro h
        rcases opnW_eq.1 h with ⟨_, h, _⟩ | ⟨h, _⟩ | ⟨j, h, _⟩
        · exact h rfl
        · cases h
        · cases h
      · intro j h
        rcases opnW_eq.1 h with ⟨_, _, h⟩ | ⟨h, _⟩ | ⟨j, h, _⟩
        · exact h j rfl
        · cases h
        · cases h
    · rw [if_neg hmn]
      exact (hm.ob m).keep pk.imm (obS _ (by simp) (by simp) (fun e => by injection e with e; exact hmn e) (by simp)) fun j => obS _ (by simp) (by simp) (by simp) fun j' e => by injection e with e; exact hmn e
  · show (setA (s.f.map (killV t)) t _).length = _
    rw [setA_len]; exact hf.1
  · show VRep E' W (getA (setA (s.f.map (killV t)) t (.v (.bx t 0))) i) (getL l i)
    rw [getA_set]
    split
    · rename_i h
      rw [← h.1]
      exact ⟨if_pos rfl, by rw [hv]; show _ = Value.pointer (some ⟨(if t = t then n else _), 0, none⟩); rw [if_pos rfl]⟩
    · rw [getA_kill]
      exact (hf.2 i id).kill pk
theorem opn_sound {s : St} {l : Fr} {t : Nat} {k : AK} {K : St → Prop} (hs : SRel W0 w0 s l W) (h : aGh1 (.opn t k) s K) : ∃ s', K s' ∧ SRel W0 w0 s' l W := by
  unfold aGh1 at h
  simp only at h
  split at h <;> first | exact h.elim | skip
  rename_i hc
  simp only [Bool.and_eq_true, decide_eq_true_eq] at hc
  obtain ⟨⟨c1, c2⟩, c3⟩ := hc
  obtain ⟨E, hm, hf⟩ := hs
  have hv := res_rep hm (hf.2 t id)
  have fin : ∀ {n : Nat}, getL l t = .pointer (some ⟨n, 0, none⟩) → opnN (getB s.B t) n (ldO k n s.H fun x => K (opnS t k n x s)) → ∃ s', K s' ∧ SRel W0 w0 s' l W := fun {n} hp h => by
    unfold opnN at h
    split at h <;> first | exact h.elim | skip
    · rename_i hb
      obtain ⟨x, h1, h2⟩ := h
      exact ⟨_, h2, opn_rel ⟨E, hm, hf⟩ c1 c2 c3 (.inl hb) h1 hp⟩
    · rename_i m k' hb
      obtain ⟨e, x, h1, h2⟩ := h
      subst e
      exact ⟨_, h2, opn_rel ⟨E, hm, hf⟩ c1 c2 c3 (.inr ⟨k', hb⟩) h1 hp⟩
  split at h <;> first | exact h.elim | skip
  · rename_i r hr
    rw [hr] at hv
    obtain ⟨n, rfl, h⟩ := h
    exact fin hv h
  · rename_i n k' hr
    rw [hr] at hv
    exact fin hv h
end
end Go.Ga
set_option linter.unusedSimpArgs false
set_option linter.unusedVariables false
namespace Go.Ga
open Go Go.Gp
section
variable {W0 : World} {w0 : Mk} {X : Nat → Prop} {E E' : Env} {B : BL} {O : OL} {H : HP} {W : World}
theorem VRep0.pub {k : Nat} {sl : Sl} (hp : Pers E W E' W) (hs : sl = E.hdr k) {a : AV0} {v : Value} (hv : VRep0 E W a v) : VRep0 E' W (pubI k sl a) v := by
  cases a with
  | own q =>
    show VRep0 E' W (if q = k then .c .sl sl else .own q) v
    split
    · rename_i e; subst e; subst hs; obtain ⟨_, rfl⟩ := hv; exact ⟨rfl, rfl⟩
    · exact hv.pers hp
  | part q n off len =>
    show VRep0 E' W (if q = k then .dead else .part q n off len) v
    split
    · trivial
    · exact hv.pers hp
  | elp q n i j =>
    show VRep0 E' W (if q = k then .dead else .elp q n i j) v
    split
    · trivial
    · exact hv.pers hp
  | _ => exact hv.pers hp
theorem VReps.pub {k : Nat} {sl : Sl} (hp : Pers E W E' W) (hs : sl = E.hdr k) : ∀ {l : List AV0} {vs : List Value}, VReps E W l vs → VReps E' W (l.map (pubI k sl)) vs
  | [], [], _ => trivial
  | _ :: _, _ :: _, hv => ⟨hv.1.pub hp hs, VReps.pub hp hs hv.2⟩
  | [], _ :: _, hv => hv.elim
  | _ :: _, [], hv => hv.elim
theorem VRepcs.pub {k : Nat} {sl : Sl} (hp : Pers E W E' W) (hs : sl = E.hdr k) : ∀ {l : List AVc} {vs : List Value}, VRepcs E W l vs → VRepcs E' W (l.map (pubC k sl)) vs
  | [], [], _ => trivial
  | .s a :: _, _ :: _, hv => ⟨VRep0.pub hp hs hv.1, VRepcs.pub hp hs hv.2⟩
  | .g l :: _, _ :: _, hv => ⟨by obtain ⟨vs, e, hv⟩ := hv.1; exact ⟨vs, e, hv.pub hp hs⟩, VRepcs.pub hp hs hv.2⟩
  | [], _ :: _, hv => hv.elim
  | _ :: _, [], hv => hv.elim
theorem VRep.pub {k : Nat} {sl : Sl} (hp : Pers E W E' W) (hs : sl = E.hdr k) {a : AV} {v : Value} (hv : VRep E W a v) : VRep E' W (pubV k sl a) v := by
  cases a with
  | v a => exact VRep0.pub hp hs hv
  | agg l => obtain ⟨vs, e, hv⟩ := hv; exact ⟨vs, e, hv.pub hp hs⟩
  | tup l => obtain ⟨vs, e, hv⟩ := hv; exact ⟨vs, e, hv.pub hp hs⟩
def pubX (k : Nat) (sl : Sl) : BxE → BxE
  | .bx nm cs => .bx nm (cs.map (pubI k sl))
  | b => b
theorem getB_pub (k : Nat) (sl : Sl) : ∀ (B : BL) (i : Nat), getB (pubB k sl B) i = pubX k sl (getB B i)
  | [], i => rfl
  | (j, b) :: r, i => by
    cases b <;> simp only [pubB, getB] <;> split <;> first | rfl | exact getB_pub k sl r i
theorem getA_pub (k : Nat) (sl : Sl) : ∀ (f : FA) (i : Nat), getA (f.map (pubV k sl)) i = pubV k sl (getA f i) := fun f i => by
  by_cases h : i < f.length
  · rw [getA_in h, getA_in (f := f.map (pubV k sl)) h]; rfl
  · rw [getA_out f (Nat.le_of_not_lt h), getA_out (f.map (pubV k sl)) (Nat.le_of_not_lt h)]; rfl
theorem nbB_of {g : Nat → BxE} {sl : Sl} {A : Prop} (hb : ∀ i n cs, g i = .bx (some n) cs → ∀ a, sl.a = some a → a.block ≠ n) : ∀ {B : BL}, nbB g sl A B → A
  | [], h => h
  | (i, _) :: r, h => by
    unfold nbB at h
    split at h
    · rename_i n cs he
      exact nbB_of hb (B := r) (h (hb i n cs he))
    · exact nbB_of hb (B := r) h
theorem pub_sound {s : St} {l : Fr} {k : Nat} {K : St → Prop} (hs : SRel W0 w0 s l W) (h : aGh1 (.pub k) s K) : ∃ s', K s' ∧ SRel W0 w0 s' l W := by
  unfold aGh1 at h
  simp only at h
  split at h <;> first | exact h.elim | skip
  rename_i e t xs ho
  obtain ⟨E, hm, hf⟩ := hs
  have hk := hm.ow k
  rw [ho] at hk
  obtain ⟨hvo, hg, h0, hown⟩ := hk
  obtain ⟨css, r1, r2, r3⟩ := hown.row
  have hcap := r3.cap
  have hbig := OwnS.bigs r3
  have frame : ∀ {E' : Env}, Pers E W E' W → FRel E' W (fun _ => False) (s.f.map (pubV k (E.hdr k))) l := fun hp => ⟨hf.1, fun t ht => by rw [getA_pub]; exact (hf.2 t ht).pub hp rfl⟩
  have box : ∀ {E' : Env}, Pers E W E' W → (∀ i, Same E.w W E'.w W (.lb i) (.lb i)) → (∀ i, E'.va i = E.va i) → ∀ i, BoxOk (fun _ => False) E' W i (getB (pubB k (E.hdr k) s.B) i) := fun {E'} hp hsm hva i => by
    rw [getB_pub]
    have hb := hm.bx i
    have hb' := hb.keep hp (hsm i) (fun h => by rw [hva]; exact h)
    cases hbe : getB s.B i with
    | no => rw [hbe] at hb'; exact hb'
    | closed n k => rw [hbe] at hb'; exact hb'
    | bx nm cs =>
      rw [hbe] at hb hb'
      obtain ⟨_, _, _, vs, ty, h4, h5⟩ := hb.2 id
      obtain ⟨h1, h2, h3, vs', ty', h6, _⟩ := hb'.2 id
      refine ⟨fun x => x.elim, fun _ => ⟨h1, h2, h3, vs, ty, ?_, h5.pub hp rfl⟩⟩
      rw [(hp.bx i (hb.2 id).1).2]; exact h4
  rcases r3.2 with ⟨hv0, hfl⟩ | ⟨g, cap, cur, hv, hB, hgg, rest⟩
  · -- nil
    have hhd : E.hdr k = ⟨none, 0, 0⟩ := by
      injection hv0 with e1 e2 e3
      cases hh : E.hdr k; rw [hh] at e1 e2 e3; simp only at e1 e2 e3; subst e1; subst e2; subst e3; rfl
    have hxs : xs = [] := List.eq_nil_of_length_eq_zero (by rw [← hown.len, hhd])
    have hno : ∀ b, E.w b ≠ some (.lo k) := fun b hb => by
      have := (hown.tag b).1 hb
      rw [hhd] at this; simp [sblk] at this
    refine ⟨_, nbB_of (fun i n cs _ a ha => by rw [hhd] at ha; cases ha) (h (E.hdr k) s.H ⟨hown.len, hcap, hbig, .inl ⟨hhd, hxs, rfl⟩⟩), E, ⟨hm.wf, hm.since, box (Pers.refl _ _) (fun i b => ⟨Iff.rfl, fun _ => rfl⟩) (fun _ => rfl), fun q => ?_, hm.ob, hm.clean, hm.ba⟩, frame (Pers.refl _ _)⟩
    show OwnOk E W q (getO (setO s.O k .gone) q)
    rw [getO_set]
    by_cases hq : k = q
    · subst hq; rw [if_pos rfl]; exact ⟨hvo, hno⟩
    · rw [if_neg hq]; exact hm.ow q
  · have hat : (E.hdr k).a = some ⟨g, 0, none⟩ := by injection hv
    have htag : ∀ b, E.w b = some (.lo k) ↔ b = g := fun b => by rw [hown.tag b]; simp [sblk, hat]
    have hHg : s.H g = none := by
      cases hH : s.H g with
      | none => rfl
      | some o =>
        have := hm.ob g
        rw [hH] at this
        have h1 := (this.tag g).2 rfl
        rw [(htag g).2 rfl] at h1
        cases h1
    have hob := hm.ob g
    rw [hHg] at hob
    let E' : Env := { E with w := fun b => if b = g then some (.ob g) else E.w b }
    have w'ne : ∀ b, b ≠ g → E'.w b = E.w b := fun b hb => if_neg hb
    have w'g : E'.w g = some (.ob g) := if_pos rfl
    have same : ∀ u : Tag, u ≠ .lo k → u ≠ .ob g → Same E.w W E'.w W u u := fun u h1 h2 b => ⟨by
      by_cases hb : b = g
      · subst hb
        rw [w'g, (htag b).2 rfl]
        exact ⟨fun e => by injection e with e; exact absurd e.symm h2, fun e => by injection e with e; exact absurd e.symm h1⟩
      · rw [w'ne b hb], fun _ => rfl⟩
    have none' : ∀ b, E.w b = none → E'.w b = none := fun b hb => by
      rw [w'ne b (fun e => by rw [(htag b).2 e] at hb; cases hb)]; exact hb
    have pk : Pers E W E' W := ⟨fun b hb _ => ⟨none' b hb, SameC.of rfl⟩, fun b hb => ⟨((same .ext (by simp) (by simp) b).1).2 hb, rfl⟩, fun i hi => ⟨hi, rfl⟩, fun i hi => ⟨hi, rfl⟩, rfl⟩
    have hnb : ∀ i n cs, getB s.B i = .bx (some n) cs → ∀ a, (E.hdr k).a = some a → a.block ≠ n := fun i n cs hi a ha he => by
      have hb := hm.bx i
      rw [hi] at hb
      obtain ⟨_, h2, h3, _⟩ := hb.2 id
      rw [hat] at ha
      injection ha with ha
      subst ha
      have h4 := (h2 n).2 (h3 n rfl).symm
      have h5 : E.w g = some (.lo k) := (htag g).2 rfl
      have he : g = n := he
      rw [he, h4] at h5
      cases h5
    refine ⟨_, nbB_of hnb (h (E.hdr k) (s.H.set g (.arr e t) (E.hdr k, xs)) ⟨hown.len, hcap, hbig, .inr ⟨g, hat, hHg, rfl⟩⟩), E', ⟨fun b hb => none' b (hm.wf b hb), ?_, box pk (fun i => same _ (by simp) (by simp)) (fun _ => rfl), fun q => ?_, fun n => ?_, fun b j => ⟨fun h => (hm.clean b j).1 ((same _ (by simp) (by simp) b).1.1 h), fun h => (hm.clean b j).2 ((same _ (by simp) (by simp) b).1.1 h)⟩, hm.ba⟩, frame pk⟩
    · have hsn := hm.since
      exact ⟨hsn.os, hsn.tape, hsn.output, hsn.size, fun b hb h => ⟨none' b (hsn.im b hb h).1, (hsn.im b hb h).2⟩, fun b h => ⟨(pk.ex b (hsn.ext b h).1).1, (hsn.ext b h).2⟩, fun b h => hsn.noext b ((same .ext (by simp) (by simp) b).1.1 h)⟩
    · show OwnOk E' W q (getO (setO s.O k .gone) q)
      rw [getO_set]
      by_cases hq : k = q
      · subst hq
        rw [if_pos rfl]
        refine ⟨hvo, fun b hb => ?_⟩
        by_cases hbg : b = g
        · rw [hbg, w'g] at hb; cases hb
        · rw [w'ne b hbg, htag] at hb; exact hbg hb
      · rw [if_neg hq]
        exact (hm.ow q).keep pk (same _ (fun e => by injection e with e; exact hq e.symm) (by simp)) id
    · show ObjOk E'.w W n (if n = g then some ⟨.arr e t, (E.hdr k, xs)⟩ else s.H n)
      by_cases hn : n = g
      · rw [if_pos hn]
        subst hn
        refine .inr (.inl ⟨e, t, E.hdr k, xs, rfl, hg, h0, hat, hown.keep hg pk.im (fun _ _ => rfl) fun b => ?_, fun b j hb => ?_⟩)
        · show E'.w b = _ ↔ E.w b = _
          by_cases hb : b = n
          · subst hb; rw [w'g, (htag b).2 rfl]; simp
          · rw [w'ne b hb, htag]
            exact ⟨fun h => absurd h (hob b).1, fun h => absurd h hb⟩
        · by_cases hbn : b = n
          · subst hbn; rw [w'g] at hb; cases hb
          · rw [w'ne b hbn] at hb; exact (hob b).2 j hb
      · rw [if_neg hn]
        exact (hm.ob n).keep pk.im (same _ (by simp) (fun e => by injection e with e; exact hn e)) fun j => same _ (by simp) (by simp)
theorem chk_sound {s : St} {l : Fr} {t : Nat} {K : St → Prop} (hs : SRel W0 w0 s l W) (h : aGh1 (.chk t) s K) : ∃ s', K s' ∧ SRel W0 w0 s' l W := by
  unfold aGh1 at h
  simp only at h
  split at h <;> first | exact h.elim | skip
  rename_i r hr
  obtain ⟨n, rfl, hk⟩ := h
  obtain ⟨E, hm, hf⟩ := hs
  have hv := res_rep hm (hf.2 t id)
  rw [hr] at hv
  refine ⟨_, hk, E, hm, by show (setA _ _ _).length = _; rw [setA_len]; exact hf.1, fun q hq => ?_⟩
  show VRep E W (getA (setA s.f t _) q) _
  rw [getA_set]
  split
  · rename_i hc; obtain ⟨rfl, _⟩ := hc; exact hv
  · exact hf.2 q hq
theorem tak_core {k : Nat} {e : AK} {ty : Nat} {sl : Sl} {xs : List e.T} {H' : HP} (hm : RelM W0 w0 (fun _ => False) E B O H W) (hno : getO O k = .no) (hg : e.good = true) (h0 : e.sz ≠ 0) (hT : TakR e ty sl H xs H') :
    ∃ E', RelM W0 w0 (fun _ => False) E' B (setO O k (.own e ty xs)) H' W ∧ Pers E W E' W ∧ E'.vo k = true ∧ E'.hdr k = sl := by
  have hid := hm.ow k
  rw [hno] at hid
  rcases hT with ⟨rfl, rfl, rfl⟩ | ⟨n, hat, hH, rfl⟩
  · let E' : Env := { E with hdr := fun q => if q = k then ⟨none, 0, 0⟩ else E.hdr q, vo := fun q => if q = k then true else E.vo q }
    have pk : Pers E W E' W := ⟨fun b hb _ => ⟨hb, SameC.of rfl⟩, fun b hb => ⟨hb, rfl⟩, fun i hi => ⟨hi, rfl⟩, fun i hi => by
      have : i ≠ k := fun e => by subst e; rw [hid.2] at hi; cases hi
      exact ⟨by show (if i = _ then true else _) = true; rw [if_neg this]; exact hi, if_neg this⟩, rfl⟩
    have same : ∀ u : Tag, Same E.w W E'.w W u u := fun u b => ⟨Iff.rfl, fun _ => rfl⟩
    refine ⟨E', ⟨hm.wf, hm.since, fun i => (hm.bx i).keep pk (same _) id, fun q => ?_, fun n => (hm.ob n).keep pk.im (same _) fun j => same _, hm.clean, hm.ba⟩, pk, if_pos rfl, if_pos rfl⟩
    show OwnOk E' W q (getO (setO O k _) q)
    rw [getO_set]
    by_cases hq : k = q
    · subst hq
      rw [if_pos rfl]
      refine ⟨if_pos rfl, hg, h0, ?_⟩
      show OwnIs _ _ _ _ _ (if _ then _ else _) _
      rw [if_pos rfl]
      exact OwnIs.nil _ _ _ _ _ hid.1
    · rw [if_neg hq]
      exact (hm.ow q).keep pk (same _) fun h => by show (if q = _ then true else _) = false; rw [if_neg (fun e => hq e.symm)]; exact h
  · have hob := hm.ob n
    rw [hH] at hob
    have ha := hob.arr
    have htag := hob.tag
    let E' : Env := { E with w := fun b => if b = n then some (.lo k) else E.w b, hdr := fun q => if q = k then sl else E.hdr q, vo := fun q => if q = k then true else E.vo q }
    have w'ne : ∀ b, b ≠ n → E'.w b = E.w b := fun b hb => if_neg hb
    have w'n : E'.w n = some (.lo k) := if_pos rfl
    have same : ∀ u : Tag, u ≠ .lo k → u ≠ .ob n → Same E.w W E'.w W u u := fun u h1 h2 b => ⟨by
      by_cases hb : b = n
      · subst hb
        rw [w'n, (htag b).2 rfl]
        exact ⟨fun e => by injection e with e; exact absurd e.symm h1, fun e => by injection e with e; exact absurd e.symm h2⟩
      · rw [w'ne b hb], fun _ => rfl⟩
    have none' : ∀ b, E.w b = none → E'.w b = none := fun b hb => by
      rw [w'ne b (fun e => by rw [(htag b).2 e] at hb; cases hb)]; exact hb
    have pk : Pers E W E' W := ⟨fun b hb _ => ⟨none' b hb, SameC.of rfl⟩, fun b hb => ⟨((same .ext (by simp) (by simp) b).1).2 hb, rfl⟩, fun i hi => ⟨hi, rfl⟩, fun i hi => by
      have : i ≠ k := fun e => by subst e; rw [hid.2] at hi; cases hi
      exact ⟨by show (if i = _ then true else _) = true; rw [if_neg this]; exact hi, if_neg this⟩, rfl⟩
    refine ⟨E', ⟨fun b hb => none' b (hm.wf b hb), ?_, fun i => (hm.bx i).keep pk (same _ (by simp) (by simp)) id, fun q => ?_, fun m => ?_, fun b j => ⟨fun h => (hm.clean b j).1 ((same _ (by simp) (by simp) b).1.1 h), fun h => (hm.clean b j).2 ((same _ (by simp) (by simp) b).1.1 h)⟩, hm.ba⟩, pk, if_pos rfl, if_pos rfl⟩
    · have hsn := hm.since
      exact ⟨hsn.os, hsn.tape, hsn.output, hsn.size, fun b hb h => ⟨none' b (hsn.im b hb h).1, (hsn.im b hb h).2⟩, fun b h => ⟨(pk.ex b (hsn.ext b h).1).1, (hsn.ext b h).2⟩, fun b h => hsn.noext b ((same .ext (by simp) (by simp) b).1.1 h)⟩
    · show OwnOk E' W q (getO (setO O k _) q)
      rw [getO_set]
      by_cases hq : k = q
      · subst hq
        rw [if_pos rfl]
        refine ⟨if_pos rfl, hg, h0, ?_⟩
        show OwnIs _ _ _ _ _ (if _ then _ else _) _
        rw [if_pos rfl]
        refine ha.own.keep hg pk.im (fun _ _ => rfl) fun b => ?_
        show E'.w b = _ ↔ E.w b = _
        by_cases hb : b = n
        · subst hb; rw [w'n, (htag b).2 rfl]; simp
        · rw [w'ne b hb, htag]
          exact ⟨fun h => absurd h (hid.1 b), fun h => absurd h hb⟩
      · rw [if_neg hq]
        exact (hm.ow q).keep pk (same _ (fun e => by injection e with e; exact hq e.symm) (by simp)) fun h => by show (if q = _ then true else _) = false; rw [if_neg (fun e => hq e.symm)]; exact h
    · show ObjOk E'.w W m (if m = n then none else H m)
      by_cases hmn : m = n
      · rw [if_pos hmn]
        subst hmn
        refine fun b => ⟨fun hb => ?_, fun j hb => ?_⟩
        · by_cases hbn : b = m
          · subst hbn; rw [w'n] at hb; cases hb
          · rw [w'ne b hbn, htag] at hb; exact hbn hb
        · by_cases hbn : b = m
          · subst hbn; rw [w'n] at hb; cases hb
          · rw [w'ne b hbn] at hb; exact ha.noo b j hb
      · rw [if_neg hmn]
        exact (hm.ob m).keep pk.im (same _ (by simp) (fun e => by injection e with e; exact hmn e)) fun j => same _ (by simp) (by simp)
theorem tak_sound {s : St} {l : Fr} {t : Nat} {e : AK} {ty : Nat} {K : St → Prop} (hs : SRel W0 w0 s l W) (h : aGh1 (.tak t e ty) s K) : ∃ s', K s' ∧ SRel W0 w0 s' l W := by
  unfold aGh1 at h
  simp only at h
  split at h <;> first | exact h.elim | skip
  rename_i sl hav hno hgr
  obtain ⟨hg, h0⟩ := good_row hgr
  obtain ⟨E, hm, hf⟩ := hs
  have hv := res_rep hm (hf.2 t id)
  rw [hav] at hv
  have hv : getL l t = sl.val := hv.1
  obtain ⟨xs, H', hT, hk⟩ := h
  obtain ⟨E', h1, h2, h3, h4⟩ := tak_core hm hno hg h0 hT
  refine ⟨_, hk, E', h1, by show (setA _ _ _).length = _; rw [setA_len]; exact hf.1, fun q hq => ?_⟩
  show VRep E' W (getA (setA s.f t _) q) _
  rw [getA_set]
  split
  · rename_i hc; obtain ⟨rfl, _⟩ := hc; exact ⟨h3, by rw [h4]; exact hv⟩
  · exact (hf.2 q hq).pers h2
theorem ctk_sound {s : St} {l : Fr} {i j : Nat} {e : AK} {ty : Nat} {K : St → Prop} (hs : SRel W0 w0 s l W) (h : aGh1 (.ctk i j e ty) s K) : ∃ s', K s' ∧ SRel W0 w0 s' l W := by
  unfold aGh1 at h
  simp only at h
  split at h <;> first | exact h.elim | skip
  rename_i nm cs hb
  split at h <;> first | exact h.elim | skip
  rename_i sl hj hno hgr
  obtain ⟨hg, h0⟩ := good_row hgr
  obtain ⟨E, hm, hf⟩ := hs
  obtain ⟨xs, H', hT, hk⟩ := h
  obtain ⟨E', h1, h2, h3, h4⟩ := tak_core hm hno hg h0 hT
  have hfr : FRel E' W (fun _ => False) s.f l := ⟨hf.1, fun q hq => (hf.2 q hq).pers h2⟩
  refine ⟨_, hk, E', ⟨h1.wf, h1.since, fun q => ?_, h1.ow, h1.ob, h1.clean, h1.ba⟩, hfr⟩
  show BoxOk _ E' W q (getB (setB s.B i _) q)
  rw [getB_set]
  by_cases hq : i = q
  · subst hq
    rw [if_pos rfl]
    have hbx := h1.bx i
    rw [hb] at hbx
    obtain ⟨a1, a2, a3, vs, t, a4, a5⟩ := hbx.2 id
    obtain ⟨v, hv, hr⟩ := a5.get hj
    have hr : v = sl.val := hr.1
    refine ⟨fun x => x.elim, fun _ => ⟨a1, a2, a3, vs, t, a4, ?_⟩⟩
    have := a5.set j (a := .own (i * 64 + j)) (v := v) ⟨h3, by rw [h4]; exact hr⟩
    rwa [set_self hv] at this
  · rw [if_neg hq]; exact h1.bx q
end
end Go.Ga
set_option linter.unusedSimpArgs false
set_option linter.unusedVariables false
namespace Go.Ga
open Go Go.Gp
section
variable {W0 : World} {w0 : Mk} {X : Nat → Prop} {E E' : Env} {B : BL} {O : OL} {H : HP} {W : World}
def clsW (w : Mk) (i n : Nat) (c : Nat → Option Nat) : Mk := fun b => match w b with
  | some (.lb q) => if q = i then some (.ob n) else some (.lb q)
  | some (.lo q) => (match c q with | some j => some (.oo n j) | none => some (.lo q))
  | τ => τ
theorem clsW_none {w : Mk} {i n b : Nat} {c : Nat → Option Nat} : clsW w i n c b = none ↔ w b = none := by
  unfold clsW
  cases h : w b with
  | none => simp
  | some τ =>
    cases τ with
    | lb q => simp only; split <;> simp
    | lo q => simp only; split <;> simp
    | _ => simp
theorem clsW_eq {w : Mk} {i n b : Nat} {c : Nat → Option Nat} {τ : Tag} : clsW w i n c b = some τ ↔ (w b = some τ ∧ τ ≠ .lb i ∧ ∀ q, τ = .lo q → c q = none) ∨ (τ = .ob n ∧ w b = some (.lb i)) ∨ ∃ q j, τ = .oo n j ∧ w b = some (.lo q) ∧ c q = some j := by
  unfold clsW
  cases h : w b with
  | none => simp
  | some u =>
    cases u with
    | lb q =>
      simp only
      split
      · rename_i e
        subst e
        constructor
        · intro e; injection e with e; exact .inr (.inl ⟨e.symm, rfl⟩)
        · rintro (⟨e, h1, _⟩ | ⟨e, _⟩ | ⟨_, j, _, e, _⟩)
          · injection e with e; exact absurd e.symm h1
          · rw [e]
          · cases e
      · rename_i e
        constructor
        · intro e'; injection e' with e'; subst e'
          exact .inl ⟨rfl, fun e' => (by injection e' with e'; exact e e'), fun j e' => (by cases e')⟩
        · rintro (⟨e', h1, _⟩ | ⟨_, e'⟩ | ⟨_, j, _, e', _⟩)
          · exact e'
          · injection e' with e'; injection e' with e'; exact absurd e' e
          · cases e'
    | lo q =>
      simp only
      split
      · rename_i j hc
        constructor
        · intro e; injection e with e; exact .inr (.inr ⟨q, j, e.symm, rfl, hc⟩)
        · rintro (⟨e, _, h1⟩ | ⟨_, e⟩ | ⟨q', j', e, e', hc'⟩)
          · injection e with e; have := h1 q e.symm; rw [hc] at this; cases this
          · cases e
          · injection e' with e'; injection e' with e'; subst e'; rw [hc] at hc'; injection hc' with hc'; subst hc'; rw [e]
      · rename_i hc
        constructor
        · intro e'; injection e' with e'; subst e'
          exact .inl ⟨rfl, fun e' => (by cases e'), fun j e' => (by injection e' with e'; subst e'; exact hc)⟩
        · rintro (⟨e', _, h1⟩ | ⟨_, e'⟩ | ⟨q', j', _, e', hc'⟩)
          · exact e'
          · cases e'
          · injection e' with e'; injection e' with e'; subst e'; rw [hc] at hc'; cases hc'
    | _ =>
      constructor
      · intro e; injection e with e; subst e
        exact .inl ⟨rfl, by simp, by simp⟩
      · rintro (⟨e, _, _⟩ | ⟨_, e⟩ | ⟨_, j, _, e, _⟩)
        · exact e
        · cases e
        · cases e
theorem cls_rel {s : St} {l : Fr} {i : Nat} {nm : Option Nat} {cs : List AV0} {k : AK} {Kr : k.T → List AV0 → OL → Prop} (hs : SRel W0 w0 s l W) (hb : getB s.B i = .bx nm cs) (hg : k.good = true) (h : movL s.O k (cs.map (resA (getB s.B))) Kr) :
    ∃ n x rest O', Kr x rest O' ∧ s.H n = none ∧ (∀ m, nm = some m → m = n) ∧ (rest = [] → SRel W0 w0 ⟨s.f, setB s.B i (.closed n k), O', s.H.set n k x⟩ l W) := by
  obtain ⟨E, hm, hf⟩ := hs
  have hbi := hm.bx i
  rw [hb] at hbi
  obtain ⟨hva, htag, hnm, vs, ty, hblk, hreps⟩ := hbi.2 id
  obtain ⟨x, rest, O', O2, c2, E2, ws, us, e1, hk, m2, p2, hh, l2, b2, hc, hr, _, o2⟩ := movL_sound (good_goodB hg) hm (handed_refl s.O) (j := 0) (fun q i hq => (by cases hq)) (res0_reps hm hreps) h
  have hbi2 := m2.bx i
  rw [hb] at hbi2
  obtain ⟨hva2, htag2, hnm2, _⟩ := hbi2.2 id
  have hHn : s.H (E2.blk i) = none := by
    cases hH : s.H (E2.blk i) with
    | none => rfl
    | some o =>
      have := m2.ob (E2.blk i)
      rw [hH] at this
      have h1 := (this.tag (E2.blk i)).2 rfl
      rw [(htag2 _).2 rfl] at h1
      cases h1
  refine ⟨E2.blk i, x, rest, O', hk, hHn, fun m hm' => (hnm2 m hm').symm, fun hrest => ?_⟩
  subst hrest
  have hus : us = [] := by cases us with | nil => rfl | cons _ _ => exact hr.elim
  subst hus
  rw [List.append_nil] at e1
  subst e1
  have hnob := m2.ob (E2.blk i)
  rw [hHn] at hnob
  let E' : Env := { E2 with w := clsW E2.w i (E2.blk i) c2 }
  have pk : Pers E2 W E' W := ⟨fun b hb _ => ⟨clsW_none.2 hb, SameC.of rfl⟩, fun b hb => ⟨clsW_eq.2 (.inl ⟨hb, by simp, by simp⟩), rfl⟩, fun i hi => ⟨hi, rfl⟩, fun i hi => ⟨hi, rfl⟩, rfl⟩
  have same : ∀ u : Tag, u ≠ .lb i → (∀ q, u = .lo q → c2 q = none) → u ≠ .ob (E2.blk i) → (∀ j, u ≠ .oo (E2.blk i) j) → Same E2.w W E'.w W u u := fun u h1 h2 h3 h4 b => ⟨by
    show clsW E2.w i (E2.blk i) c2 b = _ ↔ _
    rw [clsW_eq]
    exact ⟨fun h => by
      rcases h with h | ⟨h, _⟩ | ⟨q, j, h, _⟩
      · exact h.1
      · exact absurd h h3
      · exact absurd h (h4 _), fun h => .inl ⟨h, h1, h2⟩⟩, fun _ => rfl⟩
  refine ⟨E', ⟨fun b hb => clsW_none.2 (m2.wf b hb), ?_, fun q => ?_, fun q => ?_, fun m => ?_, fun b j => ⟨fun h => (m2.clean b j).1 ((same _ (by simp) (by simp) (by simp) (by simp) b).1.1 h), fun h => (m2.clean b j).2 ((same _ (by simp) (by simp) (by simp) (by simp) b).1.1 h)⟩, m2.ba⟩, (hf.pers p2).pers pk⟩
  · have hsn := m2.since
    exact ⟨hsn.os, hsn.tape, hsn.output, hsn.size, fun b hb h => ⟨clsW_none.2 (hsn.im b hb h).1, (hsn.im b hb h).2⟩, fun b h => ⟨(pk.ex b (hsn.ext b h).1).1, (hsn.ext b h).2⟩, fun b h => hsn.noext b ((same .ext (by simp) (by simp) (by simp) (by simp) b).1.1 h)⟩
  · show BoxOk _ E' W q (getB (setB s.B i _) q)
    rw [getB_set]
    by_cases hq : i = q
    · subst hq
      rw [if_pos rfl]
      refine ⟨hva2, rfl, fun b h => ?_⟩
      rcases clsW_eq.1 h with ⟨_, h, _⟩ | ⟨h, _⟩ | ⟨q, j, h, _⟩
      · exact h rfl
      · cases h
      · cases h
    · rw [if_neg hq]
      exact (m2.bx q).keep pk (same _ (fun e => by injection e with e; exact hq e.symm) (by simp) (by simp) (by simp)) id
  · show OwnOk E' W q (getO O' q)
    cases hcq : c2 q with
    | none =>
      rw [hh.same q hcq]
      exact (m2.ow q).keep pk (same _ (by simp) (fun q' e => by injection e with e; subst e; exact hcq) (by simp) (by simp)) id
    | some j =>
      rw [(hh.gone q j hcq).1]
      refine ⟨hh.vo m2 hcq, fun b h => ?_⟩
      rcases clsW_eq.1 h with ⟨_, _, h⟩ | ⟨h, _⟩ | ⟨q, j, h, _⟩
      · have := h q rfl; rw [hcq] at this; cases this
      · cases h
      · cases h
  · show ObjOk E'.w W m (if m = E2.blk i then some ⟨k, x⟩ else s.H m)
    by_cases hmn : m = E2.blk i
    · rw [if_pos hmn, hmn]
      refine .inl ⟨hg, fun b => ?_, fun b j h => ?_, vs, ty, ?_, hcel_tag m2 (fun b hb _ => ⟨clsW_none.2 hb, SameC.of rfl⟩) (fun b j => ?_) (fun _ _ _ => rfl) hg hc⟩
      · show clsW E2.w i (E2.blk i) c2 b = _ ↔ _
        rw [clsW_eq]
        constructor
        · rintro (h | ⟨_, h⟩ | ⟨q, j, h, _⟩)
          · exact absurd h.1 (hnob b).1
          · exact (htag2 b).1 h
          · cases h
        · exact fun h => .inr (.inl ⟨rfl, (htag2 b).2 h⟩)
      · rcases clsW_eq.1 h with ⟨h, _⟩ | ⟨h, _⟩ | ⟨q, j', h1, h2, h3⟩
        · exact absurd h ((hnob b).2 j)
        · cases h
        · injection h1 with _ h1
          subst h1
          rcases o2 q j h3 with h4 | ⟨_, h4⟩
          · cases h4
          · rwa [Nat.sub_zero] at h4
      · rw [(p2.bx i hva).2]; exact hblk
      · show clsW E2.w i (E2.blk i) c2 b = _ ↔ _
        rw [clsW_eq]
        constructor
        · rintro (h | ⟨h, _⟩ | ⟨q, j', h1, h2, h3⟩)
          · exact absurd h.1 ((hnob b).2 j)
          · cases h
          · injection h1 with _ h1; subst h1; exact ⟨q, h2, h3⟩
        · rintro ⟨q, h1, h2⟩
          exact .inr (.inr ⟨q, j, rfl, h1, h2⟩)
    · rw [if_neg hmn]
      exact (m2.ob m).keep pk.im (same _ (by simp) (by simp) (fun e => by injection e with e; exact hmn e) (by simp)) fun j => same _ (by simp) (by simp) (by simp) fun j' e => by injection e with e; exact hmn e
theorem cls_sound {s : St} {l : Fr} {i : Nat} {k : AK} {K : St → Prop} (hs : SRel W0 w0 s l W) (h : aGh1 (.cls i k) s K) : ∃ s', K s' ∧ SRel W0 w0 s' l W := by
  unfold aGh1 at h
  simp only at h
  split at h <;> first | exact h.elim | skip
  rename_i nm cs hb
  split at h <;> first | exact h.elim | skip
  rename_i hg
  obtain ⟨n, x, rest, O', hk, hn, hnm, hr⟩ := cls_rel hs hb hg h
  split at hk <;> first | exact hk.elim | skip
  split at hk
  · rename_i m
    have := hnm m rfl
    subst this
    exact ⟨_, hk, hr rfl⟩
  · exact ⟨_, hk n hn, hr rfl⟩
theorem aGh_sound : ∀ {g : List Gh} {s : St} {l : Fr} {K : St → Prop}, SRel W0 w0 s l W → aGh K g s → ∃ s', K s' ∧ SRel W0 w0 s' l W
  | [], s, l, K, hs, h => ⟨s, h, hs⟩
  | .opn t k :: r, s, l, K, hs, h => by
    obtain ⟨s', h1, h2⟩ := opn_sound hs h
    rw [fcS_eq] at h1
    exact aGh_sound h2 h1
  | .cls i k :: r, s, l, K, hs, h => by
    obtain ⟨s', h1, h2⟩ := cls_sound hs h
    rw [fcS_eq] at h1
    exact aGh_sound h2 h1
  | .pub k :: r, s, l, K, hs, h => by
    obtain ⟨s', h1, h2⟩ := pub_sound hs h
    rw [fcS_eq] at h1
    exact aGh_sound h2 h1
  | .chk t :: r, s, l, K, hs, h => by
    obtain ⟨s', h1, h2⟩ := chk_sound hs h
    rw [fcS_eq] at h1
    exact aGh_sound h2 h1
  | .tak t e ty :: r, s, l, K, hs, h => by
    obtain ⟨s', h1, h2⟩ := tak_sound hs h
    rw [fcS_eq] at h1
    exact aGh_sound h2 h1
  | .ctk i j e ty :: r, s, l, K, hs, h => by
    obtain ⟨s', h1, h2⟩ := ctk_sound hs h
    rw [fcS_eq] at h1
    exact aGh_sound h2 h1
end
end Go.Ga
set_option linter.unusedSimpArgs false
set_option linter.unusedVariables false
namespace Go.Ga
open Go Go.Gp
section
variable {W0 : World} {w0 : Mk} {X : Nat → Prop} {E E' : Env} {B : BL} {O : OL} {H : HP} {W : World}
def DecR (E : Env) (W : World) (O : OL) (c : Nat → Option Nat) (id : Nat) : (k : LK0) → Value → k.T → Prop
  | .own e t, v, xs => (v = .slice none 0 0 ∧ xs = [] ∧ goodRow e = true ∧ ∀ q, c q ≠ some id) ∨ ∃ q, (∀ q', c q' = some id ↔ q' = q) ∧ getO O q = .own e t xs ∧ v = (E.hdr q).val
  | .one k, v, x => VRep0 E W (.c k x) v
  | .ref, v, x => VRep0 E W (.ref x) v
  | .row e, v, xs => VRep0 E W (.row e xs) v
  | .brw e, v, xs => VRep0 E W (.brw e xs) v
  | .bx i j, v, _ => VRep0 E W (.bx i j) v
  | .op k j, v, n => VRep0 E W (.op n k j) v
  | .rp e j, v, x => VRep0 E W (.rp e x j) v
  | .fnc g, v, _ => VRep0 E W (.c .any (.func (.func g) #[] #[])) v
  | .clo g, v, ns => VRep0 E W (.clo g ns) v
  | .dead, _, _ => True
theorem decR_enc {O : OL} {c : Nat → Option Nat} {id : Nat} {k : LK0} {v : Value} {x : k.T} (h : isOwnK k = false) : DecR E W O c id k v x ↔ VRep0 E W (enc0 id k x) v := by
  cases k <;> first | rfl | (simp [isOwnK] at h)
theorem decR_pers {O O' : OL} {c c' : Nat → Option Nat} {id : Nat} (hp : Pers E W E' W) {k : LK0} {v : Value} {x : k.T} (h : isOwnK k = false) (hd : DecR E W O c id k v x) : DecR E' W O' c' id k v x := (decR_enc h).2 (((decR_enc h).1 hd).pers hp)
def DecRs (E : Env) (W : World) (O : OL) (c : Nat → Option Nat) : Nat → (l : List LK0) → List Value → LKs l → Prop
  | _, [], vs, _ => vs = []
  | id, k :: r, vs, x => ∃ v us, vs = v :: us ∧ DecR E W O c id k v x.1 ∧ DecRs E W O c (id + 1) r us x.2
structure LaterV (E : Env) (O : OL) (c : Nat → Option Nat) (O' : OL) (c' : Nat → Option Nat) (V : List Nat) : Prop where
  old : ∀ q i, c q = some i → c' q = some i
  new : ∀ q i, c' q = some i → c q = some i ∨ i ∈ V
  own : ∀ q i, c q = some i → getO O' q = getO O q
theorem LaterV.trans {E1 : Env} {O O1 O2 : OL} {c c1 c2 : Nat → Option Nat} {V V' : List Nat} (h : LaterV E O c O1 c1 V) (k : LaterV E1 O1 c1 O2 c2 V') : LaterV E O c O2 c2 (V ++ V') := by
  refine ⟨fun q i hq => k.old q i (h.old q i hq), fun q i hq => ?_, fun q i hq => (k.own q i (h.old q i hq)).trans (h.own q i hq)⟩
  rcases k.new q i hq with h1 | h1
  · rcases h.new q i h1 with h2 | h2
    · exact .inl h2
    · exact .inr (by simp [h2])
  · exact .inr (by simp [h1])
theorem DecR.later {O O' : OL} {c c' : Nat → Option Nat} {V : List Nat} {id : Nat} (hp : Pers E W E' W) (hl : LaterV E O c O' c' V) (hvo : ∀ q i, c q = some i → E.vo q = true) (hid : id ∉ V) : ∀ {k : LK0} {v : Value} {x : k.T}, DecR E W O c id k v x → DecR E' W O' c' id k v x := by
  have new : ∀ q, c' q = some id → c q = some id := fun q hq => (hl.new q id hq).resolve_right hid
  intro k v x h
  cases k with
  | own e t =>
    rcases h with ⟨h1, h2, h3, h4⟩ | ⟨q, h1, h2, h3⟩
    · exact .inl ⟨h1, h2, h3, fun q hq => h4 q (new q hq)⟩
    · have hq := (h1 q).2 rfl
      exact .inr ⟨q, fun q' => ⟨fun hq' => (h1 q').1 (new q' hq'), fun e => by subst e; exact hl.old _ _ hq⟩, (hl.own q id hq).trans h2, by rw [(hp.ow q (hvo q id hq)).2]; exact h3⟩
  | _ => exact decR_pers hp rfl h
theorem DecRs.later {O O' : OL} {c c' : Nat → Option Nat} {V : List Nat} (hp : Pers E W E' W) (hl : LaterV E O c O' c' V) (hvo : ∀ q i, c q = some i → E.vo q = true) : ∀ {l : List LK0} {id : Nat} {vs : List Value} {x : LKs l}, (∀ i ∈ idsL id l, i ∉ V) → DecRs E W O c id l vs x → DecRs E' W O' c' id l vs x
  | [], id, vs, x, _, h => h
  | k :: r, id, vs, x, hid, h => by
    obtain ⟨v, us, h1, h2, h3⟩ := h
    refine ⟨v, us, h1, ?_, h3.later hp hl hvo fun i hi => hid i (by unfold idsL; split <;> simp [hi])⟩
    cases hk : isOwnK k with
    | true => exact h2.later hp hl hvo (hid id (by unfold idsL; rw [hk]; simp))
    | false => exact decR_pers hp hk h2
theorem handed_own {O' : OL} {c : Nat → Option Nat} (hh : Handed O' O c) {k : Nat} {b : OwE} (h : getO O' k = b) (hb : b ≠ .gone) : c k = none ∧ getO O k = b := by
  cases hc : c k with
  | none => exact ⟨rfl, by rw [← hh.same k hc]; exact h⟩
  | some i => exact absurd ((hh.gone k i hc).1 ▸ h) (fun e => hb e.symm)
theorem castK {a b : AK} {h : PLift (a = b)} {xs : List a.T} {v : Value} (hr : VRep0 E W (.row a xs) v) : VRep0 E W (.row b (castRow h xs)) v := by obtain ⟨h⟩ := h; subst h; exact hr
theorem castB {a b : AK} {h : PLift (a = b)} {xs : List a.T} {v : Value} (hr : VRep0 E W (.brw a xs) v) : VRep0 E W (.brw b (castRow h xs)) v := by obtain ⟨h⟩ := h; subst h; exact hr
theorem castP {a b : AK} {h : PLift (a = b)} {x : a.T} {j : Nat} {v : Value} (hr : VRep0 E W (.rp a x j) v) : VRep0 E W (.rp b (castAK h x) j) v := by obtain ⟨h⟩ := h; subst h; exact hr
theorem castC {a b : K1} {h : PLift (a = b)} {x : a.T} {v : Value} (hr : VRep0 E W (.c a x) v) : VRep0 E W (.c b (castK1 h x)) v := by obtain ⟨h⟩ := h; subst h; exact hr
theorem frz_row (hm : RelM W0 w0 X E B O H W) {k : Nat} {e : AK} {xs : List e.T} {v : Value} (ho : getO O k = .frz e xs) (hv : VRep0 E W (.own k) v) : VRep0 E W (.row e xs) v := by
  have := hm.ow k
  rw [ho] at this
  obtain ⟨_, g, h0, hr, _⟩ := this
  exact ⟨g, h0, _, hv.2, hr⟩
theorem decO_rep {a : AV0} {v : Value} (hv : VRep0 E W a v) : ∀ {k : K1} {x : k.T}, decO a k = some x → VRep0 E W (.c k x) v
  | .ptr, x, h => by
    simp only [decO] at h
    split at h <;> first | (cases h; done) | skip
    · injection h with h; subst h; have hv : v = _ := hv; subst hv; exact ⟨rfl, rfl⟩
    · injection h with h; subst h; have hv : v = _ := hv; subst hv; exact ⟨rfl, rfl⟩
  | .sl, x, h => by
    simp only [decO] at h
    split at h <;> first | (cases h; done) | skip
    injection h with h; subst h; have hv : v = _ := hv; subst hv; exact ⟨rfl, rfl⟩
  | .int _, _, h => by cases h
  | .flt _, _, h => by cases h
  | .bool, _, h => by cases h
  | .str, _, h => by cases h
  | .any, _, h => by cases h
  | .adr, _, h => by cases h
theorem dec0_sound {O' O1' : OL} {c : Nat → Option Nat} {id : Nat} (hm : RelM W0 w0 X E B O H W) (hh : Handed O' O c) {k : LK0} (hid : isOwnK k = true → ∀ q, c q ≠ some id) {a : AV0} {v : Value} {x : k.T} (hv : VRep0 E W a v) (h : dec0 O' k a = some (x, O1')) :
    ∃ O1 c1 E1, RelM W0 w0 X E1 B O1 H W ∧ Pers E W E1 W ∧ Handed O1' O1 c1 ∧ LaterV E O c O1 c1 (idsL id [k]) ∧ DecR E1 W O1 c1 id k v x := by
  have same : ∀ {x : k.T}, O' = O1' → DecR E W O c id k v x → ∃ O1 c1 E1, RelM W0 w0 X E1 B O1 H W ∧ Pers E W E1 W ∧ Handed O1' O1 c1 ∧ LaterV E O c O1 c1 (idsL id [k]) ∧ DecR E1 W O1 c1 id k v x := fun e hd => by
    subst e
    exact ⟨O, c, E, hm, Pers.refl _ _, hh, ⟨fun _ _ h => h, fun _ _ h => .inl h, fun _ _ _ => rfl⟩, hd⟩
  cases k with
  | one k =>
    simp only [dec0] at h
    split at h
    · split at h <;> first | (cases h; done) | skip
      injection h with h
      injection h with h1 h2
      subst h1
      exact same h2 (castC hv)
    · split at h <;> first | (cases h; done) | skip
      rename_i y hy
      injection h with h
      injection h with h1 h2
      subst h1
      exact same h2 (decO_rep hv hy)
  | clo g =>
    simp only [dec0] at h
    split at h <;> first | (cases h; done) | skip
    · split at h <;> first | (cases h; done) | skip
      rename_i he
      injection h with h
      injection h with h1 h2
      subst h1
      subst he
      exact same h2 hv
    · split at h <;> first | (cases h; done) | skip
      rename_i he
      injection h with h
      injection h with h1 h2
      subst h1
      have := fnG_val he
      subst this
      exact same h2 hv.1
  | ref =>
    simp only [dec0] at h
    split at h <;> first | (cases h; done) | skip
    · injection h with h
      injection h with h1 h2
      subst h1
      exact same h2 hv
    · injection h with h
      injection h with h1 h2
      subst h1
      exact same h2 hv
  | row e =>
    simp only [dec0] at h
    split at h <;> first | (cases h; done) | skip
    · split at h <;> first | (cases h; done) | skip
      injection h with h
      injection h with h1 h2
      subst h1
      exact same h2 (castK hv)
    · split at h <;> first | (cases h; done) | skip
      injection h with h
      injection h with h1 h2
      subst h1
      exact same h2 (castK (res0_rep hm hv))
    · split at h <;> first | (cases h; done) | skip
      rename_i hg
      obtain ⟨g, h0⟩ := good_row hg
      injection h with h
      injection h with h1 h2
      subst h1
      exact same h2 ⟨g, h0, ⟨none, 0, 0⟩, hv, rfl, Nat.le_refl _, Nat.zero_le _, fun _ => ⟨rfl, rfl⟩, fun i x hx => by simp at hx⟩
    · rename_i q
      split at h <;> first | (cases h; done) | skip
      · rename_i e' xs ho
        split at h <;> first | (cases h; done) | skip
        injection h with h
        injection h with h1 h2
        subst h1
        exact same h2 (castK (frz_row hm (handed_own hh ho (by simp)).2 hv))
      · rename_i e' t' xs ho
        split at h <;> first | (cases h; done) | skip
        injection h with h
        injection h with h1 h2
        subst h1 h2
        obtain ⟨E2, O2, m2, p2, hh2, l2, h5⟩ := frz1_handed hm hh (.own q) 0
        have hf : frz1 O' (.own q) = setO O' q (.frz e' xs) := by simp only [frz1, ho]
        rw [hf] at hh2
        have hcq := (handed_own hh ho (by simp)).1
        have ho2 : getO O2 q = .frz e' xs := by rw [← h5 q hcq, hf, getO_set, if_pos rfl]
        exact ⟨O2, c, E2, m2, p2, hh2, ⟨fun _ _ h => h, fun _ _ h => .inl h, l2.own⟩, castK (frz_row m2 ho2 (hv.pers p2))⟩
    · rename_i q n off len
      split at h <;> first | (cases h; done) | skip
      rename_i e' xs ho
      split at h <;> first | (cases h; done) | skip
      rename_i hn
      split at h <;> first | (cases h; done) | skip
      injection h with h
      injection h with h1 h2
      subst h1
      have := hm.ow q
      rw [(handed_own hh ho (by simp)).2] at this
      obtain ⟨_, g, h0, hr, _⟩ := this
      obtain ⟨s, hs, hr'⟩ := part_row hv hr hn
      exact same h2 (castK ⟨g, h0, s, hs, hr'⟩)
  | brw e =>
    simp only [dec0] at h
    split at h <;> first | (cases h; done) | skip
    split at h <;> first | (cases h; done) | skip
    injection h with h
    injection h with h1 h2
    subst h1
    exact same h2 (castB hv)
  | own e t =>
    simp only [dec0] at h
    split at h <;> first | (cases h; done) | skip
    · rename_i q
      split at h <;> first | (cases h; done) | skip
      rename_i e' t' xs ho'
      split at h <;> first | (cases h; done) | skip
      rename_i ht
      subst ht
      split at h <;> first | (cases h; done) | skip
      injection h with h
      injection h with h1 h2
      subst h1 h2
      obtain ⟨hck, ho⟩ := handed_own hh ho' (by simp)
      refine ⟨O, fun p => if p = q then some id else c p, E, hm, Pers.refl _ _, ⟨fun p hp => ?_, fun p i hp => ?_⟩, ⟨fun p i hp => ?_, fun p i hp => ?_, fun _ _ _ => rfl⟩, .inr ⟨q, fun p => ⟨fun hp => ?_, fun e => if_pos e⟩, by rw [ho]; exact same_ocase, hv.2⟩⟩
      · try simp only at hp
        split at hp <;> first | (cases hp; done) | skip
        rename_i hne
        rw [getO_set, if_neg (fun e => hne e.symm)]; exact hh.same p hp
      · try simp only at hp
        rw [getO_set]
        split at hp
        · rename_i e1; subst e1; rw [if_pos rfl]; exact ⟨rfl, e', t', xs, ho⟩
        · rename_i hne; rw [if_neg (fun e => hne e.symm)]; exact hh.gone p i hp
      · try simp only
        rw [if_neg (fun e => by subst e; rw [hck] at hp; cases hp)]; exact hp
      · try simp only at hp
        split at hp
        · injection hp with hp; subst hp; exact .inr (by simp [idsL, isOwnK])
        · exact .inl hp
      · try simp only at hp
        split at hp
        · assumption
        · exact absurd hp (hid rfl p)
    · split at h <;> first | (cases h; done) | skip
      rename_i hg
      injection h with h
      injection h with h1 h2
      subst h1
      exact same h2 (.inl ⟨hv, rfl, hg, hid rfl⟩)
  | bx i j =>
    simp only [dec0] at h
    split at h <;> first | (cases h; done) | skip
    split at h <;> first | (cases h; done) | skip
    rename_i he
    injection h with h
    injection h with h1 h2
    obtain ⟨rfl, rfl⟩ := he
    exact same h2 hv
  | op k j =>
    simp only [dec0] at h
    split at h <;> first | (cases h; done) | skip
    split at h <;> first | (cases h; done) | skip
    split at h <;> first | (cases h; done) | skip
    rename_i he
    injection h with h
    injection h with h1 h2
    subst h1 he
    exact same h2 hv
  | rp e j =>
    simp only [dec0] at h
    split at h <;> first | (cases h; done) | skip
    split at h <;> first | (cases h; done) | skip
    split at h <;> first | (cases h; done) | skip
    rename_i he
    injection h with h
    injection h with h1 h2
    subst h1 he
    exact same h2 (castP hv)
  | fnc g =>
    simp only [dec0] at h
    split at h <;> first | (cases h; done) | skip
    split at h <;> first | (cases h; done) | skip
    rename_i g' hg
    split at h <;> first | (cases h; done) | skip
    rename_i he
    injection h with h
    injection h with h1 h2
    subst he
    have := fnV_some hg
    subst this
    exact same h2 hv
  | dead =>
    simp only [dec0] at h
    injection h with h
    injection h with h1 h2
    exact same h2 trivial
theorem idsL_cons (id : Nat) (k : LK0) (r : List LK0) : idsL id (k :: r) = idsL id [k] ++ idsL (id + 1) r := by
  simp only [idsL]
  split <;> rfl
theorem idsL_ge : ∀ {l : List LK0} {id i : Nat}, i ∈ idsL id l → id ≤ i
  | [], id, i, h => by simp [idsL] at h
  | k :: r, id, i, h => by
    simp only [idsL] at h
    split at h
    · rcases List.mem_cons.1 h with rfl | h
      · exact Nat.le_refl _
      · have := idsL_ge h; omega
    · have := idsL_ge h; omega
theorem handed_vo {O' : OL} {c : Nat → Option Nat} (hm : RelM W0 w0 X E B O H W) (hh : Handed O' O c) : ∀ q i, c q = some i → E.vo q = true := fun q i hq => hh.vo hm hq
theorem decs_sound : ∀ {l : List LK0} {as : List AV0} {vs : List Value} {x : LKs l} {E : Env} {O O' O1' : OL} {c : Nat → Option Nat} {id : Nat}, RelM W0 w0 X E B O H W → Handed O' O c → (∀ q i, c q = some i → i ∉ idsL id l) → VReps E W as vs → decs O' l as = some (x, O1') →
    ∃ O1 c1 E1, RelM W0 w0 X E1 B O1 H W ∧ Pers E W E1 W ∧ Handed O1' O1 c1 ∧ LaterV E O c O1 c1 (idsL id l) ∧ DecRs E1 W O1 c1 id l vs x
  | [], [], [], x, E, O, O', O1', c, id, hm, hh, hid, hv, h => by
    simp only [decs] at h
    injection h with h
    injection h with h1 h2
    subst h2
    exact ⟨O, c, E, hm, Pers.refl _ _, hh, ⟨fun _ _ h => h, fun _ _ h => .inl h, fun _ _ _ => rfl⟩, rfl⟩
  | [], [], _ :: _, _, _, _, _, _, _, _, _, _, _, hv, _ => hv.elim
  | [], _ :: _, _, _, _, _, _, _, _, _, _, _, _, _, h => by simp [decs] at h
  | _ :: _, [], _, _, _, _, _, _, _, _, _, _, _, _, h => by simp [decs] at h
  | _ :: _, _ :: _, [], _, _, _, _, _, _, _, _, _, _, hv, _ => hv.elim
  | k :: r, a :: as, v :: vs, x, E, O, O', O1', c, id, hm, hh, hid, hv, h => by
    simp only [decs] at h
    split at h <;> first | (cases h; done) | skip
    rename_i y O2' h1
    split at h <;> first | (cases h; done) | skip
    rename_i z O3' h2
    injection h with h
    injection h with h3 h4
    subst h3 h4
    have hidk : isOwnK k = true → ∀ q, c q ≠ some id := fun hk q hq => hid q id hq (by unfold idsL; rw [hk]; simp)
    obtain ⟨O1, c1, E1, m1, p1, hh1, l1, d1⟩ := dec0_sound (id := id) hm hh hidk hv.1 h1
    obtain ⟨O4, c4, E4, m4, p4, hh4, l4, d4⟩ := decs_sound (id := id + 1) m1 hh1 (fun q i hq => by
      rcases l1.new q i hq with h | h
      · exact fun hi => hid q i h (by rw [idsL_cons]; simp [hi])
      · intro hi
        have := idsL_ge hi
        have h5 : i = id := by
          simp only [idsL] at h
          split at h
          · simpa using h
          · cases h
        omega) (hv.2.pers p1) h2
    refine ⟨O4, c4, E4, m4, p1.trans p4 (Nat.le_refl _), hh4, by rw [idsL_cons]; exact l1.trans l4, v, vs, rfl, ?_, d4⟩
    cases hk : isOwnK k with
    | true => exact d1.later p4 l4 (handed_vo m1 hh1) fun hi => by have := idsL_ge hi; omega
    | false => exact decR_pers p4 hk d1
end
end Go.Ga
set_option linter.unusedSimpArgs false
set_option linter.unusedVariables false
namespace Go.Ga
open Go Go.Gp
section
variable {W0 : World} {w0 : Mk} {X : Nat → Prop} {E E' : Env} {B : BL} {O : OL} {H : HP} {W : World}
def DecV (E : Env) (W : World) (O : OL) (c : Nat → Option Nat) (t : Nat) : (k : LK) → Value → k.T → Prop
  | .v k, v, x => DecR E W O c (t * 64 + 63) k v x
  | .agg l, v, x => ∃ vs, v = .agg ⟨vs⟩ ∧ DecRs E W O c (t * 64 + 32) l vs x
def DecT (E : Env) (W : World) (O : OL) (c : Nat → Option Nat) (l : Fr) : (lt : List (Nat × LK)) → LVt lt → Prop
  | [], _ => True
  | p :: r, x => DecV E W O c p.1 p.2 (getL l p.1) x.1 ∧ DecT E W O c l r x.2
def DecB (E : Env) (W : World) (O : OL) (c : Nat → Option Nat) (B : BL) : (lb : List LB) → LVb lb → Prop
  | [], _ => True
  | p :: r, x => (∃ vs ty, (∃ nm cs, getB B p.i = .bx nm cs) ∧ Blk W (E.blk p.i) vs ty ∧ DecRs E W O c (p.i * 64 + 32) p.ks vs x.1) ∧ DecB E W O c B r x.2
theorem DecV.later {O O' : OL} {c c' : Nat → Option Nat} {V : List Nat} (hp : Pers E W E' W) (hl : LaterV E O c O' c' V) (hvo : ∀ q i, c q = some i → E.vo q = true) {t : Nat} {k : LK} {v : Value} {x : k.T} (hid : ∀ i ∈ idsV t k, i ∉ V) (h : DecV E W O c t k v x) : DecV E' W O' c' t k v x := by
  cases k with
  | v k =>
    cases hk : isOwnK k with
    | true => exact DecR.later hp hl hvo (hid _ (by simp [idsV, idsL, hk])) h
    | false => exact decR_pers hp hk h
  | agg l => obtain ⟨vs, e, h⟩ := h; exact ⟨vs, e, h.later hp hl hvo hid⟩
theorem DecT.later {O O' : OL} {c c' : Nat → Option Nat} {V : List Nat} (hp : Pers E W E' W) (hl : LaterV E O c O' c' V) (hvo : ∀ q i, c q = some i → E.vo q = true) {l : Fr} : ∀ {lt : List (Nat × LK)} {x : LVt lt}, (∀ i ∈ idsT lt, i ∉ V) → DecT E W O c l lt x → DecT E' W O' c' l lt x
  | [], _, _, _ => trivial
  | p :: r, x, hid, h => ⟨DecV.later hp hl hvo (fun i hi => hid i (by simp [idsT, hi])) h.1, DecT.later hp hl hvo (fun i hi => hid i (by simp [idsT, hi])) h.2⟩
theorem nodup_app : ∀ {a b : List Nat}, nodupL (a ++ b) = true → nodupL a = true ∧ nodupL b = true ∧ ∀ i ∈ a, i ∉ b
  | [], b, h => ⟨rfl, h, by simp⟩
  | x :: a, b, h => by
    simp only [List.cons_append, nodupL, Bool.and_eq_true, Bool.not_eq_true'] at h
    obtain ⟨h1, h2, h3⟩ := nodup_app h.2
    have hx : x ∉ a ++ b := by simpa using h.1
    refine ⟨by simp only [nodupL, Bool.and_eq_true, Bool.not_eq_true']; exact ⟨by simp at hx ⊢; exact hx.1, h1⟩, h2, fun i hi => ?_⟩
    rcases List.mem_cons.1 hi with rfl | hi
    · simp at hx; exact hx.2
    · exact h3 i hi
theorem decV_sound {O' O1' : OL} {c : Nat → Option Nat} {t : Nat} (hm : RelM W0 w0 X E B O H W) (hh : Handed O' O c) {k : LK} (hid : ∀ q i, c q = some i → i ∉ idsV t k) {a : AV} {v : Value} {x : k.T} (hv : VRep E W a v) (h : decV (getB B) O' k a = some (x, O1')) :
    ∃ O1 c1 E1, RelM W0 w0 X E1 B O1 H W ∧ Pers E W E1 W ∧ Handed O1' O1 c1 ∧ LaterV E O c O1 c1 (idsV t k) ∧ DecV E1 W O1 c1 t k v x := by
  cases k with
  | v k =>
    cases a with
    | v a =>
      exact dec0_sound hm hh (fun hk q hq => hid q _ hq (by simp [idsV, idsL, hk])) (res0_rep hm hv) h
    | _ =>
      cases k <;> simp only [decV] at h <;> first | (cases h; done) | skip
      injection h with h
      injection h with h1 h2
      subst h2
      exact ⟨O, c, E, hm, Pers.refl _ _, hh, ⟨fun _ _ h => h, fun _ _ h => .inl h, fun _ _ _ => rfl⟩, trivial⟩
  | agg l =>
    cases a with
    | agg cs =>
      obtain ⟨vs, e, hr⟩ := hv
      obtain ⟨O1, c1, E1, h1, h2, h3, h4, h5⟩ := decs_sound (id := t * 64 + 32) hm hh hid (res0_reps hm hr) h
      exact ⟨O1, c1, E1, h1, h2, h3, h4, vs, e, h5⟩
    | _ => simp [decV] at h
theorem decT_sound {f : FA} {l : Fr} : ∀ {lt : List (Nat × LK)} {x : LVt lt} {E : Env} {O O' O1' : OL} {c : Nat → Option Nat}, RelM W0 w0 X E B O H W → FRel E W (fun _ => False) f l → Handed O' O c → (∀ q i, c q = some i → i ∉ idsT lt) → nodupL (idsT lt) = true → decT (getB B) f lt O' = some (x, O1') →
    ∃ O1 c1 E1, RelM W0 w0 X E1 B O1 H W ∧ Pers E W E1 W ∧ Handed O1' O1 c1 ∧ LaterV E O c O1 c1 (idsT lt) ∧ DecT E1 W O1 c1 l lt x
  | [], x, E, O, O', O1', c, hm, hf, hh, _, _, h => by
    simp only [decT] at h
    injection h with h
    injection h with h1 h2
    subst h2
    exact ⟨O, c, E, hm, Pers.refl _ _, hh, ⟨fun _ _ h => h, fun _ _ h => .inl h, fun _ _ _ => rfl⟩, trivial⟩
  | p :: r, x, E, O, O', O1', c, hm, hf, hh, hid, hnd, h => by
    simp only [decT] at h
    split at h <;> first | (cases h; done) | skip
    rename_i y O2' h1
    split at h <;> first | (cases h; done) | skip
    rename_i z O3' h2
    injection h with h
    injection h with h3 h4
    subst h3 h4
    simp only [idsT] at hid hnd
    obtain ⟨n1, n2, n3⟩ := nodup_app hnd
    obtain ⟨O1, c1, E1, m1, p1, hh1, l1, d1⟩ := decV_sound (t := p.1) hm hh (fun q i hq hi => hid q i hq (by simp [hi])) (hf.2 p.1 id) h1
    obtain ⟨O4, c4, E4, m4, p4, hh4, l4, d4⟩ := decT_sound m1 (hf.pers p1) hh1 (fun q i hq hi => by
      rcases l1.new q i hq with h | h
      · exact hid q i h (by simp [hi])
      · exact n3 i h hi) n2 h2
    exact ⟨O4, c4, E4, m4, p1.trans p4 (Nat.le_refl _), hh4, l1.trans l4, d1.later p4 l4 (handed_vo m1 hh1) n3, d4⟩
theorem decB_sound : ∀ {lb : List LB} {x : LVb lb} {E : Env} {O O' O1' : OL} {c : Nat → Option Nat}, RelM W0 w0 (fun _ => False) E B O H W → Handed O' O c → (∀ q i, c q = some i → i ∉ idsB lb) → nodupL (idsB lb) = true → decB (getB B) lb O' = some (x, O1') →
    ∃ O1 c1 E1, RelM W0 w0 (fun _ => False) E1 B O1 H W ∧ Pers E W E1 W ∧ Handed O1' O1 c1 ∧ LaterV E O c O1 c1 (idsB lb) ∧ DecB E1 W O1 c1 B lb x
  | [], x, E, O, O', O1', c, hm, hh, _, _, h => by
    simp only [decB] at h
    injection h with h
    injection h with h1 h2
    subst h2
    exact ⟨O, c, E, hm, Pers.refl _ _, hh, ⟨fun _ _ h => h, fun _ _ h => .inl h, fun _ _ _ => rfl⟩, trivial⟩
  | p :: r, x, E, O, O', O1', c, hm, hh, hid, hnd, h => by
    simp only [decB] at h
    split at h <;> first | (cases h; done) | skip
    rename_i nm cs hb
    split at h <;> first | (cases h; done) | skip
    rename_i y O2' h1
    split at h <;> first | (cases h; done) | skip
    rename_i z O3' h2
    injection h with h
    injection h with h3 h4
    subst h3 h4
    simp only [idsB] at hid hnd
    obtain ⟨n1, n2, n3⟩ := nodup_app hnd
    have hbx := hm.bx p.i
    rw [hb] at hbx
    obtain ⟨hva, _, _, vs, ty, hblk, hr⟩ := hbx.2 id
    obtain ⟨O1, c1, E1, m1, p1, hh1, l1, d1⟩ := decs_sound (id := p.i * 64 + 32) hm hh (fun q i hq hi => hid q i hq (by simp [hi])) (res0_reps hm hr) h1
    obtain ⟨O4, c4, E4, m4, p4, hh4, l4, d4⟩ := decB_sound m1 hh1 (fun q i hq hi => by
      rcases l1.new q i hq with h | h
      · exact hid q i h (by simp [hi])
      · exact n3 i h hi) n2 h2
    exact ⟨O4, c4, E4, m4, p1.trans p4 (Nat.le_refl _), hh4, l1.trans l4, ⟨vs, ty, ⟨nm, cs, hb⟩, by rw [((p1.trans p4 (Nat.le_refl _)).bx p.i hva).2]; exact hblk, d1.later p4 l4 (handed_vo m1 hh1) n3⟩, d4⟩
end
end Go.Ga
set_option linter.unusedSimpArgs false
set_option linter.unusedVariables false
namespace Go.Ga
open Go Go.Gp
section
variable {W0 : World} {w0 : Mk} {E : Env} {B : BL} {O : OL} {H : HP} {W : World}
def liveB (lb : List LB) (i : Nat) : Bool := lb.any fun p => p.i == i
def joinW (w : Mk) (lb : List LB) (c : Nat → Option Nat) : Mk := fun b => match w b with
  | some (.lb i) => if liveB lb i then some (.lb i) else none
  | some (.lo q) => (match c q with | some i => some (.lo i) | none => none)
  | τ => τ
open Classical in
noncomputable def joinE (E : Env) (lt : List (Nat × LK)) (lb : List LB) (c : Nat → Option Nat) : Env :=
  ⟨joinW E.w lb c, E.blk, fun i => if h : ∃ q, c q = some i then E.hdr (Classical.choose h) else ⟨none, 0, 0⟩, liveB lb, fun i => decide (i ∈ idsT lt ++ idsB lb), E.base⟩
theorem joinW_none {w : Mk} {lb : List LB} {c : Nat → Option Nat} {b : Nat} (h : w b = none) : joinW w lb c b = none := by unfold joinW; rw [h]
theorem joinW_lb {w : Mk} {lb : List LB} {c : Nat → Option Nat} {b i : Nat} : joinW w lb c b = some (.lb i) ↔ w b = some (.lb i) ∧ liveB lb i = true := by
  unfold joinW
  cases h : w b with
  | none => simp
  | some u =>
    cases u with
    | lb q =>
      simp only
      split
      · rename_i hl
        constructor
        · intro e; injection e with e; injection e with e; subst e; exact ⟨rfl, hl⟩
        · rintro ⟨e, _⟩; exact e
      · rename_i hl
        constructor
        · intro e; cases e
        · rintro ⟨e, h⟩; injection e with e; injection e with e; subst e; exact absurd h hl
    | lo q => cases hc : c q <;> simp [hc]
    | _ => simp
theorem joinW_lo {w : Mk} {lb : List LB} {c : Nat → Option Nat} {b i : Nat} : joinW w lb c b = some (.lo i) ↔ ∃ q, w b = some (.lo q) ∧ c q = some i := by
  unfold joinW
  cases h : w b with
  | none => simp
  | some u =>
    cases u with
    | lb q => simp only; split <;> simp
    | lo q =>
      cases hc : c q with
      | none => simp [hc]
      | some j =>
        simp only [hc]
        constructor
        · intro e; injection e with e; injection e with e; subst e; exact ⟨q, rfl, hc⟩
        · rintro ⟨q', e, h⟩; injection e with e; injection e with e; subst e; rw [hc] at h; injection h with h; subst h; rfl
    | _ => simp
theorem joinW_same {w : Mk} {lb : List LB} {c : Nat → Option Nat} {b : Nat} {u : Tag} (h1 : ∀ i, u ≠ .lb i) (h2 : ∀ i, u ≠ .lo i) : joinW w lb c b = some u ↔ w b = some u := by
  unfold joinW
  cases h : w b with
  | none => simp
  | some t =>
    cases t with
    | lb q =>
      simp only
      split
      · rfl
      · exact ⟨fun e => (by cases e), fun e => by injection e with e; exact absurd e.symm (h1 q)⟩
    | lo q =>
      cases hc : c q with
      | none => simp only [hc]; exact ⟨fun e => (by cases e), fun e => by injection e with e; exact absurd e.symm (h2 q)⟩
      | some j => simp only [hc]; exact ⟨fun e => by injection e with e; exact absurd e.symm (h2 j), fun e => by injection e with e; exact absurd e.symm (h2 q)⟩
    | _ => exact Iff.rfl
structure JoinOk (W0 : World) (w0 : Mk) (E : Env) (B : BL) (O : OL) (H : HP) (W : World) (c : Nat → Option Nat) (lt : List (Nat × LK)) (lb : List LB) : Prop where
  rel : RelM W0 w0 (fun _ => False) E B O H W
  own : ∀ q i, c q = some i → ∃ e t xs, getO O q = .own e t xs
  dom : ∀ q i, c q = some i → i ∈ idsT lt ++ idsB lb
variable {c : Nat → Option Nat} {lt : List (Nat × LK)} {lb : List LB}
theorem join_imm : Imm (imm E.w) (imm (joinE E lt lb c).w) W W := fun b hb _ => ⟨joinW_none hb, SameC.of rfl⟩
theorem join_rd : Imm (rdb E.w) (rdb (joinE E lt lb c).w) W W := fun b hb _ => ⟨hb.imp joinW_none (joinW_same (by simp) (by simp)).2, SameC.of rfl⟩
theorem join_hdr {q i : Nat} (h : ∀ q', c q' = some i ↔ q' = q) : (joinE E lt lb c).hdr i = E.hdr q := by
  have hx : ∃ q, c q = some i := ⟨q, (h q).2 rfl⟩
  unfold joinE
  simp only
  rw [dif_pos hx, (h _).1 (Classical.choose_spec hx)]
theorem join_hdr0 {i : Nat} (h : ∀ q, c q ≠ some i) : (joinE E lt lb c).hdr i = ⟨none, 0, 0⟩ := by
  unfold joinE
  simp only
  rw [dif_neg fun ⟨q, hq⟩ => h q hq]
theorem join_vo {i : Nat} (h : i ∈ idsT lt ++ idsB lb) : (joinE E lt lb c).vo i = true := by
  show decide _ = true
  exact decide_eq_true h
theorem enc0_rep {id : Nat} {k : LK0} {v : Value} {x : k.T} (hd : DecR E W O c id k v x) (hid : isOwnK k = true → id ∈ idsT lt ++ idsB lb) (hb : bxIn lb k = true) : VRep0 (joinE E lt lb c) W (enc0 id k x) v := by
  cases k with
  | one k => exact hd
  | ref => exact hd
  | row e =>
    obtain ⟨g, h0, s, hs, hr⟩ := hd
    exact ⟨g, h0, s, hs, hr.imm join_imm h0 fun _ _ hd => hd.imm join_imm g⟩
  | brw e =>
    obtain ⟨g, h0, s, hs, hr⟩ := hd
    exact ⟨g, h0, s, hs, hr.imm join_rd h0 fun _ _ hd => hd.imm join_imm g⟩
  | own e t =>
    rcases hd with ⟨h1, h2, h3, h4⟩ | ⟨q, h1, h2, h3⟩
    · exact ⟨join_vo (hid rfl), by rw [join_hdr0 h4]; exact h1⟩
    · exact ⟨join_vo (hid rfl), by rw [join_hdr h1]; exact h3⟩
  | bx i j => exact ⟨hb, hd.2⟩
  | op k j => exact hd
  | rp e j =>
    obtain ⟨g, h0, p, cs, hs, hw, hl, hc, hdd⟩ := hd
    exact ⟨g, h0, p, cs, hs, hw.imp joinW_none (joinW_same (by simp) (by simp)).2, hl, hc, hdd.imm join_imm g⟩
  | fnc g => exact hd
  | clo g => exact hd
  | dead => trivial
theorem enc0_own (hj : JoinOk W0 w0 E B O H W c lt lb) {id : Nat} {e : AK} {t : Nat} {v : Value} {xs : List e.T} (hd : DecR E W O c id (.own e t) v xs) (hid : id ∈ idsT lt ++ idsB lb) : OwnOk (joinE E lt lb c) W id (.own e t xs) := by
  rcases hd with ⟨h1, h2, h3, h4⟩ | ⟨q, h1, h2, h3⟩
  · obtain ⟨g, h0⟩ := good_row h3
    refine ⟨join_vo hid, g, h0, ?_⟩
    rw [join_hdr0 h4, h2]
    refine OwnIs.nil _ _ _ _ _ fun b hb => ?_
    obtain ⟨q, _, hq⟩ := joinW_lo.1 hb
    exact h4 q hq
  · have := hj.rel.ow q
    rw [h2] at this
    obtain ⟨_, g, h0, hown⟩ := this
    refine ⟨join_vo hid, g, h0, ?_⟩
    rw [join_hdr h1]
    refine hown.keep g join_imm (fun _ _ => rfl) fun b => ?_
    show joinW E.w lb c b = _ ↔ _
    rw [joinW_lo]
    constructor
    · rintro ⟨q', h5, h6⟩; rw [(h1 q').1 h6] at h5; exact h5
    · exact fun h => ⟨q, h, (h1 q).2 rfl⟩
theorem encs_rep : ∀ {l : List LK0} {id : Nat} {vs : List Value} {x : LKs l}, DecRs E W O c id l vs x → (∀ i ∈ idsL id l, i ∈ idsT lt ++ idsB lb) → l.all (bxIn lb) = true → VReps (joinE E lt lb c) W (encs id l x) vs
  | [], id, vs, x, h, _, _ => by
    have h : vs = [] := h
    subst h; trivial
  | k :: r, id, vs, x, h, hid, hb => by
    obtain ⟨v, us, rfl, h1, h2⟩ := h
    simp only [List.all_cons, Bool.and_eq_true] at hb
    rw [idsL_cons] at hid
    exact ⟨enc0_rep h1 (fun hk => hid id (by simp [idsL, hk])) hb.1, encs_rep h2 (fun i hi => hid i (by simp [hi])) hb.2⟩
theorem encV_rep {t : Nat} {k : LK} {v : Value} {x : k.T} (h : DecV E W O c t k v x) (hid : ∀ i ∈ idsV t k, i ∈ idsT lt ++ idsB lb) (hb : bxV lb k = true) : VRep (joinE E lt lb c) W (encV t k x) v := by
  cases k with
  | v k => exact enc0_rep h (fun hk => hid _ (by simp [idsV, idsL, hk])) hb
  | agg l => obtain ⟨vs, e, h⟩ := h; exact ⟨vs, e, encs_rep h hid hb⟩
theorem encT_len {n : Nat} : ∀ {l : List (Nat × LK)} {x : LVt l}, (encT n l x).length = n
  | [], _ => rfl
  | p :: r, x => by simp only [encT]; rw [setA_len]; exact encT_len
theorem getA_rep (n t : Nat) : getA (FA.none n) t = .v .dead := by
  unfold getA; split <;> rfl
theorem encT_rep {n : Nat} {l : Fr} : ∀ {ls : List (Nat × LK)} {x : LVt ls}, DecT E W O c l ls x → (∀ i ∈ idsT ls, i ∈ idsT lt ++ idsB lb) → (ls.all fun p => bxV lb p.2) = true → ∀ t, VRep (joinE E lt lb c) W (getA (encT n ls x) t) (getL l t)
  | [], x, _, _, _, t => by
    show VRep _ W (getA (FA.none n) t) _
    rw [getA_rep]; trivial
  | p :: r, x, h, hid, hb, t => by
    simp only [List.all_cons, Bool.and_eq_true] at hb
    show VRep _ W (getA (setA (encT n r x.2) p.1 (encV p.1 p.2 x.1)) t) _
    rw [getA_set]
    split
    · rename_i e
      rw [← e.1]
      exact encV_rep h.1 (fun i hi => hid i (by simp [idsT, hi])) hb.1
    · exact encT_rep h.2 (fun i hi => hid i (by simp [idsT, hi])) hb.2 t
def OwS (E : Env) (W : World) (O : OL) (D : Nat → Prop) : Prop := (∀ i, D i → OwnOk E W i (getO O i)) ∧ ∀ i, ¬ D i → getO O i = .no
theorem OwS.congr {D D' : Nat → Prop} (h : OwS E W O D) (hd : ∀ i, D i ↔ D' i) : OwS E W O D' := ⟨fun i hi => h.1 i ((hd i).2 hi), fun i hi => h.2 i fun h => hi ((hd i).1 h)⟩
theorem encO0_ow (hj : JoinOk W0 w0 E B O H W c lt lb) {id : Nat} {k : LK0} {v : Value} {x : k.T} {O' : OL} {D : Nat → Prop} (hd : DecR E W O c id k v x) (hid : ∀ i ∈ idsL id [k], i ∈ idsT lt ++ idsB lb) (h : OwS (joinE E lt lb c) W O' D) : OwS (joinE E lt lb c) W (encO0 id k x O') fun i => D i ∨ i ∈ idsL id [k] := by
  cases hk : isOwnK k with
  | false =>
    have e1 : encO0 id k x O' = O' := by cases k <;> first | rfl | (simp [isOwnK] at hk)
    have e2 : idsL id [k] = [] := by simp [idsL, hk]
    rw [e1, e2]
    exact h.congr fun i => by simp
  | true =>
    cases k <;> first | (simp [isOwnK] at hk; done) | skip
    rename_i e t
    have e2 : idsL id [LK0.own e t] = [id] := rfl
    have hq := enc0_own hj hd (hid id (by rw [e2]; simp))
    rw [e2]
    refine ⟨fun i hi => ?_, fun i hi => ?_⟩
    · show OwnOk _ W i (getO (setO O' id (.own e t x)) i)
      rw [getO_set]
      split
      · rename_i h'; subst h'; exact hq
      · rename_i h'
        rcases hi with hi | hi
        · exact h.1 i hi
        · simp at hi; exact absurd hi.symm h'
    · show getO (setO O' id (.own e t x)) i = .no
      rw [getO_set, if_neg (fun e => hi (.inr (by simp [e])))]
      exact h.2 i fun hd => hi (.inl hd)
theorem encOs_ow (hj : JoinOk W0 w0 E B O H W c lt lb) : ∀ {l : List LK0} {id : Nat} {vs : List Value} {x : LKs l} {O' : OL} {D : Nat → Prop}, DecRs E W O c id l vs x → (∀ i ∈ idsL id l, i ∈ idsT lt ++ idsB lb) → OwS (joinE E lt lb c) W O' D → OwS (joinE E lt lb c) W (encOs id l x O') fun i => D i ∨ i ∈ idsL id l
  | [], id, vs, x, O', D, _, _, h => h.congr fun i => by simp [idsL]
  | k :: r, id, vs, x, O', D, hd, hid, h => by
    obtain ⟨v, us, rfl, h1, h2⟩ := hd
    rw [idsL_cons] at hid ⊢
    exact (encOs_ow hj h2 (fun i hi => hid i (by simp [hi])) (encO0_ow hj h1 (fun i hi => hid i (by simp [hi])) h)).congr fun i => by simp [or_assoc]
theorem encOV_ow (hj : JoinOk W0 w0 E B O H W c lt lb) {t : Nat} {k : LK} {v : Value} {x : k.T} {O' : OL} {D : Nat → Prop} (hd : DecV E W O c t k v x) (hid : ∀ i ∈ idsV t k, i ∈ idsT lt ++ idsB lb) (h : OwS (joinE E lt lb c) W O' D) : OwS (joinE E lt lb c) W (encOV t k x O') fun i => D i ∨ i ∈ idsV t k := by
  cases k with
  | v k => exact encO0_ow hj hd hid h
  | agg l => obtain ⟨vs, e, hd⟩ := hd; exact encOs_ow hj hd hid h
theorem encTO_ow (hj : JoinOk W0 w0 E B O H W c lt lb) {l : Fr} : ∀ {ls : List (Nat × LK)} {x : LVt ls} {O' : OL} {D : Nat → Prop}, DecT E W O c l ls x → (∀ i ∈ idsT ls, i ∈ idsT lt ++ idsB lb) → OwS (joinE E lt lb c) W O' D → OwS (joinE E lt lb c) W (encTO ls x O') fun i => D i ∨ i ∈ idsT ls
  | [], x, O', D, _, _, h => h.congr fun i => by simp [idsT]
  | p :: r, x, O', D, hd, hid, h => by
    simp only [idsT] at hid ⊢
    exact (encOV_ow hj hd.1 (fun i hi => hid i (by simp [hi])) (encTO_ow hj hd.2 (fun i hi => hid i (by simp [hi])) h)).congr fun i => by
      simp only [List.mem_append]
      constructor
      · rintro ((h | h) | h)
        · exact .inl h
        · exact .inr (.inr h)
        · exact .inr (.inl h)
      · rintro (h | h | h)
        · exact .inl (.inl h)
        · exact .inr h
        · exact .inl (.inr h)
theorem encBO_ow (hj : JoinOk W0 w0 E B O H W c lt lb) : ∀ {ls : List LB} {x : LVb ls} {O' : OL} {D : Nat → Prop}, DecB E W O c B ls x → (∀ i ∈ idsB ls, i ∈ idsT lt ++ idsB lb) → OwS (joinE E lt lb c) W O' D → OwS (joinE E lt lb c) W (encBO ls x O') fun i => D i ∨ i ∈ idsB ls
  | [], x, O', D, _, _, h => h.congr fun i => by simp [idsB]
  | p :: r, x, O', D, hd, hid, h => by
    simp only [idsB] at hid ⊢
    obtain ⟨⟨vs, ty, _, _, h1⟩, h2⟩ := hd
    exact (encOs_ow hj h1 (fun i hi => hid i (by simp [hi])) (encBO_ow hj h2 (fun i hi => hid i (by simp [hi])) h)).congr fun i => by
      simp only [List.mem_append]
      constructor
      · rintro ((h | h) | h)
        · exact .inl h
        · exact .inr (.inr h)
        · exact .inr (.inl h)
      · rintro (h | h | h)
        · exact .inl (.inl h)
        · exact .inr h
        · exact .inl (.inr h)
theorem same_nm : ∀ {ls : List LB} {A : Prop}, sameNm (getB B) ls A → A ∧ ∀ p ∈ ls, ∃ cs, getB B p.i = .bx p.nm cs
  | [], A, h => ⟨h, by simp⟩
  | p :: r, A, h => by
    unfold sameNm at h
    split at h <;> first | exact h.elim | skip
    rename_i nm' cs hb
    have go : p.nm = nm' ∧ sameNm (getB B) r A := by
      split at h <;> first | exact h.elim | skip
      · rename_i h1 h2; exact ⟨by assumption, h⟩
      · rename_i a b h1 h2
        exact ⟨by simp only [*], h.2⟩
    obtain ⟨h1, h2⟩ := same_nm go.2
    refine ⟨h1, fun q hq => ?_⟩
    rcases List.mem_cons.1 hq with rfl | hq
    · exact ⟨cs, by rw [go.1]; exact hb⟩
    · exact h2 q hq
theorem encB_ok (hj : JoinOk W0 w0 E B O H W c lt lb) : ∀ {ls : List LB} {x : LVb ls}, DecB E W O c B ls x → (∀ p ∈ ls, ∃ cs, getB B p.i = .bx p.nm cs) → (∀ p ∈ ls, liveB lb p.i = true) → (∀ i ∈ idsB ls, i ∈ idsT lt ++ idsB lb) → (ls.all fun p => p.ks.all (bxIn lb)) = true →
    ∀ i, (liveB ls i = true → BoxOk (fun _ => False) (joinE E lt lb c) W i (getB (encB ls x) i)) ∧ (liveB ls i = false → getB (encB ls x) i = .no)
  | [], x, _, _, _, _, _, i => ⟨fun h => by simp [liveB] at h, fun _ => rfl⟩
  | p :: r, x, hd, hnm, hlv, hid, hb, i => by
    obtain ⟨⟨vs, ty, _, hblk, h1⟩, h2⟩ := hd
    simp only [List.all_cons, Bool.and_eq_true] at hb
    have ih := encB_ok hj h2 (fun q hq => hnm q (by simp [hq])) (fun q hq => hlv q (by simp [hq])) (fun i hi => hid i (by simp [idsB, hi])) hb.2 i
    by_cases hi : p.i = i
    · subst hi
      refine ⟨fun _ => ?_, fun h => by simp [liveB] at h⟩
      show BoxOk _ _ W p.i (if p.i = p.i then .bx p.nm (encs (p.i * 64 + 32) p.ks x.1) else _)
      rw [if_pos rfl]
      obtain ⟨cs, hcs⟩ := hnm p (by simp)
      have hl := hlv p (by simp)
      have := hj.rel.bx p.i
      rw [hcs] at this
      obtain ⟨h3, h4, h5, _⟩ := this.2 id
      refine ⟨fun h => h.elim, fun _ => ⟨hl, fun b => ?_, h5, vs, ty, hblk, encs_rep h1 (fun i hi => hid i (by simp [idsB, hi])) hb.1⟩⟩
      show joinW E.w lb c b = _ ↔ _
      rw [joinW_lb]
      exact ⟨fun h => (h4 b).1 h.1, fun h => ⟨(h4 b).2 h, hl⟩⟩
    · have e1 : liveB (p :: r) i = liveB r i := by simp [liveB, hi]
      have e2 : getB (encB (p :: r) x) i = getB (encB r x.2) i := by
        show (if p.i = i then _ else _) = _
        rw [if_neg hi]
      rw [e1, e2]; exact ih
theorem mk_sound (hj : JoinOk W0 w0 E B O H W c lt lb) (hok : okLive lt lb = true) {l : Fr} {x : LVt lt} {y : LVb lb} (hT : DecT E W O c l lt x) (hB : DecB E W O c B lb y) (hnm : ∀ p ∈ lb, ∃ cs, getB B p.i = .bx p.nm cs) : SRel W0 w0 (mkSt l.length lt lb (x, y) H) l W := by
  unfold okLive at hok
  simp only [Bool.and_eq_true] at hok
  obtain ⟨⟨ok1, ok2⟩, ok3⟩ := hok
  have hlv : ∀ p ∈ lb, liveB lb p.i = true := fun p hp => List.any_eq_true.2 ⟨p, hp, by simp⟩
  have hm := hj.rel
  have hbx := encB_ok hj hB hnm hlv (fun i hi => by simp [hi]) ok2
  have how := encTO_ow hj hT (fun i hi => by simp [hi]) (encBO_ow hj hB (fun i hi => by simp [hi]) (O' := []) (D := fun _ => False) ⟨fun i h => h.elim, fun i _ => rfl⟩)
  have how : OwS (joinE E lt lb c) W (encTO lt x (encBO lb y [])) fun i => i ∈ idsT lt ++ idsB lb := how.congr fun i => by
    simp only [List.mem_append, false_or]
    exact or_comm
  have obS : ∀ u : Tag, (∀ i, u ≠ .lb i) → (∀ i, u ≠ .lo i) → Same E.w W (joinE E lt lb c).w W u u := fun u h1 h2 b => ⟨joinW_same h1 h2, fun _ => rfl⟩
  refine ⟨joinE E lt lb c, ⟨fun b hb => joinW_none (hm.wf b hb), ?_, fun i => ?_, fun i => ?_, fun n => (hm.ob n).keep join_imm (obS _ (by simp) (by simp)) fun j => obS _ (by simp) (by simp), fun b j => ⟨fun h => (hm.clean b j).1 ((obS _ (by simp) (by simp) b).1.1 h), fun h => (hm.clean b j).2 ((obS _ (by simp) (by simp) b).1.1 h)⟩, hm.ba⟩, encT_len, fun t _ => encT_rep hT (fun i hi => by simp [hi]) ok1 t⟩
  · have hsn := hm.since
    exact ⟨hsn.os, hsn.tape, hsn.output, hsn.size, fun b hb h => ⟨joinW_none (hsn.im b hb h).1, (hsn.im b hb h).2⟩, fun b h => ⟨(joinW_same (by simp) (by simp)).2 (hsn.ext b h).1, (hsn.ext b h).2⟩, fun b h => hsn.noext b ((joinW_same (by simp) (by simp)).1 h)⟩
  · show BoxOk _ _ W i (getB (encB lb y) i)
    cases hl : liveB lb i with
    | true => exact (hbx i).1 hl
    | false =>
      rw [(hbx i).2 hl]
      refine ⟨fun b h => ?_, hl⟩
      have := (joinW_lb.1 h).2
      rw [hl] at this; cases this
  · show OwnOk _ W i (getO (encTO lt x (encBO lb y [])) i)
    by_cases hi : i ∈ idsT lt ++ idsB lb
    · exact how.1 i hi
    · rw [how.2 i hi]
      refine ⟨fun b h => ?_, ?_⟩
      · obtain ⟨q, _, hq⟩ := joinW_lo.1 h
        exact hi (hj.dom q i hq)
      · show decide _ = false
        exact decide_eq_false hi
theorem join_sound0 {s : St} {l : Fr} {n : Nat} {v : LVt lt × LVb lb} (hs : SRel W0 w0 s l W) (hok : okLive lt lb = true) (hd : decSt n lt lb s = some v) (hnm : ∀ p ∈ lb, ∃ cs, getB s.B p.i = .bx p.nm cs) : SRel W0 w0 (mkSt n lt lb v s.H) l W := by
  obtain ⟨E, hm, hf⟩ := hs
  unfold decSt at hd
  split at hd <;> first | (cases hd; done) | skip
  rename_i hlen
  have hlen : s.f.length = n := Nat.eq_of_beq_eq_true hlen
  split at hd <;> first | (cases hd; done) | skip
  rename_i x O1' hx
  split at hd <;> first | (cases hd; done) | skip
  rename_i y O2' hy
  injection hd with hd
  subst hd
  have hnd := hok
  unfold okLive at hnd
  simp only [Bool.and_eq_true] at hnd
  obtain ⟨n1, n2, n3⟩ := nodup_app hnd.2
  obtain ⟨O1, c1, E1, m1, p1, hh1, l1, d1⟩ := decT_sound hm hf (handed_refl s.O) (fun q i h => by cases h) n1 hx
  obtain ⟨O2, c2, E2, m2, p2, hh2, l2, d2⟩ := decB_sound m1 hh1 (fun q i hq hi => by
    rcases l1.new q i hq with h | h
    · cases h
    · exact n3 i h hi) n2 hy
  rw [← hlen, hf.1]
  refine mk_sound ⟨m2, fun q i hq => (hh2.gone q i hq).2, fun q i hq => ?_⟩ hok (d1.later p2 l2 (handed_vo m1 hh1) n3) d2 hnm
  rcases l2.new q i hq with h | h
  · rcases l1.new q i h with h | h
    · cases h
    · simp [h]
  · simp [h]
theorem join_sound {s : St} {l : Fr} {n : Nat} {v : LVt lt × LVb lb} {A : Prop} (hs : SRel W0 w0 s l W) (hok : okLive lt lb = true) (hd : decSt n lt lb s = some v) (hn : sameNm (getB s.B) lb A) : A ∧ SRel W0 w0 (mkSt n lt lb v s.H) l W := by
  obtain ⟨hA, hnm⟩ := same_nm hn
  exact ⟨hA, join_sound0 hs hok hd hnm⟩
end
end Go.Ga
set_option linter.unusedSimpArgs false
set_option linter.unusedVariables false
namespace Go.Ga
open Go Go.Gp
section
variable {cx : Cx} {hn : Hn} {W0 : World} {w0 : Mk}
def liftA (W0 : World) (w0 : Mk) (Q : Exit → St → Prop) (e : Exit) (a : Act) (W : World) : Prop :=
  match e with
  | .panic _ => False
  | .outgrown => False
  | e => ∃ l s, a = actOf l ∧ SRel W0 w0 s l W ∧ Q e s
theorem liftA_seq {P : Program} {c : Code} {Q : Exit → St → Prop} {B : St → Prop} {e : Exit} {b : Act} {W : World}
    (h : liftA W0 w0 (fun e s' => match e with | .normal => B s' | e => Q e s') e b W) (hb : ∀ s l W, SRel W0 w0 s l W → B s → c.wp P (liftA W0 w0 Q) (actOf l) W) :
    Exit.then (c.wp P (liftA W0 w0 Q)) (liftA W0 w0 Q) e b W := by
  cases e with
  | normal => obtain ⟨l, s, rfl, h1, h2⟩ := h; exact hb _ _ _ h1 h2
  | exit id => exact h
  | goto l => exact h
  | ret => exact h
  | panic c => exact h
  | outgrown => exact h
theorem draw_rel {ops : Array Oper} {s : St} {l : Fr} {W : World} (hs : SRel W0 w0 s l W) : SRel W0 w0 s l { W with drawn := W.drawn + 1 } := by
  obtain ⟨E, hm, hf⟩ := hs
  exact ⟨E, hm.quiet quiet_drew, hf.pers quiet_drew.pers⟩
theorem region_sound (hmo : cx.P.follows .mixedOrders = true) {id : Nat} {ops : Array Oper} {Q : Exit → St → Prop} {s : St} {l : Fr} {W : World} (hs : SRel W0 w0 s l W) (h : (match Region.noSelect ops && preOk ops && wfReg ops with
    | true => aDraw cx ops (Q .normal) ops.size (Array.replicate ops.size false) s
    | false => False)) : (Code.region id ops true).wp cx.P (liftA W0 w0 Q) (actOf l) W := by
  split at h <;> first | exact h.elim | skip
  rename_i hc
  simp only [Bool.and_eq_true] at hc
  have hsz : (Array.replicate ops.size false).size = ops.size := by simp
  have hno : ∀ j, (Array.replicate ops.size false).getD j false = false := fun j => by
    by_cases hj : j < ops.size
    · simp [Array.getD, hj]
    · simp [Array.getD, hj]
  have np : ∀ p, ¬ Pend (Array.replicate ops.size false) (Array.replicate ops.size false) p := fun p hp => by have := hp.1; rw [hno p] at this; cases this
  have hcl : Closed ops (Array.replicate ops.size false) := fun j o hj hl => by rw [hno j] at hl; cases hl
  obtain ⟨E, hm, hf⟩ := draw_rel (ops := ops) hs
  refine wp_region_any hmo (draw_sound (cx := cx) (W0 := W0) (w0 := w0) (wfr_of hc.2) hc.1.2 (fun s l W h1 h2 => ⟨l, s, rfl, h1, h2⟩) ops.size ops.size _ _ s l _ ⟨hsz, hsz, fun j h => h, hcl, hcl, ⟨E, hm.congrX fun i _ => ⟨fun h => h.elim, fun ⟨p, _, h, _⟩ => np p h⟩, hf.1, fun t _ => hf.2 t fun h => h⟩, fun p o h => absurd h (np p), fun _ _ => rfl⟩ (fun p o j oj h => absurd h (np p)) ?_ h)
  unfold left
  exact Nat.le_trans List.countP_le_length (by simp)
theorem ordreg_sound (hmo : cx.P.follows .mixedOrders = true) {id : Nat} {ops : Array Oper} {zm om : Nat} {tb : List Ent} {ls : List Stp} {Q : Exit → St → Prop} {s : St} {l : Fr} {W : World} (hs : SRel W0 w0 s l W) (h : (match Region.noSelect ops && tabOk cx ops ops.toList tb && ancOk tb tb && wfT zm tb tb 0 && ordOk zm tb ls 0 with
    | true => aOrd cx ops om (Q .normal) ls s
    | false => False)) : (Code.region id ops true).wp cx.P (liftA W0 w0 Q) (actOf l) W := by
  split at h <;> first | exact h.elim | skip
  rename_i hc
  simp only [Bool.and_eq_true] at hc
  obtain ⟨⟨⟨⟨c1, c2⟩, c3⟩, c4⟩, c5⟩ := hc
  have ht := tabP_of c2
  have hsz : (Array.replicate ops.size false).size = ops.size := by simp
  have hno : ∀ j, (Array.replicate ops.size false).getD j false = false := fun j => by
    by_cases hj : j < ops.size
    · simp [Array.getD, hj]
    · simp [Array.getD, hj]
  have np : ∀ p, ¬ Pend (Array.replicate ops.size false) (Array.replicate ops.size false) p := fun p hp => by have := hp.1; rw [hno p] at this; cases this
  have hcl : Closed ops (Array.replicate ops.size false) := fun j o hj hl => by rw [hno j] at hl; cases hl
  obtain ⟨E, hm, hf⟩ := draw_rel (ops := ops) hs
  refine wp_region_any hmo (ord_sound (cx := cx) (W0 := W0) (w0 := w0) (wfr_tab ht c4) (fun s l W h1 h2 => ⟨l, s, rfl, h1, h2⟩) ops.size ls _ _ s l _ ⟨hsz, hsz, fun j h => h, hcl, hcl, ⟨E, hm.congrX fun i _ => ⟨fun h => h.elim, fun ⟨p, _, h, _⟩ => np p h⟩, hf.1, fun t _ => hf.2 t fun h => h⟩, fun p o h => absurd h (np p), fun p h => absurd h (np p)⟩ (fun p o j oj h => absurd h (np p)) (ordP_of ht c4 c3 ls 0 _ hsz (fun j hj => by rw [tbit_zero, hno j]) c5) ?_ h)
  unfold left
  exact Nat.le_trans List.countP_le_length (by simp)
theorem kindB_nm {gB : Nat → BxE} {g : Nat → OwE} {hB : List ((Nat × Nat) × LK0)} : ∀ {lb : List Nat}, ∀ p ∈ kindB gB g hB lb, ∃ cs, gB p.i = .bx p.nm cs
  | [], p, h => by simp [kindB] at h
  | i :: r, p, h => by
    simp only [kindB, List.mem_append] at h
    rcases h with h | h
    · cases hb : gB i with
      | bx nm cs =>
        rw [hb] at h
        simp only [List.mem_singleton] at h
        subst h
        exact ⟨cs, hb⟩
      | no => rw [hb] at h; simp at h
      | closed n k => rw [hb] at h; simp at h
    · exact kindB_nm p h
theorem least {P : Nat → Prop} (h : ∃ n, P n) : ∃ n, P n ∧ ∀ m, P m → n ≤ m := by
  obtain ⟨n, hn⟩ := h
  induction n using Nat.strongRecOn with
  | ind n ih =>
    by_cases h : ∃ m, m < n ∧ P m
    · obtain ⟨m, h1, h2⟩ := h; exact ih m h1 h2
    · exact ⟨n, hn, fun m hm => Nat.le_of_not_lt fun hlt => h ⟨m, hlt, hm⟩⟩
def loopQ (n : Nat) (lt : List (Nat × LK)) (lb : List LB) (Q : Exit → St → Prop) (C : (LVt lt × LVb lb) → HP → Prop) (e : Exit) (s' : St) : Prop :=
  match e with
  | .normal => (match decSt n lt lb s' with
    | some v' => sameNm (getB s'.B) lb (C v' s'.H)
    | none => False)
  | e => Q e s'
theorem loop_sound {lt : List (Nat × LK)} {lb : List LB} {n : Nat} {v : LVt lt × LVb lb} {H : HP} {l : Fr} {W : World} {x : Code} {Q : Exit → St → Prop} {body : (LVt lt × LVb lb) → HP → ((LVt lt × LVb lb) → HP → Prop) → Prop} (hok : okLive lt lb = true)
    (hs : SRel W0 w0 (mkSt n lt lb v H) l W) (h : LoopA v H body)
    (hb : ∀ v H l W C, SRel W0 w0 (mkSt n lt lb v H) l W → body v H C → x.wp cx.P (liftA W0 w0 (loopQ n lt lb Q C)) (actOf l) W) : (Code.loop x).wp cx.P (liftA W0 w0 Q) (actOf l) W := by
  obtain ⟨I, m, h0, hstep⟩ := h
  let S : Act → World → Nat → Prop := fun b W' k => ∃ l v H, b = actOf l ∧ SRel W0 w0 (mkSt n lt lb v H) l W' ∧ I v H ∧ m v H = k
  have hex : ∀ b W', ∃ k, (∃ k, S b W' k) → S b W' k ∧ ∀ j, S b W' j → k ≤ j := fun b W' => by
    by_cases h : ∃ k, S b W' k
    · obtain ⟨k, h1, h2⟩ := least h; exact ⟨k, fun _ => ⟨h1, h2⟩⟩
    · exact ⟨0, fun h' => absurd h' h⟩
  refine wp_loop (fun b W' => ∃ k, S b W' k) (fun b W' => Classical.choose (hex b W')) ⟨_, l, v, H, rfl, hs, h0, rfl⟩ fun b W' hI => ?_
  obtain ⟨⟨l', v', H', rfl, hs', hI', hm⟩, hmin⟩ := Classical.choose_spec (hex b W') hI
  refine wp_mono (hb v' H' l' W' _ hs' (hstep v' H' hI')) fun e b' W'' hq => ?_
  cases e with
  | normal =>
    obtain ⟨l'', s'', rfl, h1, h2⟩ := hq
    simp only [loopQ] at h2
    split at h2 <;> first | exact h2.elim | skip
    rename_i v'' hv''
    obtain ⟨⟨h3, h4⟩, h5⟩ := join_sound h1 hok hv'' h2
    have hS : S (actOf l'') W'' (m v'' s''.H) := ⟨l'', v'', s''.H, rfl, h5, h3, rfl⟩
    refine ⟨⟨_, hS⟩, ?_⟩
    have := (Classical.choose_spec (hex (actOf l'') W'') ⟨_, hS⟩).2 _ hS
    rw [← hm]
    exact Nat.lt_of_le_of_lt this h4
  | exit id => exact hq
  | goto l => exact hq
  | ret => exact hq
  | panic c => exact hq
  | outgrown => exact hq
theorem aListG_sound {ops : Array Oper} {K : St → Prop} {Q : Exit → Act → World → Prop} (hk : ∀ s l W, SRel W0 w0 s l W → K s → Q .normal (actOf l) W) :
    ∀ (g : List (List Gh)) (os : List Oper) (s : St) (l : Fr) (W : World), SRel W0 w0 s l W → aListG cx ops K g os s → wpList cx.P ops Q os (actOf l) W
  | [], os, s, l, W, hs, h => aList_sound hk os s l W hs h
  | g :: gs, os, s, l, W, hs, h => by
    unfold aListG at h
    obtain ⟨s1, h1, h2⟩ := aGh_sound hs h
    cases os with
    | nil => exact wpList_nil (hk s1 l W h2 h1)
    | cons o rest =>
      unfold wpList
      have := anyG_sound (Q := Q) (next := wpList cx.P ops Q rest) h2 h1 fun s' l' W' hs' h' => aListG_sound hk gs rest s' l' W' hs' h'
      split
      · rename_i hw; rw [if_pos hw] at this; exact .inl this
      · rename_i hw; rw [if_neg hw] at this; exact this
theorem aCode_sound (hmo : cx.P.follows .mixedOrders = true) : ∀ (an : An) (c : Code) (Q : Exit → St → Prop) (s : St) (l : Fr) (W : World), SRel W0 w0 s l W → aCode cx hn an c Q s → c.wp cx.P (liftA W0 w0 Q) (actOf l) W := by
  intro an
  induction an with
  | n =>
    intro c Q s l W hs h
    cases c with
    | skip => exact wp_skip ⟨l, s, rfl, hs, h⟩
    | label _ => exact wp_label ⟨l, s, rfl, hs, h⟩
    | exit id => exact wp_exit ⟨l, s, rfl, hs, h⟩
    | ret => exact wp_ret ⟨l, s, rfl, hs, h⟩
    | region id ops draw =>
      cases draw with
      | false => exact wp_region_list (aList_sound (fun s l W h1 h2 => ⟨l, s, rfl, h1, h2⟩) _ _ _ _ hs h)
      | true => exact region_sound hmo hs h
    | _ => exact h.elim
  | lst g =>
    intro c Q s l W hs h
    cases c with
    | region id ops draw =>
      cases draw with
      | false => exact wp_region_list (aListG_sound (fun s l W h1 h2 => ⟨l, s, rfl, h1, h2⟩) _ _ _ _ _ hs h)
      | true => exact h.elim
    | _ => exact h.elim
  | ord zm om tb ls =>
    intro c Q s l W hs h
    cases c with
    | region id ops draw =>
      cases draw with
      | false => exact h.elim
      | true => exact ordreg_sound hmo hs h
    | _ => exact h.elim
  | gh g a ih =>
    intro c Q s l W hs h
    have h : aGh (fun s' => aCode cx hn a c Q s') g s := by cases c <;> exact h
    obtain ⟨s', h1, h2⟩ := aGh_sound hs h
    exact ih c Q s' l W h2 h1
  | ghe a g ih =>
    intro c Q s l W hs h
    have h : aCode cx hn a c (fun e s' => (match e with
      | .normal => aGh (Q .normal) g s'
      | e => Q e s')) s := by cases c <;> exact h
    refine wp_mono (ih c _ s l W hs h) fun e b' W' hq => ?_
    cases e with
    | normal =>
      obtain ⟨l', s', rfl, h1, h2⟩ := hq
      obtain ⟨s'', h3, h4⟩ := aGh_sound h1 h2
      exact ⟨l', s'', rfl, h4, h3⟩
    | exit id => exact hq
    | goto l => exact hq
    | ret => exact hq
    | panic c => exact hq
    | outgrown => exact hq
  | seq a b iha ihb =>
    intro c Q s l W hs h
    cases c with
    | seq x y => exact wp_seq (wp_mono (iha x _ s l W hs h) fun e b' W' hq => liftA_seq hq fun s' l' W'' h1 h2 => ihb y Q s' l' W'' h1 h2)
    | _ => exact h.elim
  | join lt lb a b iha ihb =>
    intro c Q s l W hs h
    cases c with
    | seq x y =>
      simp only [aCode] at h
      split at h <;> first | exact h.elim | skip
      rename_i hok
      simp only [JoinA, fcS_eq] at h
      refine wp_seq (wp_mono (iha x _ s l W hs h) fun e b' W' hq => liftA_seq (B := fun s' => match decSt s.f.length lt (lbOf s lb) s' with
            | some v => sameNm (getB s'.B) (lbOf s lb) (aCode cx hn b y Q (mkSt s.f.length lt (lbOf s lb) v s'.H))
            | none => False) hq fun s' l' W'' h1 h2 => ?_)
      split at h2 <;> first | exact h2.elim | skip
      rename_i v hv
      obtain ⟨h3, h4⟩ := join_sound h1 hok hv h2
      exact ihb y Q _ _ _ h4 h3
    | _ => exact h.elim
  | cond a b iha ihb =>
    intro c Q s l W hs h
    cases c with
    | cond c x y =>
      simp only [aCode] at h
      split at h <;> first | exact h.elim | skip
      rename_i t ht
      have hv : (actOf l).eval c = .bool t := by
        obtain ⟨E, hm, hf⟩ := hs
        have := ev_rep (x := c) hm fun t _ => hf.2 t id
        rw [ht] at this
        exact this.1
      cases t with
      | true => exact wp_cond_true hv (iha x Q s l W hs h)
      | false => exact wp_cond_false hv (ihb y Q s l W hs h)
    | _ => exact h.elim
  | blk a ih =>
    intro c Q s l W hs h
    cases c with
    | block id x =>
      refine wp_block (wp_mono (ih x _ s l W hs h) fun e b' W' hq => ?_)
      cases e with
      | normal => exact hq
      | exit id' =>
        obtain ⟨l', s', rfl, h1, hq⟩ := hq
        simp only [Exit.inBlock]
        replace hq : if id' = id then Q .normal s' else Q (.exit id') s' := hq
        split at hq
        · rename_i he; rw [if_pos he]; exact ⟨l', s', rfl, h1, hq⟩
        · rename_i he; rw [if_neg he]; exact ⟨l', s', rfl, h1, hq⟩
      | goto l => exact hq
      | ret => exact hq
      | panic c => exact hq
      | outgrown => exact hq
    | _ => exact h.elim
  | loop lt lb a ih =>
    intro c Q s l W hs h
    cases c with
    | loop x =>
      simp only [aCode] at h
      split at h <;> first | exact h.elim | skip
      rename_i v hok hv
      simp only [fcS_eq] at h
      exact loop_sound hok (join_sound0 hs hok hv kindB_nm) h fun v H l W C hs' hbody => ih x _ _ l W hs' (by
        have e : loopQ s.f.length (ktOf hn s lt) (kbOf hn s lb) Q C = fun e s' => (match e with
          | .normal => (match decSt s.f.length (ktOf hn s lt) (kbOf hn s lb) s' with
            | some v' => sameNm (getB s'.B) (kbOf hn s lb) (C v' s'.H)
            | none => False)
          | e => Q e s') := by
            funext e s'
            cases e <;> first | rfl | (simp only [loopQ]; cases decSt s.f.length (ktOf hn s lt) (kbOf hn s lb) s' <;> rfl)
        rw [e]; exact hbody)
    | _ => exact h.elim
end
end Go.Ga
set_option linter.unusedSimpArgs false
set_option linter.unusedVariables false
namespace Go.Ga
open Go Go.Gp
section
variable {W : World} {H : HP} {w : Mk}
def pOwn (i : Nat) : List (Bool × AK) → Nat → Bool
  | [], _ => false
  | p :: r, k => if k / 64 = i then p.2.ownAt (k % 64) else pOwn (i + 1) r k
def tagOf (i j : Nat) : List (Bool × AK) → Nat → Nat
  | [], _ => 0
  | p :: r, k => if k / 64 = i then j + k % 64 else tagOf (i + 1) (j + p.2.sz) r k
def argId (i j : Nat) : List (Bool × AK) → Nat → Option Nat
  | [], _ => none
  | p :: r, a => if a < j + p.2.sz then (if p.2.ownAt (a - j) then some (i * 64 + (a - j)) else none) else argId (i + 1) (j + p.2.sz) r a
theorem pOwn_ge : ∀ {ps : List (Bool × AK)} {i k : Nat}, pOwn i ps k = true → i ≤ k / 64
  | [], i, k, h => by simp [pOwn] at h
  | p :: r, i, k, h => by
    simp only [pOwn] at h
    split at h
    · omega
    · have := pOwn_ge h; omega
theorem argId_iff : ∀ {ps : List (Bool × AK)} {i j a k : Nat}, szOk ps = true → j ≤ a → (argId i j ps a = some k ↔ pOwn i ps k = true ∧ tagOf i j ps k = a)
  | [], i, j, a, k, _, _ => by simp [argId, pOwn]
  | p :: r, i, j, a, k, hs, hj => by
    simp only [szOk, List.all_cons, Bool.and_eq_true, decide_eq_true_eq] at hs
    simp only [argId, pOwn, tagOf]
    by_cases h1 : a < j + p.2.sz
    · rw [if_pos h1]
      constructor
      · intro h
        split at h <;> first | (cases h; done) | skip
        rename_i ho
        injection h with h
        have e1 : k / 64 = i := by omega
        have e2 : k % 64 = a - j := by omega
        rw [if_pos e1, if_pos e1, e2]
        exact ⟨ho, by omega⟩
      · rintro ⟨h2, h3⟩
        by_cases hk : k / 64 = i
        · rw [if_pos hk] at h2 h3
          rw [show a - j = k % 64 from by omega, h2, if_pos rfl]
          congr 1; omega
        · rw [if_neg hk] at h2 h3
          exfalso
          have := tagOf_ge h2 (j := j + p.2.sz)
          omega
    · rw [if_neg h1, argId_iff (by simpa [szOk] using hs.2) (by omega)]
      constructor
      · rintro ⟨h2, h3⟩
        have := pOwn_ge h2
        have hk : ¬ k / 64 = i := by omega
        rw [if_neg hk, if_neg hk]; exact ⟨h2, h3⟩
      · rintro ⟨h2, h3⟩
        by_cases hk : k / 64 = i
        · rw [if_pos hk] at h2 h3
          have := ownAt_lt h2
          omega
        · rw [if_neg hk] at h2 h3; exact ⟨h2, h3⟩
where
  tagOf_ge : ∀ {ps : List (Bool × AK)} {i j k : Nat}, pOwn i ps k = true → j ≤ tagOf i j ps k
    | [], i, j, k, h => by simp [pOwn] at h
    | p :: r, i, j, k, h => by
      simp only [pOwn] at h
      simp only [tagOf]
      split at h
      · rename_i hk; rw [if_pos hk]; omega
      · rename_i hk; rw [if_neg hk]; have := tagOf_ge (j := j + p.2.sz) h; omega
theorem TCel.shift {tg : Nat → Tag} {q : Nat} : ∀ {k : AK} {j : Nat} {vs : List Value} {x : k.T}, TCel w W tg k (q + j) vs x → TCel w W (fun i => tg (q + i)) k j vs x
  | .own _ _, _, _, _, h => h
  | .cons a b, j, _, _, h => by
    obtain ⟨va, vb, e, h1, h2⟩ := h
    exact ⟨va, vb, e, TCel.shift h1, TCel.shift (by rw [Nat.add_assoc] at h2; exact h2)⟩
  | .fn _, _, _, _, h => h
  | .one _, _, _, _, h => h
  | .byte, _, _, _, h => h
  | .ref, _, _, _, h => h
  | .row _, _, _, _, h => h
  | .brw _, _, _, _, h => h
  | .nil, _, _, _, h => h
structure ArgsIn (w : Mk) (W : World) (i j : Nat) (ps : List (Bool × AK)) (xs : HT ps) (vs : List Value) (hd : Nat → Sl) : Prop where
  own : ∀ (O : OL) k, pOwn i ps k = true → OwnN w W (.arg (tagOf i j ps k)) (hd k) (getO (initO i ps xs O) k)
  other : ∀ (O : OL) k, pOwn i ps k = false → getO (initO i ps xs O) k = getO O k
  vals : ∀ E : Env, (∀ b, w b = none → E.w b = none) → (∀ b, w b = some .ext → E.w b = some .ext) → (∀ k, pOwn i ps k = true → E.vo k = true ∧ E.hdr k = hd k) → VRepL E W (initF i ps xs) vs
theorem ownsM_div {base : Nat} {k : AK} {x : k.T} {O : OL} {n i : Nat} (hb : base = i * 64) (hs : k.sz ≤ 32) (h : ¬ (n / 64 = i ∧ k.ownAt (n % 64) = true)) : getO (k.ownsM base 0 x O) n = getO O n := by
  rw [ownsM_other]
  rintro ⟨h1, h2⟩
  rw [Nat.sub_zero] at h2
  have := ownAt_lt h2
  have e1 : n / 64 = i := by omega
  have e2 : n % 64 = n - base := by omega
  exact h ⟨e1, by rw [e2]; exact h2⟩
theorem args_in : ∀ {ps : List (Bool × AK)} {i j : Nat} {xs : HT ps} {vs : List Value}, goodQs ps = true → szOk ps = true → ArgRep w W j ps vs xs → ∃ hd, ArgsIn w W i j ps xs vs hd
  | [], i, j, xs, vs, _, _, h => by
    have h : vs = [] := h
    subst h
    exact ⟨fun _ => ⟨none, 0, 0⟩, fun O k h => by simp [pOwn] at h, fun O k _ => rfl, fun E _ _ _ => trivial⟩
  | (ag, p) :: r, i, j, xs, vs, hg, hs, h => by
    obtain ⟨v, us, rfl, hr, hp⟩ := h
    simp only [goodQs, Bool.and_eq_true] at hg
    simp only [szOk, List.all_cons, Bool.and_eq_true, decide_eq_true_eq] at hs
    obtain ⟨hd, ih⟩ := args_in (i := i + 1) hg.2 (by simpa [szOk] using hs.2) hr
    have first : ∃ hd0 : Nat → Sl, (∀ (O : OL) k, k / 64 = i → p.ownAt (k % 64) = true → OwnN w W (.arg (j + k % 64)) (hd0 (k % 64)) (getO (p.ownsM (i * 64) 0 xs.1 O) k)) ∧
        ∀ E : Env, (∀ b, w b = none → E.w b = none) → (∀ b, w b = some .ext → E.w b = some .ext) → (∀ o, p.ownAt o = true → E.vo (i * 64 + o) = true ∧ E.hdr (i * 64 + o) = hd0 o) → VRep E W (avOfc (resC (i * 64) (ag, p) 0 xs.1)) v := by
      obtain ⟨cs, hc, hsh⟩ := hp
      obtain ⟨hd0, o1, r1⟩ := pcel_split (q := j) (j := 0) hg.1 hc
      refine ⟨hd0, fun O k h1 h2 => ?_, fun E h1 h2 h3 => ?_⟩
      · have := ownsM_own (O := O) (base := i * 64) (n := k) hg.1 o1 (by omega) (by rw [Nat.sub_zero, show k - i * 64 = k % 64 from by omega]; exact h2)
        rwa [show k - i * 64 = k % 64 from by omega] at this
      · have hv := r1 E W (i * 64) (fun b hb _ => ⟨h1 b hb, SameC.of rfl⟩) (fun b hb _ => ⟨hb.imp (h1 b) (h2 b), SameC.of rfl⟩) fun q _ _ hq => h3 q (by rwa [Nat.sub_zero] at hq)
        refine avc_rep ?_
        unfold resC
        cases ag with
        | true => exact ⟨cs, hsh, hv⟩
        | false =>
          have hsh : cs = [v] := hsh
          subst hsh
          simp only
          split
          · rename_i a ha; rw [ha] at hv; exact hv.1
          · exact trivial
    obtain ⟨hd0, f1, f2⟩ := first
    refine ⟨fun k => if k / 64 = i then hd0 (k % 64) else hd k, fun O k hk => ?_, fun O k hk => ?_, fun E h1 h2 h3 => ⟨f2 E h1 h2 fun o ho => ?_, ih.vals E h1 h2 fun k hk => ?_⟩⟩
    · simp only [pOwn] at hk
      simp only [tagOf]
      split at hk
      · rename_i hki
        rw [if_pos hki, if_pos hki]
        show OwnN w W _ _ (getO (initO (i + 1) r xs.2 _) k)
        rw [ih.other _ k]
        · exact f1 O k hki hk
        · cases h : pOwn (i + 1) r k with
          | false => rfl
          | true => have := pOwn_ge h; omega
      · rename_i hki
        rw [if_neg hki, if_neg hki]
        exact ih.own _ k hk
    · simp only [pOwn] at hk
      show getO (initO (i + 1) r xs.2 _) k = _
      split at hk
      · rename_i hki
        rw [ih.other _ k, ownsM_div rfl hs.1]
        · rintro ⟨_, h⟩; rw [hk] at h; cases h
        · cases h : pOwn (i + 1) r k with
          | false => rfl
          | true => have := pOwn_ge h; omega
      · rename_i hki
        rw [ih.other _ k hk, ownsM_div rfl hs.1 fun h => hki h.1]
    · have := ownAt_lt ho
      have e1 : (i * 64 + o) / 64 = i := by omega
      have e2 : (i * 64 + o) % 64 = o := by omega
      have := h3 (i * 64 + o) (by simp only [pOwn]; rw [if_pos e1, e2]; exact ho)
      rw [if_pos e1, e2] at this
      exact this
    · have hge := pOwn_ge hk
      have hki : ¬ k / 64 = i := by omega
      have := h3 k (by simp only [pOwn]; rw [if_neg hki]; exact hk)
      rw [if_neg hki] at this
      exact this
end
end Go.Ga
set_option linter.unusedSimpArgs false
set_option linter.unusedVariables false
namespace Go.Ga
open Go Go.Gp
section
variable {cx : Cx} {hn : Hn} {W0 W : World} {w0 w : Mk} {H : HP}
def argW (w : Mk) (ps : List (Bool × AK)) : Mk := fun b => match w b with
  | some (.arg a) => (match argId 0 0 ps a with | some k => some (.lo k) | none => none)
  | τ => τ
theorem argW_none {ps : List (Bool × AK)} {b : Nat} (h : w b = none) : argW w ps b = none := by unfold argW; rw [h]
theorem argW_same {ps : List (Bool × AK)} {b : Nat} {u : Tag} (h1 : ∀ i, u ≠ .arg i) (h2 : ∀ i, u ≠ .lo i) : argW w ps b = some u ↔ w b = some u := by
  unfold argW
  cases h : w b with
  | none => simp
  | some t =>
    cases t with
    | arg a =>
      cases hc : argId 0 0 ps a with
      | none => simp only [hc]; exact ⟨fun e => (by cases e), fun e => by injection e with e; exact absurd e.symm (h1 a)⟩
      | some j => simp only [hc]; exact ⟨fun e => by injection e with e; exact absurd e.symm (h2 j), fun e => by injection e with e; exact absurd e.symm (h1 a)⟩
    | _ => exact Iff.rfl
theorem argW_lo {ps : List (Bool × AK)} (hs : szOk ps = true) {b k : Nat} (hl : ¬ isLoc (w b)) : argW w ps b = some (.lo k) ↔ pOwn 0 ps k = true ∧ w b = some (.arg (tagOf 0 0 ps k)) := by
  unfold argW
  cases h : w b with
  | none => simp
  | some t =>
    cases t with
    | arg a =>
      cases hc : argId 0 0 ps a with
      | none =>
        simp only [hc]
        refine ⟨fun e => (by cases e), fun ⟨h1, h2⟩ => ?_⟩
        injection h2 with h2
        injection h2 with h2
        have := (argId_iff (i := 0) (j := 0) (k := k) hs (Nat.zero_le a)).2 ⟨h1, h2.symm⟩
        rw [hc] at this; cases this
      | some j =>
        simp only [hc]
        constructor
        · intro e
          injection e with e
          injection e with e
          subst e
          obtain ⟨h1, h2⟩ := (argId_iff (i := 0) (j := 0) hs (Nat.zero_le a)).1 hc
          exact ⟨h1, by rw [h2]⟩
        · rintro ⟨h1, h2⟩
          injection h2 with h2
          injection h2 with h2
          have := (argId_iff (i := 0) (j := 0) (k := k) hs (Nat.zero_le a)).2 ⟨h1, h2.symm⟩
          rw [hc] at this
          injection this with this
          rw [this]
    | lb i => rw [h] at hl; exact absurd trivial hl
    | lo i => rw [h] at hl; exact absurd trivial hl
    | _ => simp
theorem repL_get {E : Env} : ∀ {f : List AV} {vs : List Value}, VRepL E W f vs → f.length = vs.length ∧ ∀ t, t < f.length → VRep E W (lstA f t) (getL vs t)
  | [], [], _ => ⟨rfl, fun t h => by simp at h⟩
  | _ :: _, _ :: _, h => by
    obtain ⟨h1, h2⟩ := repL_get h.2
    refine ⟨by simp [h1], fun t ht => ?_⟩
    cases t with
    | zero => exact h.1
    | succ t => exact h2 t (by simpa using ht)
  | [], _ :: _, h => h.elim
  | _ :: _, [], h => h.elim
theorem lstA_out : ∀ (f : List AV) {t : Nat}, f.length ≤ t → lstA f t = .v .dead
  | [], _, _ => rfl
  | _ :: f, 0, h => by simp at h
  | _ :: f, t + 1, h => lstA_out f (by simpa using h)
theorem getL_app (f g : List Value) (t : Nat) (h : t < f.length) : getL (f ++ g) t = getL f t := by
  rw [getL_eq, getL_eq]
  simp only [List.getD_eq_getElem?_getD]
  rw [List.getElem?_append_left h]
theorem init_sound {ps : List (Bool × AK)} {xs : HT ps} {vs : List Value} (hp : Pre w W H) (hg : goodQs ps = true) (hs : szOk ps = true) (ha : ArgRep w W 0 ps vs xs) (m : Nat) : SRel W w ⟨FA.of (ps.length + m) (initF 0 ps xs), [], initO 0 ps xs [], H⟩ (vs ++ undefs m) W ∧ vs.length = ps.length := by
  obtain ⟨hd, hi⟩ := args_in (i := 0) hg hs ha
  let E : Env := ⟨argW w ps, fun _ => 0, hd, fun _ => false, pOwn 0 ps, W.heap.size⟩
  have hrep := hi.vals E (fun b hb => argW_none hb) (fun b hb => (argW_same (by simp) (by simp)).2 hb) fun k hk => ⟨hk, rfl⟩
  obtain ⟨hl, hget⟩ := repL_get hrep
  have flen : (initF 0 ps xs).length = ps.length := by
    have : ∀ (ps : List (Bool × AK)) (i : Nat) (xs : HT ps), (initF i ps xs).length = ps.length := by
      intro ps
      induction ps with
      | nil => intro i xs; rfl
      | cons p r ih => intro i xs; simp [initF, ih]
    exact this ps 0 xs
  have obS : ∀ u : Tag, (∀ i, u ≠ .arg i) → (∀ i, u ≠ .lo i) → Same w W E.w W u u := fun u h1 h2 b => ⟨argW_same h1 h2, fun _ => rfl⟩
  have him : Imm (imm w) (imm E.w) W W := fun b hb _ => ⟨argW_none hb, SameC.of rfl⟩
  refine ⟨⟨E, ⟨fun b hb => argW_none (hp.wf b hb), ?_, fun i => ⟨fun b h => ?_, rfl⟩, fun k => ?_, fun n => (hp.ob n).keep him (obS _ (by simp) (by simp)) fun j => obS _ (by simp) (by simp), fun b j => ⟨fun h => ?_, fun h => hp.res b j ((argW_same (by simp) (by simp)).1 h)⟩, rfl⟩, ?_, fun t _ => ?_⟩, by rw [← hl, flen]⟩
  · exact ⟨rfl, rfl, rfl, Nat.le_refl _, fun b _ h => ⟨argW_none h, rfl⟩, fun b h => ⟨(argW_same (by simp) (by simp)).2 h, rfl⟩, fun b h => (argW_same (by simp) (by simp)).1 h⟩
  · have := hp.loc b
    rw [(argW_same (by simp) (by simp)).1 h] at this
    exact this trivial
  · cases hk : pOwn 0 ps k with
    | true =>
      have := hi.own [] k hk
      unfold OwnN at this
      show OwnOk E W k (getO (initO 0 ps xs []) k)
      split at this <;> first | exact this.elim | skip
      rename_i e t ys heq
      obtain ⟨g1, g2, g3⟩ := this
      rw [heq]
      refine ⟨hk, g1, g2, g3.keep g1 him (fun _ _ => rfl) fun b => ?_⟩
      show argW w ps b = _ ↔ _
      rw [argW_lo hs (hp.loc b)]
      exact ⟨fun h => h.2, fun h => ⟨hk, h⟩⟩
    | false =>
      show OwnOk E W k (getO (initO 0 ps xs []) k)
      rw [hi.other [] k hk]
      refine ⟨fun b h => ?_, hk⟩
      have := (argW_lo hs (hp.loc b)).1 h
      rw [hk] at this; cases this.1
  · have h : argW w ps b = some (.arg j) := h
    unfold argW at h
    cases hb : w b with
    | none => rw [hb] at h; cases h
    | some t =>
      rw [hb] at h
      cases t with
      | arg a => cases hc : argId 0 0 ps a <;> simp [hc] at h
      | _ => simp at h
  · show ps.length + m = (vs ++ undefs m).length
    rw [undefs_eq]; simp [← hl, flen]
  · show VRep E W (getA (FA.of (ps.length + m) (initF 0 ps xs)) t) (getL (vs ++ undefs m) t)
    by_cases h : t < (initF 0 ps xs).length
    · have : t < (FA.of (ps.length + m) (initF 0 ps xs)).length := by rw [flen] at h; show t < ps.length + m; omega
      rw [getL_app _ _ _ (by rw [← hl]; exact h), getA_in this]
      exact hget t h
    · have : getA (FA.of (ps.length + m) (initF 0 ps xs)) t = .v .dead := by
        unfold getA
        split
        · exact lstA_out _ (Nat.le_of_not_lt h)
        · rfl
      rw [this]; trivial
theorem resLs_sound {s : St} {l : Fr} {E : Env} {X : Nat → Prop} (hm : RelM W0 w0 X E s.B s.O s.H W) (hf : ∀ t, VRep E W (getA s.f t) (getL l t)) : ∀ (rv : List ResultVar) (K : List AV → Prop), resLs cx s rv K →
    ∃ vs as, (rv.mapM (m := Sem) fun | .tmp t => pure ((actOf l).tmps.getD t undef) | .cell a t => do loadVar t (← asAddr ((actOf l).tmps.getD a undef))).run cx.P W = .ok vs W ∧ K as ∧ VRepL E W as vs
  | [], K, h => ⟨[], [], rfl, h, trivial⟩
  | .tmp t :: rs, K, h => by
    obtain ⟨vs, as, hv, hk, hr⟩ := resLs_sound hm hf rs _ h
    have ht : (actOf l).tmps.getD t undef = getL l t := congrFun (ev_act l) (.tmp t)
    exact ⟨getL l t :: vs, _, by simp only [List.mapM_cons, Sem.run_bind, Sem.run_pure, Result.andThen_ok, hv, ht], hk, res_rep hm (hf t), hr⟩
  | .cell a t :: rs, K, h => by
    obtain ⟨u, av, h1, h2, h3⟩ := load_sound (cx := cx) hm h (res_rep hm (hf a))
    obtain ⟨vs, as, hv, hk, hr⟩ := resLs_sound hm hf rs _ h2
    have ht : (actOf l).tmps.getD a undef = getL l a := congrFun (ev_act l) (.tmp a)
    cases hga : getL l a with
    | pointer p =>
      cases p with
      | none => rw [hga] at h1; simp [Instr.loadAt, Instr.sureAddr] at h1
      | some p =>
        rw [hga] at h1 ht
        have hr' : (loadVar t p).run cx.P W = .ok u W := by simpa [Instr.loadAt, Instr.sureAddr] using h1
        exact ⟨u :: vs, _, by simp only [List.mapM_cons, Sem.run_bind, Sem.run_pure, Result.andThen_ok, hv, ht, show (asAddr (.pointer (some p))).run cx.P W = .ok p W from rfl, hr'], hk, h3, hr⟩
    | _ => rw [hga] at h1; simp [Instr.loadAt, Instr.sureAddr] at h1
def endW (w : Mk) (c : Nat → Option Nat) : Mk := fun b => match w b with
  | some (.lb _) => none
  | some (.lo q) => (match c q with | some j => some (.res j) | none => none)
  | τ => τ
theorem endW_none {c : Nat → Option Nat} {b : Nat} (h : w b = none) : endW w c b = none := by unfold endW; rw [h]
theorem endW_same {c : Nat → Option Nat} {b : Nat} {u : Tag} (h1 : ∀ i, u ≠ .lb i) (h2 : ∀ i, u ≠ .lo i) (h3 : ∀ i, u ≠ .res i) : endW w c b = some u ↔ w b = some u := by
  unfold endW
  cases h : w b with
  | none => simp
  | some t =>
    cases t with
    | lb a => exact ⟨fun e => (by cases e), fun e => by injection e with e; exact absurd e.symm (h1 a)⟩
    | lo a =>
      cases hc : c a with
      | none => simp only [hc]; exact ⟨fun e => (by cases e), fun e => by injection e with e; exact absurd e.symm (h2 a)⟩
      | some j => simp only [hc]; exact ⟨fun e => by injection e with e; exact absurd e.symm (h3 j), fun e => by injection e with e; exact absurd e.symm (h2 a)⟩
    | _ => exact Iff.rfl
theorem endW_res {c : Nat → Option Nat} {b j : Nat} (hcl : w b ≠ some (.res j)) : endW w c b = some (.res j) ↔ ∃ q, w b = some (.lo q) ∧ c q = some j := by
  unfold endW
  cases h : w b with
  | none => simp
  | some t =>
    cases t with
    | lo a =>
      cases hc : c a with
      | none =>
        simp only [hc]
        refine ⟨fun e => (by cases e), ?_⟩
        rintro ⟨q, e, h⟩; injection e with e; injection e with e; subst e; rw [hc] at h; cases h
      | some i =>
        simp only [hc]
        constructor
        · intro e; injection e with e; injection e with e; subst e; exact ⟨a, rfl, hc⟩
        · rintro ⟨q, e, h⟩; injection e with e; injection e with e; subst e; rw [hc] at h; injection h with h; rw [h]
    | res i => simp only; exact ⟨fun e => absurd (h ▸ e) hcl, fun ⟨q, e, _⟩ => by cases e⟩
    | _ => simp
theorem goodPs_Qs : ∀ {ps : List (Bool × AK)}, goodPs ps = true → goodQs ps = true
  | [], _ => rfl
  | p :: r, h => by
    simp only [goodPs, Bool.and_eq_true] at h
    simp only [goodQs, Bool.and_eq_true]
    exact ⟨good_goodB h.1, goodPs_Qs h.2⟩
theorem resrep_of {E : Env} {O : OL} {B : BL} {X : Nat → Prop} {c : Nat → Option Nat} (hm : RelM W0 w0 X E B O H W) : ∀ {rs : List (Bool × AK)} {j : Nat} {vs : List Value} {r : HT rs}, goodPs rs = true → ArgH E W O c j rs vs r → ResRep (endW E.w c) W j rs vs r
  | [], j, vs, r, _, h => h
  | p :: rs, j, vs, r, hg, h => by
    simp only [goodPs, Bool.and_eq_true] at hg
    obtain ⟨v, us, e, h1, cs, h2, h3⟩ := h
    exact ⟨v, us, e, resrep_of hm hg.2 h1, cs, hcel_tag (w := endW E.w c) (c := c) (τ := .res) hm (fun b hb _ => ⟨endW_none hb, SameC.of rfl⟩) (fun b j => endW_res (hm.clean b j).2) (fun _ _ _ => rfl) hg.1 h2, h3⟩
theorem end_sound {s : St} {l : Fr} {rv : List ResultVar} {rs : List (Bool × AK)} {K : HT rs → HP → Prop} (hs : SRel W0 w0 s l W) (hg : goodPs rs = true) (h : aEnd cx rv rs K s) :
    ∃ vs r w', (rv.mapM (m := Sem) fun | .tmp t => pure ((actOf l).tmps.getD t undef) | .cell a t => do loadVar t (← asAddr ((actOf l).tmps.getD a undef))).run cx.P W = .ok vs W ∧ K r s.H ∧ Post w0 W0 w' W s.H ∧ ResRep w' W 0 rs vs r := by
  obtain ⟨E, hm, hf⟩ := hs
  obtain ⟨vs, as, h1, h2, h3⟩ := resLs_sound (cx := cx) hm (fun t => hf.2 t id) rv _ h
  have h3' : VRepL E W (as.map (resV (getB s.B))) vs := by
    have : ∀ {as : List AV} {vs : List Value}, VRepL E W as vs → VRepL E W (as.map (resV (getB s.B))) vs := by
      intro as
      induction as with
      | nil => intro vs h; exact h
      | cons a as ih => intro vs h; cases vs with | nil => exact h.elim | cons v vs => exact ⟨res_rep hm h.1, ih h.2⟩
    exact this h3
  obtain ⟨r, O2', O2, c2, E2, hk, m2, p2, hh, _, ha, _⟩ := args_sound (goodPs_Qs hg) hm (handed_refl s.O) (j := 0) (fun q i hq => (by cases hq)) h3' h2
  refine ⟨vs, r, endW E2.w c2, h1, hk, ⟨fun b hb => endW_none (m2.wf b hb), fun n => (m2.ob n).keep (fun b hb _ => ⟨endW_none hb, SameC.of rfl⟩) (fun b => ⟨endW_same (by simp) (by simp) (by simp), fun _ => rfl⟩) fun j b => ⟨endW_same (by simp) (by simp) (by simp), fun _ => rfl⟩, ?_⟩, resrep_of m2 hg ha⟩
  have hsn := m2.since
  exact ⟨hsn.os, hsn.tape, hsn.output, hsn.size, fun b hb h => ⟨endW_none (hsn.im b hb h).1, (hsn.im b hb h).2⟩, fun b h => ⟨(endW_same (by simp) (by simp) (by simp)).2 (hsn.ext b h).1, (hsn.ext b h).2⟩, fun b h => hsn.noext b ((endW_same (by simp) (by simp) (by simp)).1 h)⟩
theorem aFn_sound (hmo : cx.P.follows .mixedOrders = true) {an : An} {f : FuncId} {fn : Func} {ps : List (Bool × AK)} {xs : HT ps} {rs : List (Bool × AK)} {H : HP} {K : HT rs → HP → Prop} (hf : cx.P.funcs[f]? = some fn) (h : aFn cx hn an fn ps xs rs H K) : callA cx.P f ps xs rs H K := by
  intro w W vs hp ha
  unfold aFn at h
  split at h <;> first | exact h.elim | skip
  rename_i c hc
  split at h <;> first | exact h.elim | skip
  rename_i hb
  simp only [Bool.and_eq_true, decide_eq_true_eq] at hb
  obtain ⟨⟨⟨b1, b2⟩, b3⟩, b4⟩ := hb
  obtain ⟨hs, hlen⟩ := init_sound hp b1 b3 ha (fn.ntmps - ps.length)
  rw [show ps.length + (fn.ntmps - ps.length) = fn.ntmps from by omega] at hs
  refine calls_of_wp hf hc ?_
  rw [fcS_eq] at h
  have hw := aCode_sound (hn := hn) hmo an c _ _ _ _ hs h
  have hact : ({ tmps := (⟨vs⟩ : Array Value) ++ Array.replicate (fn.ntmps - (⟨vs⟩ : Array Value).size) undef, defers := [] } : Act) = actOf (vs ++ undefs (fn.ntmps - ps.length)) := by
    unfold actOf
    congr 1
    rw [← Array.toList_inj]
    simp [undefs_eq, hlen]
  rw [hact]
  have fin : ∀ {l : Fr} {s : St} {W' : World}, SRel W w s l W' → aEnd cx fn.results.toList rs K s → ∃ v, (results fn (actOf l).tmps).run cx.P W' = .ok v W' ∧ ∃ us r H' w', Ending.returned v = .returned (tup us) ∧ K r H' ∧ Post w W w' W' H' ∧ ResRep w' W' 0 rs us r := fun {l s W'} hs' he => by
    obtain ⟨us, r, w', h1, h2, h3, h4⟩ := end_sound hs' b2 he
    exact ⟨tup us, results_run h1, us, r, s.H, w', rfl, h2, h3, h4⟩
  refine wp_mono hw fun e b W' hq => ?_
  cases e with
  | normal =>
    obtain ⟨l, s, rfl, h1, h2⟩ := hq
    obtain ⟨v, h3, h4⟩ := fin h1 h2
    exact ⟨rfl, v, h3, h4⟩
  | ret =>
    obtain ⟨l, s, rfl, h1, h2⟩ := hq
    obtain ⟨v, h3, h4⟩ := fin h1 h2
    exact ⟨rfl, v, h3, h4⟩
  | exit id => obtain ⟨l, s, rfl, _, hq⟩ := hq; exact hq.elim
  | goto g => obtain ⟨l, s, rfl, _, hq⟩ := hq; exact hq.elim
  | panic c => exact hq.elim
  | outgrown => exact hq.elim
end
end Go.Ga
set_option linter.unusedSimpArgs false
set_option linter.unusedVariables false
namespace Go.Ga
open Go Go.Gp
mutual
def fitT (P : Program) : Nat → AK → TypeId → Bool
  | 0, _, _ => false
  | n + 1, k, t => (match P.underlying t with
    | some (.int i) => (match k with | .one (.int j) => decide (j = i) | .byte => decide (i = .u8) | _ => false)
    | some .bool => (match k with | .one .bool => true | _ => false)
    | some .string => (match k with | .one .str => true | _ => false)
    | some (.slice e) => (match k with | .row ek => fitT P n ek e && decide (ek.sz = P.cellsOf e) && decide (ek.sz ≠ 0) | _ => false)
    | some (.struct fs) => fitF P n k 0 fs.toList && decide (k.sz = P.cellsOf t)
    | _ => false)
def fitF (P : Program) : Nat → AK → Nat → List Field → Bool
  | 0, _, _, _ => false
  | n + 1, k, off, fs => (match fs with
    | [] => false
    | f :: r => decide (f.offset = off) && (match r with
      | [] => fitT P n k f.type && decide (k.sz = P.cellsOf f.type)
      | _ :: _ => (match k with
        | .cons a b => fitT P n a f.type && decide (a.sz = P.cellsOf f.type) && fitF P n b (off + a.sz) r
        | _ => false)))
end
def WfK : (k : AK) → k.T → Prop
  | .one (.int i), x => (Lit.int i x).wf = true
  | .one .str, s => ByteArray.size s ≤ maxLen
  | .row e, xs => xs.length ≤ maxLen ∧ ∀ x ∈ xs, WfK e x
  | .cons a b, x => WfK a x.1 ∧ WfK b x.2
  | _, _ => True
theorem u8_bounds {x : Int} (h : (Lit.int .u8 x).wf = true) : 0 ≤ x ∧ x < 256 := by
  have h : (decide (IntKind.u8.min ≤ x) && decide (x ≤ IntKind.u8.max)) = true := h
  simp only [Bool.and_eq_true, decide_eq_true_eq] at h
  have h1 : IntKind.u8.min = 0 := by decide
  have h2 : IntKind.u8.max = 255 := by decide
  omega
mutual
theorem fit_dat {P : Program} {W : World} : ∀ (n : Nat) {m : Nat} {k : AK} {t : TypeId} {cs : List Value}, fitT P n k t = true → RdT P W m t cs → ∃ x : k.T, Dat (fun _ => True) W k cs x ∧ WfK k x
  | 0, m, k, t, cs, h, _ => by simp [fitT] at h
  | n + 1, 0, k, t, cs, _, hr => hr.elim
  | n + 1, m + 1, k, t, cs, h, hr => by
    unfold fitT at h
    unfold RdT at hr
    split at h
    · rename_i i hu
      rw [hu] at hr
      simp only at hr
      obtain ⟨x, rfl, hx⟩ := hr
      split at h <;> first | (cases h; done) | skip
      · rename_i j
        simp only [decide_eq_true_eq] at h
        subst h
        exact ⟨x, ⟨rfl, rfl⟩, hx⟩
      · simp only [decide_eq_true_eq] at h
        subst h
        obtain ⟨h1, h2⟩ := u8_bounds hx
        refine ⟨UInt8.ofNat x.toNat, ?_, trivial⟩
        show [Value.int .u8 x] = [.int .u8 (UInt8.ofNat x.toNat).toNat]
        have : ((UInt8.ofNat x.toNat).toNat : Int) = x := by
          rw [UInt8.toNat_ofNat']
          omega
        rw [this]
    · rename_i hu
      rw [hu] at hr
      simp only at hr
      obtain ⟨x, rfl⟩ := hr
      split at h <;> first | (cases h; done) | skip
      exact ⟨x, ⟨rfl, rfl⟩, trivial⟩
    · rename_i hu
      rw [hu] at hr
      simp only at hr
      obtain ⟨x, rfl, hx⟩ := hr
      split at h <;> first | (cases h; done) | skip
      exact ⟨x, ⟨rfl, rfl⟩, hx⟩
    · rename_i e hu
      rw [hu] at hr
      simp only at hr
      split at h <;> first | (cases h; done) | skip
      rename_i ek
      simp only [Bool.and_eq_true, decide_eq_true_eq] at h
      obtain ⟨⟨h1, h2⟩, h3⟩ := h
      rcases hr with rfl | ⟨a, len, cap, rfl, hl, hm, hel⟩
      · exact ⟨[], ⟨⟨none, 0, 0⟩, rfl, rfl, Nat.le_refl _, Nat.zero_le _, fun _ => ⟨rfl, rfl⟩, fun i x hx => by simp at hx⟩, Nat.zero_le _, by simp⟩
      · have hex : ∀ i : Fin len, ∃ x : ek.T, ∃ cs', cellsAt W (a.add (i.1 * P.cellsOf e)) 0 cs' ∧ Dat (fun _ => True) W ek cs' x ∧ WfK ek x := fun i => by
          obtain ⟨cs', hc, hr'⟩ := hel i.1 i.2
          obtain ⟨x, hd, hw⟩ := fit_dat n h1 hr'
          exact ⟨x, cs', hc, hd, hw⟩
        let f : Fin len → ek.T := fun i => Classical.choose (hex i)
        have hf : ∀ i, ∃ cs', cellsAt W (a.add (i.1 * P.cellsOf e)) 0 cs' ∧ Dat (fun _ => True) W ek cs' (f i) ∧ WfK ek (f i) := fun i => Classical.choose_spec (hex i)
        refine ⟨List.ofFn f, ⟨⟨some a, len, cap⟩, rfl, by simp, hl, Nat.le_trans hl hm, fun h => (by cases h), fun i x hx => ?_⟩, by simp only [List.length_ofFn]; omega, fun x hx => ?_⟩
        · obtain ⟨hi, rfl⟩ := List.getElem?_eq_some_iff.1 hx
          rw [List.length_ofFn] at hi
          obtain ⟨cs', hc, hd, _⟩ := hf ⟨i, hi⟩
          refine ⟨a, cs', rfl, trivial, hd.len, ?_, ?_⟩
          · rw [h2]; exact hc
          · simpa using hd
        · obtain ⟨i, rfl⟩ := List.mem_ofFn.1 hx
          exact (hf i).choose_spec.2.2
    · rename_i fs hu
      rw [hu] at hr
      simp only at hr
      obtain ⟨hl, hx⟩ := hr
      rw [Bool.and_eq_true, decide_eq_true_eq] at h
      obtain ⟨x, hd, hw⟩ := fit_datF n (cs := cs) (off := 0) h.1 fun i f hi => hx i f (by rw [← Array.getElem?_toList]; exact hi)
      rw [List.drop_zero, h.2, ← hl, List.take_length] at hd
      exact ⟨x, hd, hw⟩
    · cases h
theorem fit_datF {P : Program} {W : World} : ∀ (n : Nat) {m : Nat} {k : AK} {off : Nat} {fs : List Field} {cs : List Value}, fitF P n k off fs = true → (∀ (i : Nat) f, fs[i]? = some f → RdT P W m f.type ((cs.drop f.offset).take (P.cellsOf f.type))) → ∃ x : k.T, Dat (fun _ => True) W k ((cs.drop off).take k.sz) x ∧ WfK k x
  | 0, m, k, off, fs, cs, h, _ => by simp [fitF] at h
  | n + 1, m, k, off, fs, cs, h, hr => by
    unfold fitF at h
    split at h <;> first | (cases h; done) | skip
    rename_i f r
    rw [Bool.and_eq_true, decide_eq_true_eq] at h
    obtain ⟨h1, h⟩ := h
    subst h1
    split at h
    · simp only [Bool.and_eq_true, decide_eq_true_eq] at h
      rw [h.2]
      exact fit_dat n h.1 (hr 0 f rfl)
    · split at h <;> first | (cases h; done) | skip
      rename_i g r' a b
      simp only [Bool.and_eq_true, decide_eq_true_eq] at h
      obtain ⟨⟨h2, h3⟩, h4⟩ := h
      obtain ⟨x, hx, hwx⟩ := fit_dat n h2 (hr 0 f rfl)
      obtain ⟨y, hy, hwy⟩ := fit_datF n (cs := cs) h4 fun i q hq => hr (i + 1) q hq
      rw [← h3] at hx
      refine ⟨(x, y), ⟨_, _, ?_, hx, hy⟩, hwx, hwy⟩
      simp only [AK.sz]
      rw [List.take_add, List.drop_drop]
end
theorem callG_of {P : Program} {f : FuncId} {ps : List (Bool × AK)} {xs : HT ps} {vs : List Value} {W : World} (h : callA P f ps xs [(false, .one .bool)] (fun _ => none) fun r _ => r = (true, ())) (ha : ArgRep (fun _ => none) W 0 ps vs xs) :
    callG P f vs [.one .bool] W fun x W' => x = (true, ()) ∧ Keeps [] W W' := by
  refine Calls.mono (h (fun _ => none) W vs ⟨fun _ _ => rfl, fun n b => ⟨by simp, by simp⟩, fun b => id, by simp⟩ ha) fun e W' ⟨us, r, H', w', h1, h2, h3, h4⟩ => ?_
  subst h2
  obtain ⟨v, us', rfl, h5, cs, h6, h7⟩ := h4
  have h5 : us' = [] := h5
  have h7 : cs = [v] := h7
  subst h5 h7
  obtain ⟨h6, _⟩ := h6
  injection h6 with h6
  subst h6
  refine ⟨(true, ()), h1, rfl, ?_⟩
  have hs := h3.since
  exact ⟨hs.os, hs.tape, hs.output, hs.size, fun b hb _ => (hs.im b hb rfl).2⟩
theorem arg_nil {w : Mk} {W : World} {j : Nat} : ArgRep w W j [] [] () := rfl
theorem arg_cons {W : World} {j : Nat} {k : AK} {ag : Bool} {r : List (Bool × AK)} {v : Value} {vs : List Value} {x : k.T} {y : HT r} {cs : List Value} (hg : k.good = true) (hn : noOwn k = true) (hd : Dat (fun _ => True) W k cs x) (hs : Shp ag v cs) (h : ArgRep (fun _ => none) W (j + k.sz) r vs y) : ArgRep (fun _ => none) W j ((ag, k) :: r) (v :: vs) (x, y) := by
  refine ⟨v, vs, rfl, h, (prep_good hg).2 ⟨cs, dat_cel hn ?_, hs⟩⟩
  exact hd.imm (fun b _ _ => ⟨rfl, SameC.of rfl⟩) hg
theorem lenA_i {n : Nat} {K : Int → Prop} (h : n ≤ 9223372036854775807 → K n) : lenA n K := h
theorem atA_i {α : Type} {xs : List α} {i : Nat} {K : α → Prop} {x : α} (hx : xs[i]? = some x) (h : K x) : atA xs (i : Int) K := ⟨x, Int.natCast_nonneg i, by rw [Int.toNat_natCast]; exact hx, h⟩
theorem elA_i {α : Type} {xs : List α} {i : Nat} {K : α → Prop} {x : α} (hx : xs[i]? = some x) (h : K x) : elA xs i K := ⟨x, hx, h⟩
theorem retA_i {P : Program} {f : FuncId} {ps : List (Bool × AK)} {xs : HT ps} {rs : List (Bool × AK)} {K : HT rs → Prop} (r : HT rs) (h : PureA P f ps xs rs r) (hk : K r) : retA P f ps xs rs K := ⟨r, h, hk⟩
theorem PureA.call {P : Program} {f : FuncId} {ps : List (Bool × AK)} {xs : HT ps} {rs : List (Bool × AK)} {r : HT rs} (h : PureA P f ps xs rs r) {H : HP} {K : HT rs → HP → Prop} (hk : K r H) : callA P f ps xs rs H K := h H K hk
theorem LoopA_i {V : Type} {x : V} {H : HP} {body : V → HP → (V → HP → Prop) → Prop} (I : V → HP → Prop) (m : V → HP → Nat) (h0 : I x H) (h : ∀ x H, I x H → body x H fun x' H' => I x' H' ∧ m x' H' < m x H) : LoopA x H body := ⟨I, m, h0, h⟩
theorem JoinA_i {V : Type} {B : V → HP → Prop} {A : (V → HP → Prop) → Prop} (h : A B) : JoinA B A := h
theorem appA_i {n m k : Nat} {A : Prop} (h : (n + m) * k ≤ 140737488355328) (h' : A) : appA n m k A := ⟨h, h'⟩
theorem slcA_i {n : Nat} {l h : Nat} {K : Nat → Nat → Prop} (h1 : l ≤ h) (h2 : h ≤ n) (hk : K l (h - l)) : slcA n (l : Int) (h : Int) K := ⟨Int.natCast_nonneg l, by omega, by omega, by simpa using hk⟩
end Go.Ga
