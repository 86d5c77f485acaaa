/-
  Kt: texts of ours, one behind the other: Ta1, Ta2, Tt1, Tt2, Tt3, Tt4, Ta3, Ts1, Ts2, Ts3, Ts4, Ts5.
-/
import Derived.Test.YtbaclnddcobdmaaKk
set_option linter.unusedSimpArgs false
set_option linter.unusedVariables false
namespace Go.Th
open Go Go.Gp
abbrev Key := List UInt8
abbrev Pr := List UInt8 × List UInt8
theorem less_irr : ∀ (a : Key), lessL a a = false
  | [] => rfl
  | u :: x => by simp only [lessL, if_true]; exact less_irr x
theorem less_trans : ∀ {a b c : Key}, lessL a b = true → lessL b c = true → lessL a c = true
  | _, [], _, h, _ => by simp [lessL] at h
  | _, _ :: _, [], _, h => by simp [lessL] at h
  | [], _ :: _, _ :: _, _, _ => rfl
  | u :: x, v :: y, w :: z, h1, h2 => by
    simp only [lessL] at h1 h2 ⊢
    by_cases e1 : u = v
    · subst e1
      by_cases e2 : u = w
      · subst e2
        simp only [if_true] at h1 h2 ⊢
        exact less_trans h1 h2
      · rw [if_neg e2] at h2 ⊢
        exact h2
    · rw [if_neg e1] at h1
      by_cases e2 : v = w
      · subst e2
        rw [if_neg e1]
        exact h1
      · rw [if_neg e2] at h2
        simp only [decide_eq_true_eq, UInt8.lt_iff_toNat_lt] at h1 h2
        have e3 : u ≠ w := fun e => by subst e; omega
        rw [if_neg e3]
        simp only [decide_eq_true_eq, UInt8.lt_iff_toNat_lt]
        omega
theorem less_tri : ∀ {a b : Key}, lessL a b = false → lessL b a = false → a = b
  | [], [], _, _ => rfl
  | [], _ :: _, h, _ => by simp [lessL] at h
  | _ :: _, [], _, h => by simp [lessL] at h
  | u :: x, v :: y, h1, h2 => by
    simp only [lessL] at h1 h2
    by_cases e : u = v
    · subst e
      simp only [if_true] at h1 h2
      rw [less_tri h1 h2]
    · rw [if_neg e] at h1
      rw [if_neg (Ne.symm e)] at h2
      simp only [decide_eq_false_iff_not, UInt8.lt_iff_toNat_lt] at h1 h2
      exact absurd (UInt8.toNat_inj.1 (by omega)) e
theorem less_asym {a b : Key} (h : lessL a b = true) : lessL b a = false := by
  cases h' : lessL b a with
  | false => rfl
  | true => have := less_trans h h'; rw [less_irr] at this; cases this
theorem less_ne {a b : Key} (h : lessL a b = true) : a ≠ b := fun e => by subst e; rw [less_irr] at h; cases h
theorem less_of_lt_le {a b c : Key} (h1 : lessL a b = true) (h2 : lessL c b = false) : lessL a c = true := by
  cases h : lessL b c with
  | true => exact less_trans h1 h
  | false => rw [← less_tri h h2]; exact h1
def SortK (l : List Key) : Prop := l.Pairwise fun a b => lessL a b = true
def lbK (l : List Key) (k : Key) : Nat := (l.takeWhile fun x => lessL x k).length
def ubK (l : List Key) (k : Key) : Nat := (l.takeWhile fun x => !lessL k x).length
theorem tw_lt {α : Type} (p : α → Bool) : ∀ (l : List α) (i : Nat) (x : α), i < (l.takeWhile p).length → l[i]? = some x → p x = true
  | [], i, x, h, _ => by simp at h
  | a :: l, i, x, h, hx => by
    rw [List.takeWhile_cons] at h
    split at h
    · rename_i ha
      cases i with
      | zero => simp at hx; subst hx; exact ha
      | succ i => exact tw_lt p l i x (by simpa using h) (by simpa using hx)
    · simp at h
theorem tw_ge {α : Type} (p : α → Bool) : ∀ (l : List α) (x : α), l[(l.takeWhile p).length]? = some x → p x = false
  | [], x, h => by simp at h
  | a :: l, x, h => by
    rw [List.takeWhile_cons] at h
    split at h
    · exact tw_ge p l x (by simpa using h)
    · rename_i ha; simp at h; subst h; simpa using ha
theorem tw_le {α : Type} (p : α → Bool) (l : List α) : (l.takeWhile p).length ≤ l.length := (List.takeWhile_prefix p).length_le
theorem ubK_le (l : List Key) (k : Key) : ubK l k ≤ l.length := tw_le _ l
theorem SortK.get {l : List Key} (h : SortK l) {i j : Nat} {a b : Key} (hij : i < j) (ha : l[i]? = some a) (hb : l[j]? = some b) : lessL a b = true := by
  obtain ⟨hi, rfl⟩ := List.getElem?_eq_some_iff.1 ha
  obtain ⟨hj, rfl⟩ := List.getElem?_eq_some_iff.1 hb
  exact List.pairwise_iff_getElem.1 h i j hi hj hij
theorem ubK_lt {l : List Key} {k : Key} {i : Nat} {x : Key} (hi : i < ubK l k) (hx : l[i]? = some x) : lessL k x = false := by
  have := tw_lt _ l i x hi hx
  simpa using this
theorem ubK_ge {l : List Key} (h : SortK l) {k : Key} {i : Nat} {x : Key} (hi : ubK l k ≤ i) (hx : l[i]? = some x) : lessL k x = true := by
  have hlt := (List.getElem?_eq_some_iff.1 hx).1
  have h1 : l[ubK l k]? = some (l[ubK l k]'(by omega)) := List.getElem?_eq_getElem _
  have h2 : lessL k (l[ubK l k]'(by omega)) = true := by simpa using tw_ge _ l _ h1
  rcases Nat.lt_or_ge (ubK l k) i with h3 | h3
  · exact less_trans h2 (h.get h3 h1 hx)
  · have : i = ubK l k := by omega
    subst this
    rw [h1] at hx; injection hx with hx; rw [← hx]; exact h2
def keys (l : List Pr) : List Key := l.map (·.1)
def mayB (k : Key) : Bool := decide (1 ≤ k.length) && decide (k.length ≤ 16)
def fairB (v : Key) : Bool := decide (v.length ≤ 32)
structure IsRow (l : List Pr) : Prop where
  sort : SortK (keys l)
  may : ∀ p ∈ l, mayB p.1 = true
  fair : ∀ p ∈ l, fairB p.2 = true
def delR (l : List Pr) (k : Key) : List Pr := l.filter fun p => p.1 != k
def putR (l : List Pr) (k v : Key) : List Pr := (l.filter fun p => lessL p.1 k) ++ (k, v) :: l.filter fun p => lessL k p.1
def getR (l : List Pr) (k : Key) : Option Key := (l.find? fun p => p.1 == k).map (·.2)
def lb (l : List Pr) (k : Key) : Nat := lbK (keys l) k
theorem IsRow.nil : IsRow [] := ⟨List.Pairwise.nil, by simp, by simp⟩
theorem sortK_keys {l : List Pr} : SortK (keys l) ↔ l.Pairwise fun a b => lessL a.1 b.1 = true := List.pairwise_map
theorem sort_filter {l : List Pr} (h : SortK (keys l)) (p : Pr → Bool) : SortK (keys (l.filter p)) := sortK_keys.2 ((sortK_keys.1 h).filter p)
theorem put_mem {l : List Pr} {k v : Key} {p : Pr} (h : p ∈ putR l k v) : p = (k, v) ∨ p ∈ l := by
  unfold putR at h
  rw [List.mem_append, List.mem_cons] at h
  rcases h with h | h | h
  · exact .inr ((List.mem_filter.1 h).1)
  · exact .inl h
  · exact .inr ((List.mem_filter.1 h).1)
theorem sort_put {l : List Pr} (h : SortK (keys l)) (k v : Key) : SortK (keys (putR l k v)) := by
  unfold putR
  rw [sortK_keys, List.pairwise_append, List.pairwise_cons]
  refine ⟨sortK_keys.1 (sort_filter h _), ⟨fun p hp => (List.mem_filter.1 hp).2, sortK_keys.1 (sort_filter h _)⟩, fun p hp q hq => ?_⟩
  have h1 := (List.mem_filter.1 hp).2
  rcases List.mem_cons.1 hq with rfl | hq
  · exact h1
  · exact less_trans h1 (List.mem_filter.1 hq).2
theorem IsRow.put {l : List Pr} (h : IsRow l) {k v : Key} (hk : mayB k = true) (hv : fairB v = true) : IsRow (putR l k v) :=
  ⟨sort_put h.sort k v, fun p hp => by rcases put_mem hp with rfl | hp; exact hk; exact h.may p hp, fun p hp => by rcases put_mem hp with rfl | hp; exact hv; exact h.fair p hp⟩
theorem sort_del {l : List Pr} (h : SortK (keys l)) (k : Key) : SortK (keys (delR l k)) := sort_filter h _
theorem IsRow.del {l : List Pr} (h : IsRow l) (k : Key) : IsRow (delR l k) := ⟨sort_del h.sort k, fun p hp => h.may p (List.mem_filter.1 hp).1, fun p hp => h.fair p (List.mem_filter.1 hp).1⟩
theorem IsRow.sub {l m : List Pr} (h : IsRow l) (hs : m.Sublist l) : IsRow m := ⟨sortK_keys.2 ((sortK_keys.1 h.sort).sublist hs), fun p hp => h.may p (hs.subset hp), fun p hp => h.fair p (hs.subset hp)⟩
theorem getR_append (a b : List Pr) (k : Key) : getR (a ++ b) k = (getR a k).or (getR b k) := by
  unfold getR
  rw [List.find?_append]
  cases List.find? (fun p => p.1 == k) a <;> rfl
theorem getR_none {l : List Pr} {k : Key} : getR l k = none ↔ ∀ p ∈ l, p.1 ≠ k := by
  unfold getR
  rw [Option.map_eq_none_iff, List.find?_eq_none]
  simp
end Go.Th
set_option linter.unusedSimpArgs false
set_option linter.unusedVariables false
namespace Go.Th
open Go Go.Gp
def allN (n : Nat) (f : Nat → Bool) : Bool := (List.range n).all f
theorem allN_true {n : Nat} {f : Nat → Bool} (h : ∀ j, j < n → f j = true) : allN n f = true := List.all_eq_true.2 fun j hj => h j (by simpa using hj)
theorem allN_false {n j : Nat} {f : Nat → Bool} (hj : j < n) (h : f j = false) : allN n f = false := by
  unfold allN
  rw [List.all_eq_false]
  exact ⟨j, by simpa using hj, by simp [h]⟩
theorem allN_iff {n : Nat} {f : Nat → Bool} : allN n f = true ↔ ∀ j, j < n → f j = true := by
  unfold allN
  rw [List.all_eq_true]
  simp
def fewB (l : List Pr) (n : Int) : Bool := allN l.length (fun j => match l[j]? with | some p => decide (p.1.length ≤ 100) && decide (p.2.length ≤ 100) | none => true) && decide ((l.length : Int) ≤ n)
theorem fewB_len {l : List Pr} {n : Int} (h : fewB l n = true) : (l.length : Int) ≤ n := by
  unfold fewB at h
  simp only [Bool.and_eq_true, decide_eq_true_eq] at h
  exact h.2
theorem fewB_mem {l : List Pr} {n : Int} (h : fewB l n = true) : ∀ p ∈ l, p.1.length ≤ 100 ∧ p.2.length ≤ 100 := fun p hp => by
  unfold fewB at h
  simp only [Bool.and_eq_true] at h
  obtain ⟨j, hj⟩ := List.mem_iff_getElem?.1 hp
  have := allN_iff.1 h.1 j (List.getElem?_eq_some_iff.1 hj).1
  rw [hj] at this
  simpa using this
def fr (l : List Pr) (k : Key) : Nat → Nat
  | 0 => 0
  | i + 1 => match l[i]? with | some p => if lessL p.1 k = true then i + 1 else fr l k i | none => fr l k i
theorem take_snoc {α : Type} {l : List α} {i : Nat} (h : i < l.length) : l.take (i + 1) = l.take i ++ [l[i]] := by rw [List.take_succ_eq_append_getElem h]
def Short (l : List Pr) : Prop := ∀ p ∈ l, p.1.length ≤ 140737488355328 ∧ p.2.length ≤ 140737488355328
theorem IsRow.short {l : List Pr} (h : IsRow l) : Short l := fun p hp => by
  have h1 := h.may p hp
  have h2 := h.fair p hp
  unfold mayB at h1
  unfold fairB at h2
  simp only [Bool.and_eq_true, decide_eq_true_eq] at h1 h2
  exact ⟨by omega, by omega⟩
end Go.Th
set_option linter.unusedSimpArgs false
set_option linter.unusedVariables false
namespace Go.Th
open Go Go.Gp
abbrev Nod := Bool × List Pr × List Key × List Int × Int
def Tr : Nat → Type
  | 0 => Nat × List Pr
  | h + 1 => Nat × List Key × List (Tr h)
def Tr.id : {h : Nat} → Tr h → Nat
  | 0, t => t.1
  | _ + 1, t => t.1
def Tr.lf (i : Nat) (ps : List Pr) : Tr 0 := (i, ps)
def Tr.nd {h : Nat} (i : Nat) (ks : List Key) (l : List (Tr h)) : Tr (h + 1) := (i, ks, l)
theorem Tr.ex0 (t : Tr 0) : ∃ i ps, t = Tr.lf i ps := ⟨t.1, t.2, rfl⟩
theorem Tr.exS {h : Nat} (t : Tr (h + 1)) : ∃ i ks l, t = Tr.nd i ks l := ⟨t.1, t.2.1, t.2.2, rfl⟩
@[simp] theorem id_lf (i : Nat) (ps : List Pr) : (Tr.lf i ps).id = i := rfl
@[simp] theorem id_nd {h : Nat} (i : Nat) (ks : List Key) (l : List (Tr h)) : (Tr.nd i ks l).id = i := rfl
inductive It where
  | s (k : Key)
  | p (a : Pr)
def Ro : It → It → Prop
  | .p a, .p b => lessL a.1 b.1 = true
  | .p a, .s t => lessL a.1 t = true
  | .s s, .p b => lessL b.1 s = false
  | .s s, .s t => lessL s t = true
def inter : List Key → List (List It) → List It
  | _, [] => []
  | [], l :: ls => l ++ inter [] ls
  | k :: ks, l :: ls => l ++ .s k :: inter ks ls
def pre : List Key → List (List It) → List It
  | k :: ks, l :: ls => l ++ .s k :: pre ks ls
  | _, _ => []
def suf : List Key → List (List It) → List It
  | [], ls => inter [] ls
  | k :: ks, ls => .s k :: inter ks ls
theorem inter_cons (kr : List Key) (x : List It) (R : List (List It)) : inter kr (x :: R) = x ++ suf kr R := by cases kr <;> rfl
theorem inter_at : ∀ {kl : List Key} {L : List (List It)} (kr : List Key) (x : List It) (R : List (List It)), kl.length = L.length → inter (kl ++ kr) (L ++ x :: R) = pre kl L ++ (x ++ suf kr R)
  | [], [], kr, x, R, _ => by simp [pre, inter_cons]
  | k :: kl, l :: L, kr, x, R, h => by
    simp only [List.cons_append, inter, pre, List.append_assoc]
    rw [inter_at kr x R (by simpa using h)]
  | [], _ :: _, _, _, _, h => by simp at h
  | _ :: _, [], _, _, _, h => by simp at h
def fl : {h : Nat} → Tr h → List It
  | 0, t => t.2.map .p
  | _ + 1, t => inter t.2.1 (t.2.2.map fl)
@[simp] theorem fl_lf (i : Nat) (ps : List Pr) : fl (Tr.lf i ps) = ps.map .p := rfl
@[simp] theorem fl_nd {h : Nat} (i : Nat) (ks : List Key) (l : List (Tr h)) : fl (Tr.nd i ks l) = inter ks (l.map fl) := rfl
def Ord (l : List It) : Prop := l.Pairwise Ro
def ItOk : It → Prop
  | .p a => mayB a.1 = true ∧ fairB a.2 = true
  | .s k => mayB k = true
def Sz (o : Nat) : {h : Nat} → Nat → Nat → Tr h → Prop
  | 0, lo, hi, t => lo ≤ t.2.length ∧ t.2.length ≤ hi
  | _ + 1, lo, hi, t => lo ≤ t.2.1.length ∧ t.2.1.length ≤ hi ∧ t.2.2.length = t.2.1.length + 1 ∧ ∀ k ∈ t.2.2, Sz o (o / 2) o k
theorem sz_lf {o lo hi i : Nat} {ps : List Pr} : Sz o lo hi (Tr.lf i ps) ↔ lo ≤ ps.length ∧ ps.length ≤ hi := Iff.rfl
theorem sz_nd {o lo hi i h : Nat} {ks : List Key} {l : List (Tr h)} : Sz o lo hi (Tr.nd i ks l) ↔ lo ≤ ks.length ∧ ks.length ≤ hi ∧ l.length = ks.length + 1 ∧ ∀ k ∈ l, Sz o (o / 2) o k := Iff.rfl
def Tr.size : {h : Nat} → Tr h → Nat
  | 0, t => t.2.length
  | _ + 1, t => t.2.1.length
theorem Sz.size {o lo hi : Nat} : ∀ {h : Nat} {t : Tr h}, Sz o lo hi t → lo ≤ t.size ∧ t.size ≤ hi
  | 0, t, h => h
  | _ + 1, t, h => ⟨h.1, h.2.1⟩
theorem Sz.to {o lo hi lo' hi' : Nat} : ∀ {h : Nat} {t : Tr h}, Sz o lo hi t → lo' ≤ t.size → t.size ≤ hi' → Sz o lo' hi' t
  | 0, t, h, h1, h2 => ⟨h1, h2⟩
  | _ + 1, t, h, h1, h2 => ⟨h1, h2, h.2.2⟩
def Rep (f : Nat → Option Nod) : {h : Nat} → Tr h → Prop
  | 0, t => ∃ ks kd nx, f t.1 = some (true, t.2, ks, kd, nx)
  | _ + 1, t => (∃ ps nx, f t.1 = some (false, ps, t.2.1, t.2.2.map (fun k => (k.id : Int)), nx)) ∧ ∀ k ∈ t.2.2, Rep f k
def ids : {h : Nat} → Tr h → List Nat
  | 0, t => [t.1]
  | _ + 1, t => t.1 :: (t.2.2.map ids).flatten
@[simp] theorem ids_lf (i : Nat) (ps : List Pr) : ids (Tr.lf i ps) = [i] := rfl
@[simp] theorem ids_nd {h : Nat} (i : Nat) (ks : List Key) (l : List (Tr h)) : ids (Tr.nd i ks l) = i :: (l.map ids).flatten := rfl
def lvs : {h : Nat} → Tr h → List (Nat × List Pr)
  | 0, t => [(t.1, t.2)]
  | _ + 1, t => (t.2.2.map lvs).flatten
@[simp] theorem lvs_lf (i : Nat) (ps : List Pr) : lvs (Tr.lf i ps) = [(i, ps)] := rfl
@[simp] theorem lvs_nd {h : Nat} (i : Nat) (ks : List Key) (l : List (Tr h)) : lvs (Tr.nd i ks l) = (l.map lvs).flatten := rfl
def allP {h : Nat} (t : Tr h) : List Pr := (lvs t).flatMap (·.2)
def prs : List It → List Pr
  | [] => []
  | .p a :: l => a :: prs l
  | .s _ :: l => prs l
def Bel (k : Key) : It → Prop
  | .p a => lessL a.1 k = true
  | .s s => lessL k s = false
def Aft (k : Key) : It → Prop
  | .p a => lessL k a.1 = true
  | .s s => lessL k s = true
theorem bel_of {x : It} {s k : Key} (h : Ro x (.s s)) (hs : lessL k s = false) : Bel k x := by
  cases x with
  | p a => exact less_of_lt_le h hs
  | s t =>
    show lessL k t = false
    cases hb : lessL k t with
    | false => rfl
    | true => rw [less_trans hb h] at hs; cases hs
theorem aft_of {x : It} {s k : Key} (h : Ro (.s s) x) (hs : lessL k s = true) : Aft k x := by
  cases x with
  | p a => exact less_of_lt_le hs h
  | s t => exact less_trans hs h
theorem ord_seps : ∀ {ks : List Key} {ls : List (List It)}, ks.length ≤ ls.length → (ks.map It.s).Sublist (inter ks ls)
  | [], _, _ => by simp
  | k :: ks, l :: ls, h => by
    simp only [inter, List.map_cons]
    exact List.Sublist.trans (List.Sublist.cons_cons _ (ord_seps (by simpa using h))) (List.sublist_append_right _ _)
  | _ :: _, [], h => by simp at h
theorem ord_keys {ks : List Key} {ls : List (List It)} (hl : ks.length ≤ ls.length) (h : Ord (inter ks ls)) : SortK ks := by
  have := List.Pairwise.sublist (ord_seps hl) h
  rw [List.pairwise_map] at this
  exact this
structure Fr (h : Nat) where
  id : Nat
  kl : List Key
  L : List (Tr h)
  kr : List Key
  R : List (Tr h)
def Fr.fill {h : Nat} (f : Fr h) (t : Tr h) : Tr (h + 1) := Tr.nd f.id (f.kl ++ f.kr) (f.L ++ t :: f.R)
inductive Ctx : Nat → Nat → Type
  | top {h : Nat} : Ctx h h
  | down {h H : Nat} (c : Ctx (h + 1) H) (f : Fr h) : Ctx h H
def plug : {h H : Nat} → Ctx h H → Tr h → Tr H
  | _, _, .top, t => t
  | _, _, .down c f, t => plug c (f.fill t)
def Ctx.path : {h H : Nat} → Ctx h H → List Nat
  | _, _, .top => []
  | _, _, .down c f => c.path ++ [f.id]
def Ctx.steps : {h H : Nat} → Ctx h H → List (Nat × Nat)
  | _, _, .top => []
  | _, _, .down c f => c.steps ++ [(f.id, f.kl.length)]
def Ctx.l : {h H : Nat} → Ctx h H → List It
  | _, _, .top => []
  | _, _, .down c f => c.l ++ pre f.kl (f.L.map fl)
def Ctx.r : {h H : Nat} → Ctx h H → List It
  | _, _, .top => []
  | _, _, .down c f => suf f.kr (f.R.map fl) ++ c.r
def Ctx.ids : {h H : Nat} → Ctx h H → List Nat
  | _, _, .top => []
  | _, _, .down c f => c.ids ++ (f.id :: ((f.L.map Th.ids).flatten ++ (f.R.map Th.ids).flatten))
def Ctx.lo (o : Nat) : {h H : Nat} → Ctx h H → Nat
  | h, _, .top => if h = 0 then 0 else 1
  | _, _, .down _ _ => o / 2
def Ctx.Sz (o : Nat) : {h H : Nat} → Ctx h H → Prop
  | _, _, .top => True
  | _, _, .down c f => c.lo o ≤ f.kl.length + f.kr.length ∧ f.kl.length + f.kr.length ≤ o ∧ f.kl.length = f.L.length ∧ f.kr.length = f.R.length ∧ (∀ k ∈ f.L, Th.Sz o (o / 2) o k) ∧ (∀ k ∈ f.R, Th.Sz o (o / 2) o k) ∧ c.Sz o
def Ctx.Rep (g : Nat → Option Nod) : {h H : Nat} → Ctx h H → Nat → Prop
  | _, _, .top, _ => True
  | _, _, .down c f, i => (∃ ps nx, g f.id = some (false, ps, f.kl ++ f.kr, f.L.map (fun k => (k.id : Int)) ++ (i : Int) :: f.R.map (fun k => (k.id : Int)), nx)) ∧ (∀ k ∈ f.L, Th.Rep g k) ∧ (∀ k ∈ f.R, Th.Rep g k) ∧ c.Rep g f.id
theorem csz_down {o h H : Nat} {c : Ctx (h + 1) H} {f : Fr h} : (Ctx.down c f).Sz o ↔ (c.lo o ≤ f.kl.length + f.kr.length ∧ f.kl.length + f.kr.length ≤ o ∧ f.kl.length = f.L.length ∧ f.kr.length = f.R.length ∧ (∀ k ∈ f.L, Th.Sz o (o / 2) o k) ∧ (∀ k ∈ f.R, Th.Sz o (o / 2) o k) ∧ c.Sz o) := by rw [Ctx.Sz]
def way : {h : Nat} → Tr h → Key → List Nat
  | 0, t, _ => [t.1]
  | _ + 1, t, k => t.1 :: (match t.2.2[ubK t.2.1 k]? with
    | some x => way x k
    | none => [])
theorem way_nd {h i : Nat} {ks : List Key} {l : List (Tr h)} {k : Key} {x : Tr h} (hx : l[ubK ks k]? = some x) : way (Tr.nd i ks l) k = i :: way x k := by
  show i :: (match l[ubK ks k]? with | some x => way x k | none => []) = _
  rw [hx]
theorem mem_split {α : Type} {l : List α} {i : Nat} (h : i < l.length) : l = l.take i ++ l[i] :: l.drop (i + 1) := by
  rw [List.getElem_cons_drop, List.take_append_drop]
theorem step_down {o h H : Nat} {c : Ctx (h + 1) H} {i : Nat} {ks : List Key} {l : List (Tr h)} {k : Key} (hc : c.Sz o) (hz : Sz o (c.lo o) o (Tr.nd i ks l)) (ho : Ord (fl (Tr.nd i ks l)))
    (hl : ∀ x ∈ c.l, Bel k x) (hr : ∀ x ∈ c.r, Aft k x) : ∃ (x : Tr h) (f : Fr h), l[ubK ks k]? = some x ∧ f.fill x = Tr.nd i ks l ∧ f.id = i ∧ f.kl.length = ubK ks k ∧ (Ctx.down c f).Sz o ∧ Sz o (o / 2) o x ∧ Ord (fl x) ∧ (∀ y ∈ (Ctx.down c f).l, Bel k y) ∧ (∀ y ∈ (Ctx.down c f).r, Aft k y) := by
  obtain ⟨h1, h2, h3, h4⟩ := sz_nd.1 hz
  have hle := ubK_le ks k
  have hlt : ubK ks k < l.length := by omega
  have hs : SortK ks := ord_keys (ls := l.map fl) (by rw [List.length_map]; omega) ho
  have hks : ks.take (ubK ks k) ++ ks.drop (ubK ks k) = ks := List.take_append_drop _ _
  have hkids := mem_split hlt
  have hfl : fl (Tr.nd i ks l) = pre (ks.take (ubK ks k)) ((l.take (ubK ks k)).map fl) ++ (fl l[ubK ks k] ++ suf (ks.drop (ubK ks k)) ((l.drop (ubK ks k + 1)).map fl)) := by
    rw [fl_nd]
    conv => lhs; rw [← hks, hkids]
    rw [List.map_append, List.map_cons, inter_at _ _ _ (by simp only [List.length_take, List.length_map]; omega)]
  rw [hfl] at ho
  refine ⟨l[ubK ks k], ⟨i, ks.take (ubK ks k), l.take (ubK ks k), ks.drop (ubK ks k), l.drop (ubK ks k + 1)⟩, List.getElem?_eq_getElem hlt, ?_, rfl, by simp only [List.length_take]; omega, ?_, h4 _ (List.getElem_mem hlt), ?_, ?_, ?_⟩
  · unfold Fr.fill
    simp only
    rw [hks, ← hkids]
  · refine csz_down.2 ⟨?_, ?_, ?_, ?_, fun x hx => h4 x (List.mem_of_mem_take hx), fun x hx => h4 x (List.mem_of_mem_drop hx), hc⟩ <;> simp only [List.length_take, List.length_drop] <;> omega
  · exact (List.pairwise_append.1 (List.pairwise_append.1 ho).2.1).1
  · intro y hy
    simp only [Ctx.l, List.mem_append] at hy
    rcases hy with hy | hy
    · exact hl y hy
    · -- ahead of the last key, which is no greater
      have hp := (List.pairwise_append.1 ho).1
      have key : ∀ (a : List Key) (A : List (List It)), (∀ s ∈ a, lessL k s = false) → (pre a A).Pairwise Ro → ∀ y ∈ pre a A, Bel k y := by
        intro a
        induction a with
        | nil => intro A _ _ y hy; cases A <;> simp [pre] at hy
        | cons s a ih =>
          intro A hs hp y hy
          cases A with
          | nil => simp [pre] at hy
          | cons l A =>
            simp only [pre, List.mem_append, List.mem_cons] at hy
            have hp := List.pairwise_append.1 (show (l ++ It.s s :: pre a A).Pairwise Ro from hp)
            rcases hy with hy | rfl | hy
            · exact bel_of (hp.2.2 y hy (.s s) (by simp)) (hs s (by simp))
            · exact hs s (by simp)
            · exact ih A (fun t ht => hs t (by simp [ht])) (List.pairwise_cons.1 hp.2.1).2 y hy
      refine key _ _ (fun s hs' => ?_) hp y hy
      obtain ⟨j, hj, rfl⟩ := List.getElem_of_mem hs'
      rw [List.length_take] at hj
      rw [List.getElem_take]
      exact ubK_lt (i := j) (by omega) (List.getElem?_eq_getElem _)
  · intro y hy
    simp only [Ctx.r, List.mem_append] at hy
    rcases hy with hy | hy
    · have hp := (List.pairwise_append.1 (List.pairwise_append.1 ho).2.1).2.1
      have hb : ks.drop (ubK ks k) ≠ [] ∨ l.drop (ubK ks k + 1) = [] := by
        rcases Nat.lt_or_ge (ubK ks k) ks.length with h | h
        · left; intro e; have := congrArg List.length e; simp at this; omega
        · right; exact List.drop_eq_nil_of_le (by omega)
      cases hk : ks.drop (ubK ks k) with
      | nil =>
        rcases hb with hb | hb
        · exact absurd hk hb
        · rw [hk, hb] at hy; simp [suf, inter] at hy
      | cons s r =>
        have hs1 : lessL k s = true := by
          refine ubK_ge hs (i := ubK ks k) (Nat.le_refl _) ?_
          have : (ks.drop (ubK ks k))[0]? = some s := by rw [hk]; rfl
          rw [List.getElem?_drop] at this
          simpa using this
        rw [hk] at hy hp
        simp only [suf, List.mem_cons] at hy
        rcases hy with rfl | hy
        · exact hs1
        · exact aft_of ((List.pairwise_cons.1 hp).1 y hy) hs1
    · exact hr y hy
theorem loc {o : Nat} (k : Key) : ∀ {h H : Nat} (c : Ctx h H) (t : Tr h), c.Sz o → Sz o (c.lo o) o t → Ord (fl t) → (∀ x ∈ c.l, Bel k x) → (∀ x ∈ c.r, Aft k x) →
    ∃ (c' : Ctx 0 H) (i : Nat) (ps : List Pr), plug c' (Tr.lf i ps) = plug c t ∧ c'.path ++ [i] = c.path ++ way t k ∧ c'.Sz o ∧ Sz o (c'.lo o) o (Tr.lf i ps) ∧ (∀ x ∈ c'.l, Bel k x) ∧ (∀ x ∈ c'.r, Aft k x)
  | 0, H, c, t, hc, hz, ho, hl, hr => by
    obtain ⟨i, ps, rfl⟩ := t.ex0
    exact ⟨c, i, ps, rfl, rfl, hc, hz, hl, hr⟩
  | h + 1, H, c, t, hc, hz, ho, hl, hr => by
    obtain ⟨i, ks, l, rfl⟩ := t.exS
    obtain ⟨x, f, hx, hf, hi, hkl, hc', hz', ho', hl', hr'⟩ := step_down hc hz ho hl hr
    obtain ⟨c', j, ps, h1, h2, h3, h4, h5, h6⟩ := loc k (Ctx.down c f) x hc' hz' ho' hl' hr'
    refine ⟨c', j, ps, h1.trans ?_, h2.trans ?_, h3, h4, h5, h6⟩
    · rw [plug, hf]
    · rw [way_nd hx, Ctx.path, hi]; simp
end Go.Th
set_option linter.unusedSimpArgs false
set_option linter.unusedVariables false
namespace Go.Th
open Go Go.Gp
def nxt (f : Nat → Option Nod) (i : Nat) : Int := match f i with | some x => x.2.2.2.2 | none => 0
def hd (l : List (Nat × List Pr)) (e : Int) : Int := match l with | [] => e | a :: _ => a.1
def Seg (f : Nat → Option Nod) : List (Nat × List Pr) → Int → Prop
  | [], _ => True
  | a :: r, e => nxt f a.1 = hd r e ∧ Seg f r e
structure Mid (f : Nat → Option Nod) (u : Nat) {h : Nat} (t : Tr h) : Prop where
  rep : Rep f t
  nd : (ids t).Nodup
  seg : Seg f (lvs t) (-1)
  ord : Ord (fl t)
  ok : ∀ x ∈ fl t, ItOk x
  used : u = (ids t).length
theorem filt_all {α : Type} {p : α → Bool} {l : List α} (h : ∀ x ∈ l, p x = true) : l.filter p = l := List.filter_eq_self.2 h
theorem filt_no {α : Type} {p : α → Bool} {l : List α} (h : ∀ x ∈ l, p x = false) : l.filter p = [] := List.filter_eq_nil_iff.2 fun x hx => by rw [h x hx]; simp
def Around (k : Key) (A B : List Pr) : Prop := (∀ a ∈ A, lessL a.1 k = true) ∧ ∀ b ∈ B, lessL k b.1 = true
theorem Around.put {k v : Key} {A B : List Pr} (h : Around k A B) (m : List Pr) : putR (A ++ m ++ B) k v = A ++ putR m k v ++ B := by
  unfold putR
  simp only [List.filter_append]
  rw [filt_all h.1, filt_no (l := B) fun x hx => less_asym (h.2 x hx), filt_no (l := A) fun x hx => less_asym (h.1 x hx), filt_all (l := B) h.2]
  simp
theorem Around.get {k : Key} {A B : List Pr} (h : Around k A B) (m : List Pr) : getR (A ++ m ++ B) k = getR m k := by
  rw [getR_append, getR_append, getR_none.2 fun p hp => less_ne (h.1 p hp), getR_none (l := B) |>.2 fun p hp => (less_ne (h.2 p hp)).symm]
  simp
theorem Around.del {k : Key} {A B : List Pr} (h : Around k A B) (m : List Pr) : delR (A ++ m ++ B) k = A ++ delR m k ++ B := by
  unfold delR
  simp only [List.filter_append]
  rw [filt_all (l := A) fun x hx => by simpa using less_ne (h.1 x hx), filt_all (l := B) fun x hx => by simpa using (less_ne (h.2 x hx)).symm]
theorem allP_lf (i : Nat) (ps : List Pr) : allP (Tr.lf i ps) = ps := by simp [allP]
structure Spl (f f' : Nat → Option Nod) {h : Nat} (t : Tr h) (q : Nat) (t1 : Tr h) (k : Key) (t2 : Tr h) : Prop where
  id1 : t1.id = t.id
  id2 : t2.id = q
  perm : (ids t1 ++ ids t2).Perm (q :: ids t)
  ord : ∀ A B, Ord (A ++ fl t ++ B) → Ord (A ++ (fl t1 ++ .s k :: fl t2) ++ B)
  ok : (∀ x ∈ fl t, ItOk x) → ∀ x ∈ fl t1 ++ .s k :: fl t2, ItOk x
  prs : prs (fl t1 ++ .s k :: fl t2) = prs (fl t)
  rep1 : Rep f' t1
  rep2 : Rep f' t2
  seg : ∀ A B e, (∀ a ∈ A ++ B, nxt f a.1 = nxt f' a.1) → Seg f (A ++ lvs t ++ B) e → Seg f' (A ++ (lvs t1 ++ lvs t2) ++ B) e
end Go.Th
set_option linter.unusedSimpArgs false
set_option linter.unusedVariables false
namespace Go.Th
open Go Go.Gp
end Go.Th
set_option linter.unusedSimpArgs false
set_option linter.unusedVariables false
namespace Go.Th
open Go Go.Gp
theorem kids_sum {α : Type} (g : α → List Pr) (m : Nat) : ∀ (l : List α), (∀ x ∈ l, m ≤ (g x).length) → l.length * m ≤ ((l.map g).flatten).length
  | [], _ => by simp
  | x :: l, h => by
    have h1 := h x (by simp)
    have h2 := kids_sum g m l fun y hy => h y (by simp [hy])
    simp only [List.map_cons, List.flatten_cons, List.length_append, List.length_cons, Nat.succ_mul]
    omega
theorem allP_nd {h : Nat} (i : Nat) (ks : List Key) (l : List (Tr h)) : allP (Tr.nd i ks l) = (l.map allP).flatten := by
  unfold allP
  rw [lvs_nd]
  induction l with
  | nil => rfl
  | cons x l ih => simp only [List.map_cons, List.flatten_cons, List.flatMap_append]; rw [ih]
theorem pw {o : Nat} : ∀ {h : Nat} {t : Tr h}, Sz o (o / 2) o t → (o / 2 + 1) ^ h * (o / 2) ≤ (allP t).length
  | 0, t, hz => by
    obtain ⟨i, ps, rfl⟩ := t.ex0
    have := (sz_lf.1 hz).1
    rw [allP_lf]; simpa using this
  | h + 1, t, hz => by
    obtain ⟨i, ks, l, rfl⟩ := t.exS
    obtain ⟨h1, _, h2, h4⟩ := sz_nd.1 hz
    have := kids_sum allP _ l fun x hx => pw (h4 x hx)
    rw [allP_nd]
    have h5 : (o / 2 + 1) * ((o / 2 + 1) ^ h * (o / 2)) ≤ l.length * ((o / 2 + 1) ^ h * (o / 2)) := Nat.mul_le_mul_right _ (by omega)
    have e : (o / 2 + 1) ^ (h + 1) * (o / 2) = (o / 2 + 1) * ((o / 2 + 1) ^ h * (o / 2)) := by rw [Nat.pow_succ, Nat.mul_comm ((o / 2 + 1) ^ h), Nat.mul_assoc]
    rw [e]; omega
end Go.Th
set_option linter.unusedSimpArgs false
set_option linter.unusedVariables false
namespace Go.Th
open Go Go.Gp
abbrev Req := Int × Int × Int × Key × Key × Key × Key × Int
abbrev Req.kind (r : Req) : Int := r.2.2.1
abbrev Req.key (r : Req) : Key := r.2.2.2.1
abbrev Req.val (r : Req) : Key := r.2.2.2.2.1
abbrev Req.old (r : Req) : Key := r.2.2.2.2.2.1
abbrev Req.to (r : Req) : Key := r.2.2.2.2.2.2.1
end Go.Th
set_option linter.unusedSimpArgs false
set_option linter.unusedVariables false
namespace Go.Th
open Go Go.Gp
end Go.Th
set_option linter.unusedSimpArgs false
set_option linter.unusedVariables false
namespace Go.Th
open Go Go.Gp
section
variable {α : Type}
end
structure OrdI (cmp : Int → Int → Int) (lt : Int → Int → Prop) (l : List Int) : Prop where
  tr : ∀ x y z, lt x y → lt y z → lt x z
  as : ∀ x y, lt x y → ¬ lt y x
  pw : l.Pairwise fun x y => (cmp y x < 0 ↔ lt y x) ∧ (lt x y ∨ lt y x)
def Ahead (cmp : Int → Int → Int) (lt : Int → Int → Prop) (A B : List Int) : Prop := ∀ x ∈ A, ∀ y ∈ B, (cmp y x < 0 ↔ lt y x) ∧ (lt x y ∨ lt y x)
theorem Ahead.sub {cmp : Int → Int → Int} {lt : Int → Int → Prop} {A B A' B' : List Int} (h : Ahead cmp lt A B) (ha : ∀ x ∈ A', x ∈ A) (hb : ∀ x ∈ B', x ∈ B) : Ahead cmp lt A' B' := fun x hx y hy => h x (ha x hx) y (hb y hy)
end Go.Th
set_option linter.unusedSimpArgs false
set_option linter.unusedVariables false
namespace Go.Th
open Go Go.Gp
def rq (l : List Req) (i : Int) : Req := (l[i.toNat]?).getD (0, 0, 0, [], [], [], [], 0)
def inQ (l : List Req) (i : Int) : Prop := 0 ≤ i ∧ i < l.length
def joinQ (l : List Req) (j i : Int) : Bool := decide ((rq l j).kind ≠ 6) && (decide ((rq l i).kind ≠ 6) && decide ((rq l j).key = (rq l i).key))
def grp1 (l : List Req) (out : List (List Int)) (i : Int) : List (List Int) :=
  match out.getLast? with
  | some g => if joinQ l (g.headD 0) i then out.dropLast ++ [g ++ [i]] else out ++ [[i]]
  | none => [[i]]
theorem grp1_snoc (l : List Req) (D : List (List Int)) (g : List Int) (i : Int) : grp1 l (D ++ [g]) i = if joinQ l (g.headD 0) i then D ++ [g ++ [i]] else D ++ [g] ++ [[i]] := by
  unfold grp1
  rw [List.getLast?_concat, List.dropLast_concat]
structure GrOk (l : List Req) (out : List (List Int)) (n : Nat) : Prop where
  ne : ∀ g ∈ out, g ≠ []
  ok : ∀ g ∈ out, ∀ x ∈ g, inQ l x
  len : out.length ≤ n
  all : ∀ g ∈ out, g.length ≤ n
theorem GrOk.step {l : List Req} {out : List (List Int)} {n : Nat} (h : GrOk l out n) {i : Int} (hi : inQ l i) : GrOk l (grp1 l out i) (n + 1) := by
  have add : GrOk l (out ++ [[i]]) (n + 1) := by
    refine ⟨fun g hg => ?_, fun g hg => ?_, by have := h.len; simp; omega, fun g hg => ?_⟩ <;> rcases List.mem_append.1 hg with hg | hg
    · exact h.ne g hg
    · obtain rfl : g = [i] := by simpa using hg
      simp
    · exact h.ok g hg
    · obtain rfl : g = [i] := by simpa using hg
      intro x hx; obtain rfl : x = i := by simpa using hx
      exact hi
    · have := h.all g hg; omega
    · obtain rfl : g = [i] := by simpa using hg
      simp
  rcases List.eq_nil_or_concat out with rfl | ⟨D, g, rfl⟩
  · exact add
  · rw [List.concat_eq_append] at h add ⊢
    rw [grp1_snoc]
    split
    · have hD : ∀ a ∈ D, a ∈ D ++ [g] := fun a ha => List.mem_append_left _ ha
      have hg : g ∈ D ++ [g] := by simp
      refine ⟨fun a ha => ?_, fun a ha => ?_, by have := h.len; simp at this ⊢; omega, fun a ha => ?_⟩ <;> rcases List.mem_append.1 ha with ha | ha
      · exact h.ne a (hD a ha)
      · obtain rfl : a = g ++ [i] := by simpa using ha
        simp
      · exact h.ok a (hD a ha)
      · obtain rfl : a = g ++ [i] := by simpa using ha
        intro x hx
        rcases List.mem_append.1 hx with hx | hx
        · exact h.ok g hg x hx
        · obtain rfl : x = i := by simpa using hx
          exact hi
      · have := h.all a (hD a ha); omega
      · obtain rfl : a = g ++ [i] := by simpa using ha
        have := h.all g hg; simp; omega
    · exact add
end Go.Th
set_option linter.unusedSimpArgs false
set_option linter.unusedVariables false
namespace Go.Th
open Go Go.Gp
end Go.Th
set_option linter.unusedSimpArgs false
set_option linter.unusedVariables false
namespace Go.Th
open Go Go.Gp
end Go.Th
