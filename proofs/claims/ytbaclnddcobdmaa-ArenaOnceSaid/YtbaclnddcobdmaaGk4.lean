/-
  Gk4: lists of operations; regions that draw their order; whole code; functions. All sound over the model.
-/
import Derived.Test.YtbaclnddcobdmaaGk3
set_option linter.unusedSimpArgs false
set_option linter.unusedVariables false
namespace Go.Gp
open Go

/-! ### Lists of operations, in the text's order -/
/-- One operation, its guard asked first. -/
def cGuard (P : Program) (ops : Array Oper) (o : Oper) (l : Fr) (W : World) (K : Fr → World → Prop) : Prop :=
  match o.guard with
  | none => cOp P o (ev l) W fun v W' => K (putL l o.dst v) W'
  | some g => match ops[g.1]? with
    | none => False
    | some oj => match oj.dst with
      | none => False
      | some d => match getL l d with
        | .bool b => ifB b
            (match g.2 with
              | true => cOp P o (ev (setL l d (.bool true))) W fun v W' => K (putL (setL l d (.bool true)) o.dst v) W'
              | false => K (putL (setL l d (.bool true)) o.dst undef) W)
            (match g.2 with
              | true => K (putL (setL l d (.bool false)) o.dst undef) W
              | false => cOp P o (ev (setL l d (.bool false))) W fun v W' => K (putL (setL l d (.bool false)) o.dst v) W')
        | .tuple _ => K (putL l o.dst undef) W
        | _ => False
def cList (P : Program) (ops : Array Oper) (K : Fr → World → Prop) : List Oper → Fr → World → Prop
  | [], l, W => K l W
  | o :: rest, l, W => cGuard P ops o l W fun l' W' => cList P ops K rest l' W'

theorem setL_same {l : Fr} {d : Nat} {v : Value} (h : getL l d = v) : setL l d v = l := by rw [← h, setL_getL]
theorem cGuard_sound {P : Program} {ops : Array Oper} {o : Oper} {l : Fr} {W : World} {K : Fr → World → Prop} {Q : Exit → Act → World → Prop} {next : Act → World → Prop}
    (h : cGuard P ops o l W K) (hk : ∀ l' W', K l' W' → next (actOf l') W') :
    if Region.wanted o (yielded ops (actOf l).tmps) then o.wp P (actOf l) W next Q else next ((actOf l).put o.dst undef) W := by
  unfold cGuard at h
  split at h
  · rename_i hg
    rw [if_pos (by simp [Region.wanted, hg])]
    exact cOp_sound h fun v W' hv => hk _ _ hv
  · rename_i g hg
    split at h <;> first | exact h.elim | skip
    rename_i oj hj
    split at h <;> first | exact h.elim | skip
    rename_i d hd
    have hy := yielded_act ops l g.1 hj hd
    split at h
    · rename_i b hb
      rw [hb] at hy
      have hw : Region.wanted o (yielded ops (actOf l).tmps) = (b == g.2) := by simp [Region.wanted, hg, hy]
      obtain ⟨j, want⟩ := g
      rw [hw]
      cases b <;> cases want <;> simp only [ifB] at h <;> rw [setL_same hb] at h
      · exact cOp_sound h fun v W' hv => hk _ _ hv
      · show next ((actOf l).put o.dst undef) W; rw [put_act]; exact hk _ _ h
      · show next ((actOf l).put o.dst undef) W; rw [put_act]; exact hk _ _ h
      · exact cOp_sound h fun v W' hv => hk _ _ hv
    · rename_i hb
      rw [hb] at hy
      have hw : Region.wanted o (yielded ops (actOf l).tmps) = false := by simp [Region.wanted, hg, hy]
      rw [if_neg (by simp [hw]), put_act]
      exact hk _ _ h
    · exact h.elim
theorem cList_sound {P : Program} {ops : Array Oper} {K : Fr → World → Prop} {Q : Exit → Act → World → Prop} (hk : ∀ l W, K l W → Q .normal (actOf l) W) :
    ∀ (os : List Oper) (l : Fr) (W : World), cList P ops K os l W → wpList P ops Q os (actOf l) W
  | [], l, W, h => wpList_nil (hk l W h)
  | o :: rest, l, W, h => by
    unfold wpList
    have := cGuard_sound (Q := Q) (next := wpList P ops Q rest) h fun l' W' h' => cList_sound hk rest l' W' h'
    split
    · rename_i hw; rw [if_pos hw] at this; exact .inl this
    · rename_i hw; rw [if_neg hw] at this; exact this

/-! ### Regions that draw their order -/
/-- Does the operation read one cell alone? -/
def isLd1 (P : Program) : Op → Bool
  | .load t _ => (match P.underlying t with | some d => (match isAggD d with | true => false | false => true) | none => false)
  | _ => false
/-- A load in whatever world that meets S. -/
def ldS (S : World → Prop) (k : K1) (a : Addr) (K : k.T → Prop) : Prop := ∃ x : k.T, (∀ W, S W → W.cell? a = some (k.enc x)) ∧ K x
def cTake (P : Program) (S : World → Prop) (o : Oper) (ρ : Operand → Value) (K : Value → Prop) : Prop :=
  match isPure P o.op with
  | true => cPure P o.op ρ K
  | false => match o.op with
    | .load t a => (match ρ a with
      | .pointer (some p) => (match P.underlying t with
        | some d => (match isAggD d with
          | true => False
          | false => (match k1Of d with | some k => ldS S k p fun x => K (k.enc x) | none => False))
        | none => False)
      | _ => False)
    | _ => False
theorem cTake_sound {P : Program} {S : World → Prop} {o : Oper} {ρ : Operand → Value} {K : Value → Prop} (hρ : ∀ v, ρ (.const v) = v) (h : cTake P S o ρ K) :
    ∃ v, (∀ W, S W → (execOp ρ o).run P W = .ok (.value v) W) ∧ (isPure P o.op = true → ∀ W, (execOp ρ o).run P W = .ok (.value v) W) ∧ K v := by
  obtain ⟨dst, op, type, pos, after, guard⟩ := o
  unfold cTake at h
  split at h
  · rename_i hp
    obtain ⟨v, hv, hk⟩ := cPure_sound hρ hp h dst type pos after guard
    exact ⟨v, fun W _ => hv W, fun _ => hv, hk⟩
  · rename_i hnp
    simp only at h
    split at h <;> first | exact h.elim | skip
    rename_i t a
    split at h <;> first | exact h.elim | skip
    rename_i p hp
    split at h <;> first | exact h.elim | skip
    rename_i d hd
    split at h <;> first | exact h.elim | skip
    rename_i hag
    split at h <;> first | exact h.elim | skip
    rename_i k hk
    obtain ⟨x, hx, hk⟩ := h
    refine ⟨_, fun W hS => ?_, fun hpu => absurd hpu (by rw [hnp]; exact Bool.false_ne_true), hk⟩
    show (do pure (.value (← Instr.loadAt t (ρ a))) : Sem Next).run P W = _
    exact upon_value (by simp [hp, Instr.loadAt, Instr.sureAddr, loadVar, run_isAgg hd, hag, hx W hS])
/-- The guard, then the operation taken first. -/
def cTakeG (P : Program) (S : World → Prop) (ops : Array Oper) (o : Oper) (l : Fr) (K : Fr → Prop) : Prop :=
  match o.guard with
  | none => cTake P S o (ev l) fun v => K (putL l o.dst v)
  | some g => match ops[g.1]? with
    | none => False
    | some oj => match oj.dst with
      | none => False
      | some d => match getL l d with
        | .bool b => ifB b
            (match g.2 with
              | true => cTake P S o (ev (setL l d (.bool true))) fun v => K (putL (setL l d (.bool true)) o.dst v)
              | false => K (putL (setL l d (.bool true)) o.dst undef))
            (match g.2 with
              | true => K (putL (setL l d (.bool false)) o.dst undef)
              | false => cTake P S o (ev (setL l d (.bool false))) fun v => K (putL (setL l d (.bool false)) o.dst v))
        | .tuple _ => K (putL l o.dst undef)
        | _ => False
theorem cTakeG_sound {P : Program} {S : World → Prop} {ops : Array Oper} {o : Oper} {l : Fr} {K : Fr → Prop} (h : cTakeG P S ops o l K) :
    ∃ v, YieldsIf P ops S o v (actOf l) ∧ (isPure P o.op = true → YieldsIf P ops (fun _ => True) o v (actOf l)) ∧ K (putL l o.dst v) := by
  unfold cTakeG at h
  have tk : ∀ {K' : Value → Prop}, Region.wanted o (yielded ops (actOf l).tmps) = true → cTake P S o (ev l) K' → ∃ v, YieldsIf P ops S o v (actOf l) ∧ (isPure P o.op = true → YieldsIf P ops (fun _ => True) o v (actOf l)) ∧ K' v := fun hw h => by
    obtain ⟨v, hv, hv', hk⟩ := cTake_sound (fun _ => rfl) h
    exact ⟨v, .inl ⟨hw, fun w hS => by rw [ev_act]; exact hv w hS⟩, fun hpu => .inl ⟨hw, fun w _ => by rw [ev_act]; exact hv' hpu w⟩, hk⟩
  split at h
  · rename_i hg
    exact tk (by simp [Region.wanted, hg]) h
  · rename_i g hg
    split at h <;> first | exact h.elim | skip
    rename_i oj hj
    split at h <;> first | exact h.elim | skip
    rename_i d hd
    have hy := yielded_act ops l g.1 hj hd
    split at h
    · rename_i b hb
      rw [hb] at hy
      have hw : Region.wanted o (yielded ops (actOf l).tmps) = (b == g.2) := by simp [Region.wanted, hg, hy]
      obtain ⟨j, want⟩ := g
      cases b <;> cases want <;> simp only [ifB] at h <;> rw [setL_same hb] at h
      · exact tk hw h
      · exact ⟨_, .inr ⟨hw, rfl⟩, fun _ => .inr ⟨hw, rfl⟩, h⟩
      · exact ⟨_, .inr ⟨hw, rfl⟩, fun _ => .inr ⟨hw, rfl⟩, h⟩
      · exact tk hw h
    · rename_i hb
      rw [hb] at hy
      have hw : Region.wanted o (yielded ops (actOf l).tmps) = false := by simp [Region.wanted, hg, hy]
      exact ⟨_, .inr ⟨hw, rfl⟩, fun _ => .inr ⟨hw, rfl⟩, h⟩
    · exact h.elim
/-! A drawn region whose loads are taken first under a condition S. S is asked behind an operation only where a load that was taken could still come later. -/
def pre (ops : Array Oper) (j i : Nat) : Bool := ((Region.before ops).getD j 0).testBit i
def preOk (ops : Array Oper) : Bool :=
  (List.range ops.size).all fun j => match ops[j]? with
    | none => true
    | some o => (List.range ops.size).all fun i => !pre ops j i || o.after.any fun e => Region.binds .any e && decide (e.on < j) && (e.on == i || pre ops e.on i)
def needS (P : Program) (ops : Array Oper) (listed : Array Bool) (j : Nat) : Bool :=
  (List.range ops.size).any fun i => listed.getD i false && (match ops[i]? with | some o => isLd1 P o.op && !isPure P o.op | none => false) && !pre ops j i
def Closed (ops : Array Oper) (listed : Array Bool) : Prop :=
  ∀ j o, ops[j]? = some o → listed.getD j false = true → ∀ e ∈ o.after, Region.binds .any e = true → listed.getD e.on false = true
theorem size_of_get {ops : Array Oper} {i : Nat} {o : Oper} (h : ops[i]? = some o) : i < ops.size := (Array.getElem?_eq_some_iff.1 h).1
theorem pre_listed {ops : Array Oper} (hp : preOk ops = true) {listed : Array Bool} (hc : Closed ops listed) {i : Nat} (hi : i < ops.size) : ∀ (n j : Nat) (o : Oper), j < n → ops[j]? = some o →
    (∀ e ∈ o.after, Region.binds .any e = true → listed.getD e.on false = true) → pre ops j i = true → listed.getD i false = true
  | 0, _, _, h, _, _, _ => absurd h (Nat.not_lt_zero _)
  | n + 1, j, o, hj, ho, hd, hpre => by
    have h1 := List.all_eq_true.1 hp j (by simpa using size_of_get ho)
    rw [ho] at h1
    have h2 := List.all_eq_true.1 h1 i (by simpa using hi)
    rw [hpre] at h2
    simp only [Bool.not_true, Bool.false_or, Array.any_eq_true'] at h2
    obtain ⟨e, he, h3⟩ := h2
    simp only [Bool.and_eq_true, decide_eq_true_eq, Bool.or_eq_true, beq_iff_eq] at h3
    obtain ⟨⟨hb, hlt⟩, h4⟩ := h3
    have hl := hd e he hb
    rcases h4 with h4 | h4
    · rw [← h4]; exact hl
    · have hes : e.on < ops.size := Nat.lt_trans hlt (size_of_get ho)
      have heo : ops[e.on]? = some ops[e.on] := Array.getElem?_eq_getElem hes
      exact pre_listed hp hc hi n e.on _ (by omega) heo (fun e' he' hb' => hc _ _ heo hl e' he' hb') h4
def wpAnyN (P : Program) (ops : Array Oper) (Q : Exit → Act → World → Prop) (S : World → Prop) : Nat → Array Bool → Act → World → Prop
  | 0, listed, a, w => Region.ready .any ops listed = [] ∧ Q .normal a w
  | fuel + 1, listed, a, w =>
    (Region.ready .any ops listed = [] → Q .normal a w) ∧
    ∀ i ∈ Region.ready .any ops listed, wpOp P ops Q i (fun a' w' => (needS P ops listed i = true → S w → S w') ∧ wpAnyN P ops Q S fuel (listed.setIfInBounds i true) a' w') a w
theorem wpAny_of_N {P : Program} {ops : Array Oper} {Q : Exit → Act → World → Prop} {S : World → Prop} : ∀ (fuel : Nat) (listed : Array Bool) (a : Act) (w : World), wpAnyN P ops Q S fuel listed a w → wpAny P .any ops Q fuel listed a w
  | 0, _, _, _, h => h
  | fuel + 1, _, _, _, h => ⟨h.1, fun i hi => wpOp_mono (fun a' w' h' => wpAny_of_N fuel _ a' w' h'.2) (h.2 i hi)⟩
theorem closed_set {ops : Array Oper} {listed : Array Bool} (hc : Closed ops listed) {i : Nat} (hi : i ∈ Region.ready .any ops listed) : Closed ops (listed.setIfInBounds i true) := by
  obtain ⟨h0, o, ho, hall⟩ := mem_ready.1 hi
  intro j oj hj hl e he hb
  by_cases hji : i = j
  · subst hji
    rw [ho] at hj
    injection hj with hj
    subst hj
    exact getD_set_true (hall e he hb)
  · rw [getD_set_ne false hji] at hl
    exact getD_set_true (hc j oj hj hl e he hb)
def isLd (P : Program) (o : Oper) : Bool := isLd1 P o.op && !isPure P o.op
theorem needS_mono {P : Program} {ops : Array Oper} {listed : Array Bool} {i j : Nat} (h : needS P ops listed j = true) : needS P ops (listed.setIfInBounds i true) j = true := by
  unfold needS at *
  obtain ⟨k, hk, h⟩ := List.any_eq_true.1 h
  refine List.any_eq_true.2 ⟨k, hk, ?_⟩
  simp only [Bool.and_eq_true] at h ⊢
  exact ⟨⟨getD_set_true h.1.1, h.1.2⟩, h.2⟩
theorem needS_of {P : Program} {ops : Array Oper} {listed : Array Bool} {i j : Nat} {oi : Oper} (hi : ops[i]? = some oi) (hsz : listed.size = ops.size) (hl : isLd P oi = true) (hp : pre ops j i = false) : needS P ops (listed.setIfInBounds i true) j = true := by
  unfold needS
  refine List.any_eq_true.2 ⟨i, by simpa using size_of_get hi, ?_⟩
  have hlt := size_of_get hi
  have h1 : (listed.setIfInBounds i true).getD i false = true := by simp [Array.getElem?_setIfInBounds, hsz, hlt]
  rw [h1, hi, hp]
  simpa [isLd] using hl
theorem wpAnyN_first {P : Program} {ops : Array Oper} {Q : Exit → Act → World → Prop} {S : World → Prop} (hp : preOk ops = true) {i : Nat} {oi : Oper} {v : Value} (hi : ops[i]? = some oi) (hsel : ∀ (j : Nat) (o : Oper) cs b, ops[j]? = some o → o.op ≠ .select cs b)
    (hQ : ∀ c a w, Q (.panic c) (a.put oi.dst v) w → Q (.panic c) a w) :
    ∀ (fuel : Nat) (listed : Array Bool) (a : Act) (w : World), listed.size = ops.size → Closed ops listed →
      (∀ j oj, ops[j]? = some oj → j ≠ i → listed.getD j true = false → (∀ e ∈ oj.after, Region.binds .any e = true → e.on ≠ i) → oi.apart ops oj = true) →
      i ∈ Region.ready .any ops listed → (S w ∧ YieldsIf P ops S oi v a ∧ isLd P oi = true) ∨ YieldsIf P ops (fun _ => True) oi v a →
      wpAnyN P ops Q S fuel (listed.setIfInBounds i true) (a.put oi.dst v) w → wpAnyN P ops Q S (fuel + 1) listed a w := by
  have one : ∀ {K : Act → World → Prop} {a : Act} {w : World}, (S w ∧ YieldsIf P ops S oi v a ∧ isLd P oi = true) ∨ YieldsIf P ops (fun _ => True) oi v a → K (a.put oi.dst v) w → wpOp P ops Q i K a w := fun {K a w} hy hk => by
    rcases hy with ⟨hS, hy, _⟩ | hy
    · exact hy.wpOp hi hS hk
    · exact hy.wpOp hi trivial hk
  intro fuel
  induction fuel with
  | zero =>
    intro listed a w hsz hc _ hr hy H
    refine ⟨fun h => (by rw [h] at hr; cases hr), fun j hj => ?_⟩
    by_cases hji : j = i
    · subst hji
      exact one hy ⟨fun _ h => h, H⟩
    · have := ready_mono hj hji
      rw [H.1] at this
      cases this
  | succ fuel ih =>
    intro listed a w hsz hc hfree hr hy H
    refine ⟨fun h => (by rw [h] at hr; cases hr), fun j hj => ?_⟩
    by_cases hji : j = i
    · subst hji; exact one hy ⟨fun _ h => h, H⟩
    · have h1 := H.2 j (ready_mono hj hji)
      obtain ⟨hjun, oj, hoj, hall⟩ := mem_ready.1 hj
      have hun := (mem_ready.1 hr).1
      have hun' : listed.getD i false = false := by
        have hlt : i < listed.size := by rw [hsz]; exact size_of_get hi
        simp [Array.getD, hlt] at hun ⊢
        exact hun
      have hnot : ∀ e ∈ oj.after, Region.binds .any e = true → e.on ≠ i := fun e he hb heq => by
        have h1 := hall e he hb
        rw [heq, hun'] at h1
        cases h1
      have hfree' : ∀ k ok, ops[k]? = some ok → k ≠ i → (listed.setIfInBounds j true).getD k true = false →
          (∀ e ∈ ok.after, Region.binds .any e = true → e.on ≠ i) → oi.apart ops ok = true := fun k ok hk hki hun hno => by
        refine hfree k ok hk hki ?_ hno
        by_cases hjk : j = k
        · subst hjk; exact hjun
        · rw [getD_set_ne true hjk] at hun; exact hun
      have hpre : pre ops j i = false := by
        cases hpj : pre ops j i with
        | false => rfl
        | true =>
          have := pre_listed hp hc (size_of_get hi) (j + 1) j oj (Nat.lt_succ_self j) hoj hall hpj
          rw [hun'] at this
          cases this
      have fin : ∀ (a' : Act) (w' : World), ((S w' ∧ YieldsIf P ops S oi v a' ∧ isLd P oi = true) ∨ YieldsIf P ops (fun _ => True) oi v a') →
          wpAnyN P ops Q S fuel ((listed.setIfInBounds i true).setIfInBounds j true) (a'.put oi.dst v) w' → wpAnyN P ops Q S (fuel + 1) (listed.setIfInBounds j true) a' w' := fun a' w' hy' h3 =>
        ih (listed.setIfInBounds j true) a' w' (by simpa using hsz) (closed_set hc hj) hfree' (ready_mono hr (Ne.symm hji)) hy' (by rw [Array.setIfInBounds_comm _ _ hji]; exact h3)
      rcases hy with ⟨hS, hy, hld⟩ | hy
      · have h2 := wpOp_putIf hoj (hfree j oj hoj hji hjun hnot) (fun cs b => hsel i oi cs b hi) (fun cs b => hsel j oj cs b hoj) hQ hy h1
        refine wpOp_mono (fun a' w' h3 => ?_) h2
        obtain ⟨h3, h4, h5⟩ := h3
        have hS' := h4 (needS_of hi hsz hld hpre) hS
        exact ⟨fun _ _ => hS', fin a' w' (.inl ⟨hS', h3, hld⟩) h5⟩
      · have h2 := wpOp_putIf hoj (hfree j oj hoj hji hjun hnot) (fun cs b => hsel i oi cs b hi) (fun cs b => hsel j oj cs b hoj) hQ hy h1
        exact wpOp_mono (fun a' w' h3 => ⟨fun hn hS => h3.2.1 (needS_mono hn) hS, fin a' w' (.inr h3.1) h3.2.2⟩) h2
theorem wpAnyN_done {P : Program} {ops : Array Oper} {Q : Exit → Act → World → Prop} {S : World → Prop} {listed : Array Bool} {a : Act} {w : World} (hr : Region.ready .any ops listed = []) (h : Q .normal a w) : ∀ fuel, wpAnyN P ops Q S fuel listed a w
  | 0 => ⟨hr, h⟩
  | _ + 1 => ⟨fun _ => h, by rw [hr]; simp⟩
def takeable (P : Program) (ops : Array Oper) (listed : Array Bool) (i : Nat) : Bool :=
  match ops[i]? with
  | none => false
  | some o => (isPure P o.op || isLd1 P o.op) && Region.free .any ops listed i
def eachOf (F : Nat → Prop) : List Nat → Prop
  | [] => True
  | [i] => F i
  | i :: is => F i ∧ eachOf F is
theorem eachOf_mem {F : Nat → Prop} : ∀ {is : List Nat}, eachOf F is → ∀ i ∈ is, F i
  | [], _, _, h => by cases h
  | [j], h, i, hi => by simp at hi; subst hi; exact h
  | j :: k :: is, h, i, hi => by
    rcases List.mem_cons.1 hi with rfl | hi
    · exact h.1
    · exact eachOf_mem h.2 i hi
def cDraw (P : Program) (ops : Array Oper) (S : World → Prop) (K : Fr → World → Prop) : Nat → Bool → Array Bool → Fr → World → Prop
  | 0, _, listed, l, W => (match Region.ready .any ops listed with | [] => K l W | _ :: _ => False)
  | n + 1, kn, listed, l, W => (match Region.ready .any ops listed with
    | [] => K l W
    | r :: rs => (match (r :: rs).find? (takeable P ops listed) with
      | some i => (match ops[i]? with
        | some o => (match isPure P o.op || kn with
          | true => cTakeG P S ops o l fun l' => cDraw P ops S K n kn (listed.setIfInBounds i true) l' W
          | false => S W ∧ cTakeG P S ops o l fun l' => cDraw P ops S K n true (listed.setIfInBounds i true) l' W)
        | none => False)
      | none => eachOf (fun i => (match ops[i]? with
        | some o => cGuard P ops o l W fun l' W' => (match needS P ops listed i with
          | true => S W' ∧ cDraw P ops S K n true (listed.setIfInBounds i true) l' W'
          | false => cDraw P ops S K n false (listed.setIfInBounds i true) l' W')
        | none => False)) (r :: rs)))
theorem cDraw_sound {P : Program} {ops : Array Oper} {S : World → Prop} {K : Fr → World → Prop} {Q : Exit → Act → World → Prop} (hp : preOk ops = true) (hs : Region.noSelect ops = true) (hk : ∀ l W, K l W → Q .normal (actOf l) W)
    (hQ : ∀ c a w, ¬ Q (.panic c) a w) : ∀ (n : Nat) (kn : Bool) (listed : Array Bool) (l : Fr) (W : World), listed.size = ops.size → Closed ops listed → (kn = true → S W) → cDraw P ops S K n kn listed l W → wpAnyN P ops Q S n listed (actOf l) W
  | 0, kn, listed, l, W, _, _, _, h => by
    unfold cDraw at h
    split at h <;> first | exact h.elim | skip
    rename_i hr
    exact wpAnyN_done hr (hk _ _ h) 0
  | n + 1, kn, listed, l, W, hsz, hc, hS, h => by
    unfold cDraw at h
    split at h
    · rename_i hr
      exact wpAnyN_done hr (hk _ _ h) _
    · rename_i r rs hr
      split at h
      · rename_i i hi
        split at h <;> first | exact h.elim | skip
        rename_i o ho
        have hmem : i ∈ Region.ready .any ops listed := by rw [hr]; exact List.mem_of_find?_eq_some hi
        have htk : takeable P ops listed i = true := List.find?_some hi
        unfold takeable at htk
        rw [ho] at htk
        rw [Bool.and_eq_true] at htk
        have go : ∀ (kn' : Bool), (kn' = true → S W) → (isPure P o.op = true ∨ kn' = true) → (cTakeG P S ops o l fun l' => cDraw P ops S K n kn' (listed.setIfInBounds i true) l' W) → wpAnyN P ops Q S (n + 1) listed (actOf l) W := fun kn' hS' hor h => by
          obtain ⟨v, hy, hy', h⟩ := cTakeG_sound h
          have ih := cDraw_sound hp hs hk hQ n kn' (listed.setIfInBounds i true) _ W (by simpa using hsz) (closed_set hc hmem) hS' h
          rw [← put_act] at ih
          refine wpAnyN_first hp ho (Region.noSelect_spec hs) (fun c a w hc => (hQ _ _ _ hc).elim) n listed (actOf l) W hsz hc (Region.free_spec ho htk.2) hmem ?_ ih
          cases hpu : isPure P o.op with
          | true => exact .inr (hy' hpu)
          | false =>
            rcases hor with h' | h'
            · rw [hpu] at h'; cases h'
            · refine .inl ⟨hS' h', hy, ?_⟩
              have := htk.1
              rw [hpu, Bool.false_or] at this
              simp [isLd, this, hpu]
        split at h
        · rename_i hb
          rw [Bool.or_eq_true] at hb
          exact go kn hS hb h
        · exact go true (fun _ => h.1) (.inr rfl) h.2
      · refine ⟨fun h0 => (by rw [hr] at h0; cases h0), fun i hi => ?_⟩
        have hi' := hi
        rw [hr] at hi'
        have h := eachOf_mem h i hi'
        unfold wpOp
        split at h <;> first | exact h.elim | skip
        rename_i o ho
        rw [ho]
        have := cGuard_sound (Q := Q) (next := fun a' w' => (needS P ops listed i = true → S W → S w') ∧ wpAnyN P ops Q S n (listed.setIfInBounds i true) a' w') h
          fun l' W' h' => by
            split at h'
            · exact ⟨fun _ _ => h'.1, cDraw_sound hp hs hk hQ n true _ l' W' (by simpa using hsz) (closed_set hc hi) (fun _ => h'.1) h'.2⟩
            · rename_i hn
              exact ⟨fun hn' => absurd hn' (by rw [hn]; exact Bool.false_ne_true), cDraw_sound hp hs hk hQ n false _ l' W' (by simpa using hsz) (closed_set hc hi) (fun h => absurd h Bool.false_ne_true) h'⟩
        simp only
        split
        · rename_i hw; rw [if_pos hw] at this; exact .inl this
        · rename_i hw; rw [if_neg hw] at this; exact this
/-- Does the region only reckon and read? -/
def quietOps (P : Program) (ops : Array Oper) : Bool := ops.toList.all fun o => isPure P o.op || isLd1 P o.op
def drwG (W : World) (K : World → Prop) : Prop := K W.drew
/-- In a region that also writes or calls: a condition on worlds is chosen; loads hold in whatever world that meets it. -/
def holdG (W : World) (F : (World → Prop) → Prop) : Prop := ∃ S : World → Prop, S W ∧ F S
def ldS1 (k : K1) (a : Addr) (W : World) (K : k.T → Prop) : Prop := ld1 k a W K

/-! ### Live variables at the head of a loop, or where ways meet -/
@[reducible] def LV : List (Nat × K1) → Type
  | [] => Unit
  | x :: r => x.2.T × LV r
def decL : (live : List (Nat × K1)) → Fr → Option (LV live)
  | [], _ => some ()
  | x :: r, l => match x.2.dec (getL l x.1) with
    | none => none
    | some y => (match decL r l with | some z => some (y, z) | none => none)
def genL : Nat → Nat → (Nat → Value) → List Value
  | 0, _, _ => []
  | n + 1, i, j => j i :: genL n (i + 1) j
def setLive : (live : List (Nat × K1)) → LV live → Fr → Fr
  | [], _, l => l
  | x :: r, y, l => setLive r y.2 (setL l x.1 (x.2.enc y.1))
theorem genL_getL : ∀ (l : Fr) (p : Fr), genL l.length p.length (getL (p ++ l)) = l
  | [], p => rfl
  | v :: l, p => by
    simp only [List.length_cons, genL]
    have h := genL_getL l (p ++ [v])
    rw [List.length_append, List.length_singleton, List.append_assoc, List.singleton_append] at h
    rw [h, getL_eq]
    simp
theorem setLive_dec : ∀ (live : List (Nat × K1)) (l : Fr) (x : LV live), decL live l = some x → setLive live x l = l
  | [], _, _, _ => rfl
  | y :: r, l, x, h => by
    simp only [decL] at h
    split at h <;> first | (cases h; done) | skip
    rename_i u hu
    split at h <;> first | (cases h; done) | skip
    rename_i z hz
    injection h with h
    subst h
    simp only [setLive]
    rw [K1.enc_dec hu, setL_getL]
    exact setLive_dec r l z hz
def mkFr (n : Nat) (live : List (Nat × K1)) (x : LV live) (j : Nat → Value) : Fr := setLive live x (genL n 0 j)
theorem mkFr_dec {n : Nat} {live : List (Nat × K1)} {l : Fr} {x : LV live} (hn : l.length = n) (h : decL live l = some x) : mkFr n live x (getL l) = l := by
  unfold mkFr
  subst hn
  rw [show genL l.length 0 (getL l) = l from genL_getL l []]
  exact setLive_dec live l x h
def LoopG {V : Type} (x : V) (W : World) (body : V → World → (V → World → Prop) → Prop) : Prop :=
  ∃ (I : V → World → Prop) (m : V → World → Nat), I x W ∧ ∀ x W, I x W → body x W fun x' W' => I x' W' ∧ m x' W' < m x W
/-- What stands behind a place where ways meet, said once. -/
def JoinG {V : Type} (B : V → World → Prop) (A : (V → World → Prop) → Prop) : Prop := A B

inductive Ann where
  | n
  | seq (a b : Ann)
  | join (n : Nat) (live : List (Nat × K1)) (a b : Ann)
  | cond (a b : Ann)
  | blk (a : Ann)
  | loop (n : Nat) (live : List (Nat × K1)) (a : Ann)
def cCode (P : Program) : Ann → Code → (Exit → Fr → World → Prop) → Fr → World → Prop
  | _, .skip, Q, l, W => Q .normal l W
  | _, .label _, Q, l, W => Q .normal l W
  | _, .exit id, Q, l, W => Q (.exit id) l W
  | _, .ret, Q, l, W => Q .ret l W
  | _, .region _ ops false, Q, l, W => cList P ops (Q .normal) ops.toList l W
  | _, .region _ ops true, Q, l, W => drwG W fun W' => (match Region.noSelect ops && preOk ops with
    | true => (match quietOps P ops with
      | true => cDraw P ops (fun w => w = W') (Q .normal) ops.size true (Array.replicate ops.size false) l W'
      | false => holdG W' fun S => cDraw P ops S (Q .normal) ops.size true (Array.replicate ops.size false) l W')
    | false => False)
  | .seq a b, .seq x y, Q, l, W => cCode P a x (fun e l' W' => (match e with
    | .normal => cCode P b y Q l' W'
    | e => Q e l' W')) l W
  | .join n live a b, .seq x y, Q, l, W => JoinG (V := LV live) (fun v W' => ∀ j : Nat → Value, cCode P b y Q (mkFr n live v j) W') fun B =>
      cCode P a x (fun e l' W' => (match e with
        | .normal => (match decL live l' with
          | some v => if l'.length = n then B v W' else False
          | none => False)
        | e => Q e l' W')) l W
  | .cond a b, .cond c x y, Q, l, W => (match ev l c with
    | .bool t => ifB t (cCode P a x Q l W) (cCode P b y Q l W)
    | _ => False)
  | .blk a, .block id x, Q, l, W => cCode P a x (fun e l' W' => (match e with
    | .exit id' => if id' = id then Q .normal l' W' else Q (.exit id') l' W'
    | e => Q e l' W')) l W
  | .loop n live a, .loop x, Q, l, W => (match decL live l with
    | some v => if l.length = n then LoopG v W (fun v W' C => ∀ j : Nat → Value, cCode P a x (fun e l' W'' => (match e with
        | .normal => (match decL live l' with
          | some v' => if l'.length = n then C v' W'' else False
          | none => False)
        | e => Q e l' W'')) (mkFr n live v j) W') else False
    | none => False)
  | _, _, _, _, _ => False
def liftQ (Q : Exit → Fr → World → Prop) (e : Exit) (a : Act) (W : World) : Prop :=
  match e with
  | .panic _ => False
  | .outgrown => False
  | e => ∃ l, a = actOf l ∧ Q e l W
theorem liftQ_mk {Q : Exit → Fr → World → Prop} {e : Exit} {l : Fr} {W : World} (h1 : ∀ c, e ≠ .panic c) (h2 : e ≠ .outgrown) (h : Q e l W) : liftQ Q e (actOf l) W := by
  cases e <;> first | exact absurd rfl (h1 _) | exact absurd rfl h2 | exact ⟨l, rfl, h⟩
theorem liftQ_seq {P : Program} {a : Code} {Q : Exit → Fr → World → Prop} {B : Fr → World → Prop} {e : Exit} {b : Act} {W : World}
    (h : liftQ (fun e l' W' => match e with | .normal => B l' W' | e => Q e l' W') e b W) (hb : ∀ l W, B l W → a.wp P (liftQ Q) (actOf l) W) :
    Exit.then (a.wp P (liftQ Q)) (liftQ Q) e b W := by
  cases e with
  | normal => obtain ⟨l, rfl, h⟩ := h; exact hb _ _ h
  | exit id => exact h
  | goto l => exact h
  | ret => exact h
  | panic c => exact h
  | outgrown => exact h
theorem cCode_sound {P : Program} (hm : P.follows .mixedOrders = true) : ∀ (an : Ann) (c : Code) (Q : Exit → Fr → World → Prop) (l : Fr) (W : World), cCode P an c Q l W → c.wp P (liftQ Q) (actOf l) W := by
  intro an c
  induction c generalizing an with
  | skip => intro Q l W h; cases an <;> exact wp_skip ⟨l, rfl, h⟩
  | label _ => intro Q l W h; cases an <;> exact wp_label ⟨l, rfl, h⟩
  | exit id => intro Q l W h; cases an <;> exact wp_exit ⟨l, rfl, h⟩
  | ret => intro Q l W h; cases an <;> exact wp_ret ⟨l, rfl, h⟩
  | region id ops draw =>
    intro Q l W h
    cases draw with
    | false =>
      have h : cList P ops (Q .normal) ops.toList l W := by cases an <;> exact h
      exact wp_region_list (cList_sound (fun l W hq => ⟨l, rfl, hq⟩) _ _ _ h)
    | true =>
      have h : drwG W fun W' => (match Region.noSelect ops && preOk ops with
        | true => (match quietOps P ops with
          | true => cDraw P ops (fun w => w = W') (Q .normal) ops.size true (Array.replicate ops.size false) l W'
          | false => holdG W' fun S => cDraw P ops S (Q .normal) ops.size true (Array.replicate ops.size false) l W')
        | false => False) := by cases an <;> exact h
      unfold drwG at h
      split at h <;> first | exact h.elim | skip
      rename_i hs
      rw [Bool.and_eq_true] at hs
      have hc : Closed ops (Array.replicate ops.size false) := fun j o hj hl => by
        have hlt := size_of_get hj
        simp [Array.getElem?_replicate, hlt] at hl
      split at h
      · exact wp_region_any hm (wpAny_of_N _ _ _ _ (cDraw_sound (S := fun w => w = W.drew) hs.2 hs.1 (fun l W hq => ⟨l, rfl, hq⟩) (fun _ _ _ hp => hp) _ _ _ _ _ (by simp) hc (fun _ => rfl) h))
      · obtain ⟨S, hS, h⟩ := h
        exact wp_region_any hm (wpAny_of_N _ _ _ _ (cDraw_sound (S := S) hs.2 hs.1 (fun l W hq => ⟨l, rfl, hq⟩) (fun _ _ _ hp => hp) _ _ _ _ _ (by simp) hc (fun _ => hS) h))
  | seq x y ihx ihy =>
    intro Q l W h
    cases an with
    | seq a b =>
      exact wp_seq (wp_mono (ihx a _ l W h) fun e b' W' hq => liftQ_seq hq fun l' W'' h' => ihy b Q l' W'' h')
    | join n live a b =>
      simp only [cCode, JoinG] at h
      refine wp_seq (wp_mono (ihx a _ l W h) fun e b' W' hq => liftQ_seq hq fun l' W'' h' => ?_)
      split at h' <;> first | exact h'.elim | skip
      rename_i v hv
      split at h' <;> first | exact h'.elim | skip
      rename_i hn
      have := ihy b Q _ _ (h' (getL l'))
      rwa [mkFr_dec hn hv] at this
    | n => exact h.elim
    | cond a b => exact h.elim
    | blk a => exact h.elim
    | loop n lv a => exact h.elim
  | cond c x y ihx ihy =>
    intro Q l W h
    cases an with
    | cond a b =>
      simp only [cCode] at h
      split at h <;> first | exact h.elim | skip
      rename_i t ht
      cases t with
      | true => exact wp_cond_true (by rw [ev_act]; exact ht) (ihx a Q l W h)
      | false => exact wp_cond_false (by rw [ev_act]; exact ht) (ihy b Q l W h)
    | n => exact h.elim
    | seq a b => exact h.elim
    | join n lv a b => exact h.elim
    | blk a => exact h.elim
    | loop n lv a => exact h.elim
  | block id x ih =>
    intro Q l W h
    cases an with
    | blk a =>
      refine wp_block (wp_mono (ih a _ l W h) fun e b' W' hq => ?_)
      cases e with
      | normal => exact hq
      | exit id' =>
        obtain ⟨l', rfl, hq⟩ := hq
        simp only [Exit.inBlock]
        replace hq : if id' = id then Q .normal l' W' else Q (.exit id') l' W' := hq
        split at hq
        · rename_i he; rw [if_pos he]; exact ⟨l', rfl, hq⟩
        · rename_i he; rw [if_neg he]; exact ⟨l', rfl, hq⟩
      | goto l => exact hq
      | ret => exact hq
      | panic c => exact hq
      | outgrown => exact hq
    | n => exact h.elim
    | seq a b => exact h.elim
    | join n lv a b => exact h.elim
    | cond a b => exact h.elim
    | loop n lv a => exact h.elim
  | loop x ih =>
    intro Q l W h
    cases an with
    | loop n live a =>
      simp only [cCode] at h
      split at h <;> first | exact h.elim | skip
      rename_i v hv
      split at h <;> first | exact h.elim | skip
      rename_i hn
      obtain ⟨I, m, h0, hstep⟩ := h
      refine wp_loop (fun b W' => ∃ l' v', b = actOf l' ∧ l'.length = n ∧ decL live l' = some v' ∧ I v' W')
        (fun b W' => match decL live b.tmps.toList with | some v' => m v' W' | none => 0) ⟨l, v, rfl, hn, hv, h0⟩ ?_
      rintro b W' ⟨l', v', rfl, hn', hv', hI⟩
      have hb := hstep v' W' hI (getL l')
      rw [mkFr_dec hn' hv'] at hb
      have hb' := ih a _ l' W' hb
      refine wp_mono hb' fun e b' W'' hq => ?_
      cases e with
      | normal =>
        obtain ⟨l'', rfl, hq⟩ := hq
        simp only at hq
        split at hq <;> first | exact hq.elim | skip
        rename_i v'' hv''
        split at hq <;> first | exact hq.elim | skip
        rename_i hn''
        refine ⟨⟨l'', v'', rfl, hn'', hv'', hq.1⟩, ?_⟩
        simp only [actOf, hv'', hv']
        exact hq.2
      | exit id => exact hq
      | goto l => exact hq
      | ret => exact hq
      | panic c => exact hq
      | outgrown => exact hq
    | n => exact h.elim
    | seq a b => exact h.elim
    | join n lv a b => exact h.elim
    | cond a b => exact h.elim
    | blk a => exact h.elim
  | rangeFunc _ _ _ _ _ _ => intro Q l W h; cases an <;> exact h.elim
  | scope _ _ => intro Q l W h; cases an <;> exact h.elim
  | goto _ => intro Q l W h; cases an <;> exact h.elim
  | refuse _ => intro Q l W h; cases an <;> exact h.elim

/-! ### Functions -/
def HL.dec : (ks : List K1) → List Value → Option (HL ks)
  | [], [] => some ()
  | [], _ :: _ => none
  | _ :: _, [] => none
  | k :: ks, v :: vs => match k.dec v with
    | none => none
    | some x => (match HL.dec ks vs with | some y => some (x, y) | none => none)
def Ty.dec : (t : Ty) → Value → Option t.T
  | .one k, v => k.dec v
  | .agg ks, v => match v with
    | .agg cs => HL.dec ks cs.toList
    | _ => none
def TL.dec : (ts : List Ty) → List Value → Option (TL ts)
  | [], [] => some ()
  | [], _ :: _ => none
  | _ :: _, [] => none
  | t :: ts, v :: vs => match t.dec v with
    | none => none
    | some x => (match TL.dec ts vs with | some y => some (x, y) | none => none)
theorem HL.enc_dec : ∀ {ks : List K1} {vs : List Value} {x : HL ks}, HL.dec ks vs = some x → HL.enc ks x = vs
  | [], [], _, _ => rfl
  | [], _ :: _, _, h => by cases h
  | _ :: _, [], _, h => by cases h
  | k :: ks, v :: vs, x, h => by
    simp only [HL.dec] at h
    split at h <;> first | (cases h; done) | skip
    rename_i u hu
    split at h <;> first | (cases h; done) | skip
    rename_i z hz
    injection h with h
    subst h
    simp only [HL.enc]
    rw [K1.enc_dec hu, HL.enc_dec hz]
theorem Ty.enc_dec {t : Ty} {v : Value} {x : t.T} (h : t.dec v = some x) : t.enc x = v := by
  cases t with
  | one k => exact K1.enc_dec h
  | agg ks =>
    cases v with
    | agg cs =>
      have h' : HL.dec ks cs.toList = some x := h
      simp only [Ty.enc, HL.enc_dec h']
    | _ => cases h
theorem TL.enc_dec : ∀ {ts : List Ty} {vs : List Value} {x : TL ts}, TL.dec ts vs = some x → TL.enc ts x = vs
  | [], [], _, _ => rfl
  | [], _ :: _, _, h => by cases h
  | _ :: _, [], _, h => by cases h
  | k :: ks, v :: vs, x, h => by
    simp only [TL.dec] at h
    split at h <;> first | (cases h; done) | skip
    rename_i u hu
    split at h <;> first | (cases h; done) | skip
    rename_i z hz
    injection h with h
    subst h
    simp only [TL.enc]
    rw [Ty.enc_dec hu, TL.enc_dec hz]
def cRes (P : Program) (W : World) (l : Fr) : List ResultVar → (List Value → Prop) → Prop
  | [], K => K []
  | .tmp t :: rs, K => cRes P W l rs fun vs => K (getL l t :: vs)
  | .cell a t :: rs, K => (match getL l a with
    | .pointer (some p) => ldG P t p W fun v => cRes P W l rs fun vs => K (v :: vs)
    | _ => False)
def undefs : Nat → List Value
  | 0 => []
  | n + 1 => undef :: undefs n
def decK {ts : List Ty} (K : TL ts → World → Prop) (vs : List Value) (W : World) : Prop :=
  match TL.dec ts vs with
  | some x => K x W
  | none => False
def cFn (P : Program) (an : Ann) (fn : Func) (args : List Value) (ts : List Ty) (W : World) (K : TL ts → World → Prop) : Prop :=
  match fn.body with
  | none => False
  | some c => cCode P an c (fun e l W' => match e with
    | .normal => cRes P W' l fn.results.toList fun vs => decK K vs W'
    | .ret => cRes P W' l fn.results.toList fun vs => decK K vs W'
    | _ => False) (args ++ undefs (fn.ntmps - args.length)) W

theorem cRes_sound {P : Program} {W : World} {l : Fr} : ∀ (rs : List ResultVar) (K : List Value → Prop), cRes P W l rs K →
    ∃ vs, (rs.mapM (m := Sem) fun | .tmp t => pure ((actOf l).tmps.getD t undef) | .cell a t => do loadVar t (← asAddr ((actOf l).tmps.getD a undef))).run P W = .ok vs W ∧ K vs
  | [], K, h => ⟨[], rfl, h⟩
  | .tmp t :: rs, K, h => by
    obtain ⟨vs, hv, hk⟩ := cRes_sound rs _ h
    have ht : (actOf l).tmps.getD t undef = getL l t := congrFun (ev_act l) (.tmp t)
    exact ⟨_, by simp only [List.mapM_cons, Sem.run_bind, Sem.run_pure, Result.andThen_ok, hv, ht], hk⟩
  | .cell a t :: rs, K, h => by
    simp only [cRes] at h
    split at h <;> first | exact h.elim | skip
    rename_i p hp
    obtain ⟨v, hr, h⟩ := ldG_sound h
    obtain ⟨vs, hv, hk⟩ := cRes_sound rs _ h
    have ht : (actOf l).tmps.getD a undef = .pointer (some p) := (congrFun (ev_act l) (.tmp a)).trans hp
    have hr' : (loadVar t p).run P W = .ok v W := by simpa [Instr.loadAt, Instr.sureAddr] using hr
    exact ⟨_, by simp only [List.mapM_cons, Sem.run_bind, Sem.run_pure, Result.andThen_ok, hv, ht, show (asAddr (.pointer (some p))).run P W = .ok p W from rfl, hr'], hk⟩
theorem undefs_eq (n : Nat) : undefs n = List.replicate n undef := by
  induction n with
  | zero => rfl
  | succ n ih => simp [undefs, ih, List.replicate_succ]
theorem results_run {P : Program} {fn : Func} {l : Fr} {W : World} {vs : List Value}
    (hr : (fn.results.toList.mapM (m := Sem) fun | .tmp t => pure ((actOf l).tmps.getD t undef) | .cell a t => do loadVar t (← asAddr ((actOf l).tmps.getD a undef))).run P W = .ok vs W) :
    (results fn (actOf l).tmps).run P W = .ok (tup vs) W := by
  unfold results
  simp only [Sem.run_bind, Array.mapM_eq_mapM_toList, Sem.run_map]
  refine Eq.trans (congrArg (fun r => (Result.andThen (Result.andThen r _) _)) hr) ?_
  simp only [Result.andThen_ok, Sem.run_pure]
  match vs with
  | [] => rfl
  | [v] => rfl
  | _ :: _ :: _ => rfl
theorem cRes_fin {P : Program} {fn : Func} {l : Fr} {W : World} {ts : List Ty} {K : TL ts → World → Prop} (h : cRes P W l fn.results.toList fun vs => decK K vs W) :
    ∃ v, (results fn (actOf l).tmps).run P W = .ok v W ∧ ∃ x : TL ts, Ending.returned v = .returned (RT.enc ts x) ∧ K x W := by
  obtain ⟨vs, hr, hk⟩ := cRes_sound _ _ h
  unfold decK at hk
  split at hk <;> first | exact hk.elim | skip
  rename_i x hx
  refine ⟨tup vs, results_run hr, x, ?_, hk⟩
  unfold RT.enc
  rw [TL.enc_dec hx]
theorem cFn_sound {P : Program} (hm : P.follows .mixedOrders = true) {an : Ann} {f : FuncId} {fn : Func} {args : List Value} {ts : List Ty} {W : World} {K : TL ts → World → Prop}
    (hf : P.funcs[f]? = some fn) (h : cFn P an fn args ts W K) : callG P f args ts W K := by
  unfold cFn at h
  split at h <;> first | exact h.elim | skip
  rename_i c hc
  refine calls_of_wp hf hc ?_
  have hw := cCode_sound hm an c _ _ W h
  have ha : ({ tmps := (⟨args⟩ : Array Value) ++ Array.replicate (fn.ntmps - (⟨args⟩ : Array Value).size) undef, defers := [] } : Act) = actOf (args ++ undefs (fn.ntmps - args.length)) := by
    unfold actOf
    congr 1
    rw [← Array.toList_inj]
    simp [undefs_eq]
  rw [ha]
  refine wp_mono hw fun e b W' hq => ?_
  cases e with
  | normal =>
    obtain ⟨l, rfl, hq⟩ := hq
    obtain ⟨v, hr, hk⟩ := cRes_fin hq
    exact ⟨rfl, v, hr, hk⟩
  | ret =>
    obtain ⟨l, rfl, hq⟩ := hq
    obtain ⟨v, hr, hk⟩ := cRes_fin hq
    exact ⟨rfl, v, hr, hk⟩
  | exit id => obtain ⟨l, rfl, hq⟩ := hq; exact hq.elim
  | goto g => obtain ⟨l, rfl, hq⟩ := hq; exact hq.elim
  | panic c => exact hq.elim
  | outgrown => exact hq.elim
end Go.Gp
