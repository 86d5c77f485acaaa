/-
  Gk2: the operations of Gk1 are sound over the model; operations that touch memory; lists of operations.
-/
import Derived.Test.YtbaclnddcobdmaaGk1
import Derived.Laws.Slices
import Derived.LaidEql
set_option linter.unusedSimpArgs false
set_option linter.unusedVariables false
namespace Go.Gp
open Go

theorem run_und {P : Program} {t : TypeId} {d : TypeDesc} (h : P.underlying t = some d) (w : World) : (underlying t).run P w = .ok d w := by
  simp [underlying, h]
theorem run_tinf {P : Program} {t : TypeId} {i : TypeInfo} (h : P.info? t = some i) (w : World) : (typeInfo t).run P w = .ok i w := by
  simp [typeInfo, h]
theorem run_szof {P : Program} {t : TypeId} {i : TypeInfo} (h : P.info? t = some i) (w : World) : (sizeOf t).run P w = .ok i.size w := by
  simp [sizeOf, run_tinf h]

/-- The operation leaves v whatever the world, and leaves the world. -/
def Gives (P : Program) (s : Sem Value) (v : Value) : Prop := ∀ W, s.run P W = .ok v W

theorem intBin_sound {P : Program} {op : BinOp} {k : IntKind} {a b : Int} {t : TypeId} {K : Value → Prop} (h : intBin op k a b K) :
    ∃ v, Gives P (binOp op t (.int k a) (.int k b)) v ∧ K v := by
  cases op <;> simp only [intBin] at h <;> first
    | exact h.elim
    | exact ⟨_, fun W => by simp [binOp, Op.intArith, Op.intCmp], h⟩
    | exact ⟨_, fun W => by simp [binOp, Op.intDiv, h.1], h.2⟩
theorem strBin_sound {P : Program} {op : BinOp} {a b : ByteArray} {t : TypeId} {K : Value → Prop} (h : strBin op a b K) :
    ∃ v, Gives P (binOp op t (.string a) (.string b)) v ∧ K v := by
  cases op <;> simp only [strBin] at h <;> first
    | exact h.elim
    | exact ⟨_, fun W => by simp [binOp, Op.stringOp], h⟩
theorem eqB_sound {P : Program} {op : BinOp} {b : Bool} {t : TypeId} {x y : Value} {K : Value → Prop} (h : eqB op b K)
    (he : ∀ W, (Op.equal t x y).run P W = .ok b W) (hx : binOp .eql t x y = (do pure (.bool (← Op.equal t x y)))) (hy : binOp .neq t x y = (do pure (.bool (!(← Op.equal t x y))))) :
    ∃ v, Gives P (binOp op t x y) v ∧ K v := by
  cases op <;> simp only [eqB] at h <;> first
    | exact h.elim
    | exact ⟨_, fun W => by rw [hx]; simp [he], h⟩
    | exact ⟨_, fun W => by rw [hy]; simp [he], h⟩
section
variable {P : Program} (W : World) (d : Nat) {t : TypeId}
theorem eqIn_ptr_nil {e : TypeId} (ht : P.underlying t = some (.pointer e)) (a : Option Addr) : (Op.equalIn (d + 1) t (.pointer a) (.pointer none)).run P W = .ok a.isNone W := by
  cases a <;> simp [Op.equalIn, run_und ht]
theorem eqIn_nil_ptr {e : TypeId} (ht : P.underlying t = some (.pointer e)) (b : Addr) : (Op.equalIn (d + 1) t (.pointer none) (.pointer (some b))).run P W = .ok false W := by
  simp [Op.equalIn, run_und ht]
theorem eqIn_sl_nil {e : TypeId} (ht : P.underlying t = some (.slice e)) (a : Option Addr) (n c n' c' : Nat) : (Op.equalIn (d + 1) t (.slice a n c) (.slice none n' c')).run P W = .ok a.isNone W := by
  cases a <;> simp [Op.equalIn, run_und ht]
theorem eqIn_bool (ht : P.underlying t = some .bool) (a b : Bool) : (Op.equalIn (d + 1) t (.bool a) (.bool b)).run P W = .ok (a == b) W := by
  simp [Op.equalIn, run_und ht]
theorem eqIn_ifc_nil {ms : Array (String × TypeId)} (ht : P.underlying t = some (.interface ms)) (x : Value) (hx : isIfc x = true) : (Op.equalIn (d + 1) t x .nilIface).run P W = .ok (isNilV x) W := by
  cases x <;> simp [isIfc] at hx <;> simp [Op.equalIn, run_und ht, isNilV]
theorem eqIn_nil_ifc {ms : Array (String × TypeId)} (ht : P.underlying t = some (.interface ms)) (x : Value) (hx : isIfc x = true) : (Op.equalIn (d + 1) t .nilIface x).run P W = .ok (isNilV x) W := by
  cases x <;> simp [isIfc] at hx <;> simp [Op.equalIn, run_und ht, isNilV]
theorem eqIn_ifc_ne {ms : Array (String × TypeId)} (ht : P.underlying t = some (.interface ms)) (u u' : TypeId) (v v' : Value) (hne : u ≠ u') : (Op.equalIn (d + 1) t (.iface u v) (.iface u' v')).run P W = .ok false W := by
  simp [Op.equalIn, run_und ht, hne]
theorem eqIn_ifc_int {ms : Array (String × TypeId)} (ht : P.underlying t = some (.interface ms)) (u : TypeId) (k : IntKind) (n m : Int) {i : TypeInfo} (hu : P.underlying u = some (.int k)) (hi : P.info? u = some i) (hc : i.comparable = true) :
    (Op.equalIn (d + 2) t (.iface u (.int k n)) (.iface u (.int k m))).run P W = .ok (n == m) W := by
  simp [Op.equalIn, run_und ht, run_und hu, run_tinf hi, hc]
end
theorem errEq_sound {P : Program} {t : TypeId} {ms : Array (String × TypeId)} (ht : P.underlying t = some (.interface ms)) {x y : Value} {b : Bool} (h : errEq P x y b) :
    (∀ W, (Op.equal t x y).run P W = .ok b W) ∧ (binOp .eql t x y = (do pure (.bool (← Op.equal t x y)))) ∧ (binOp .neq t x y = (do pure (.bool (!(← Op.equal t x y))))) ∧
    ∀ op u v W, (eqGuard op t u v x y).run P W = .ok () W := by
  rcases h with ⟨u, k, n, m, i, rfl, rfl, hu, hi, hc, rfl⟩ | ⟨u, v, rfl, rfl, rfl⟩ | ⟨u, v, rfl, rfl, rfl⟩ | ⟨u, v, u', v', rfl, rfl, hne, rfl⟩
  · refine ⟨fun W => ?_, rfl, rfl, fun op u v W => by unfold eqGuard; cases op <;> rfl⟩
    exact eqIn_ifc_int W 9998 ht u k n m hu hi hc
  · refine ⟨fun W => ?_, rfl, rfl, fun op u v W => by unfold eqGuard; cases op <;> rfl⟩
    exact eqIn_ifc_nil W 9999 ht _ rfl
  · refine ⟨fun W => ?_, rfl, rfl, fun op u v W => by unfold eqGuard; cases op <;> rfl⟩
    exact eqIn_nil_ifc W 9999 ht _ rfl
  · refine ⟨fun W => ?_, rfl, rfl, fun op u v W => by unfold eqGuard; cases op <;> rfl⟩
    exact eqIn_ifc_ne W 9999 ht _ _ _ _ hne
theorem eqGuard_pass {P : Program} {op : BinOp} {t : TypeId} {x y : Operand} {a b : Value} (W : World)
    (h1 : a = .nilIface → b = .nilIface → isNilC x = true ∨ isNilC y = true) (h2 : ∀ cs, a ≠ .agg cs) : (eqGuard op t x y a b).run P W = .ok () W := by
  unfold eqGuard
  cases op <;> first | rfl | skip
  all_goals
    simp only []
    split
    · rfl
    · split
      · rcases h1 rfl rfl with h | h
        · cases x <;> simp_all [isNilC]
        · cases y <;> simp_all [isNilC]
      · exact absurd rfl (h2 _)
      · rfl

theorem cBin_sound {P : Program} {op : BinOp} {t : TypeId} {x y : Operand} {ρ : Operand → Value} {K : Value → Prop} (hρ : ∀ v, ρ (.const v) = v) (h : cBin P op t x y (ρ x) (ρ y) K) :
    ∃ v, Gives P (do eqGuard op t x y (ρ x) (ρ y); binOp op t (ρ x) (ρ y)) v ∧ K v := by
  unfold cBin at h
  split at h
  · rename_i ms ht
    split at h
    · rename_i hy
      have ey : ρ y = .nilIface := by
        cases y <;> simp only [isNilC] at hy <;> first | (cases hy; done) | skip
        rename_i v
        rw [hρ]
        cases v <;> simp_all
      obtain ⟨h1, h2⟩ := h
      rw [ey]
      generalize ρ x = vx at *
      have hg : ∀ W, (eqGuard op t x y vx .nilIface).run P W = .ok () W := fun W => eqGuard_pass W (fun _ _ => .inr hy) (fun cs hc => by subst hc; simp [isIfc] at h1)
      have he : ∀ W, (Op.equal t vx .nilIface).run P W = .ok (isNilV vx) W := fun W => eqIn_ifc_nil W 9999 ht _ h1
      obtain ⟨v, hv, hk⟩ := eqB_sound (P := P) h2 he (by cases vx <;> simp [isIfc] at h1 <;> rfl) (by cases vx <;> simp [isIfc] at h1 <;> rfl)
      exact ⟨v, fun W => by simp [hg, hv W], hk⟩
    · split at h
      · rename_i hx
        have ex : ρ x = .nilIface := by
          cases x <;> simp only [isNilC] at hx <;> first | (cases hx; done) | skip
          rename_i v
          rw [hρ]
          cases v <;> simp_all
        obtain ⟨h1, h2⟩ := h
        rw [ex]
        generalize ρ y = vy at *
        have hg : ∀ W, (eqGuard op t x y .nilIface vy).run P W = .ok () W := fun W => eqGuard_pass W (fun _ _ => .inl hx) (fun cs hc => by cases hc)
        have he : ∀ W, (Op.equal t .nilIface vy).run P W = .ok (isNilV vy) W := fun W => eqIn_nil_ifc W 9999 ht _ h1
        obtain ⟨v, hv, hk⟩ := eqB_sound (P := P) h2 he (by cases vy <;> simp [isIfc] at h1 <;> rfl) (by cases vy <;> simp [isIfc] at h1 <;> rfl)
        exact ⟨v, fun W => by simp [hg, hv W], hk⟩
      · obtain ⟨b, hb, h2⟩ := h
        obtain ⟨e1, e2, e3, e4⟩ := errEq_sound ht hb
        obtain ⟨v, hv, hk⟩ := eqB_sound (P := P) h2 e1 e2 e3
        exact ⟨v, fun W => by simp [e4, hv W], hk⟩
  · rename_i e ht
    split at h <;> first | exact h.elim | skip
    rename_i a hx
    rw [hx]
    split at h <;> first | exact h.elim | skip
    · rename_i hy
      rw [hy]
      have hg : ∀ W, (eqGuard op t x y (.pointer a) (.pointer none)).run P W = .ok () W := fun W => eqGuard_pass W (fun h => by cases h) (fun cs hc => by cases hc)
      have he : ∀ W, (Op.equal t (.pointer a) (.pointer none)).run P W = .ok a.isNone W := fun W => eqIn_ptr_nil W 9999 ht _
      obtain ⟨v, hv, hk⟩ := eqB_sound (P := P) h he rfl rfl
      exact ⟨v, fun W => by simp [hg, hv W], hk⟩
    · rename_i b hy
      rw [hy]
      split at h <;> first | exact h.elim | skip
      have hg : ∀ W, (eqGuard op t x y (.pointer none) (.pointer (some b))).run P W = .ok () W := fun W => eqGuard_pass W (fun h => by cases h) (fun cs hc => by cases hc)
      have he : ∀ W, (Op.equal t (.pointer none) (.pointer (some b))).run P W = .ok false W := fun W => eqIn_nil_ptr W 9999 ht _
      obtain ⟨v, hv, hk⟩ := eqB_sound (P := P) h he rfl rfl
      exact ⟨v, fun W => by simp [hg, hv W], hk⟩
  · rename_i e ht
    split at h <;> first | exact h.elim | skip
    rename_i a n c hx
    rw [hx]
    split at h <;> first | exact h.elim | skip
    rename_i n' c' hy
    rw [hy]
    have hg : ∀ W, (eqGuard op t x y (.slice a n c) (.slice none n' c')).run P W = .ok () W := fun W => eqGuard_pass W (fun h => by cases h) (fun cs hc => by cases hc)
    have he : ∀ W, (Op.equal t (.slice a n c) (.slice none n' c')).run P W = .ok a.isNone W := fun W => eqIn_sl_nil W 9999 ht _ _ _ _ _
    obtain ⟨v, hv, hk⟩ := eqB_sound (P := P) h he rfl rfl
    exact ⟨v, fun W => by simp [hg, hv W], hk⟩
  · rename_i ht
    split at h <;> first | exact h.elim | skip
    rename_i a hx
    rw [hx]
    split at h <;> first | exact h.elim | skip
    rename_i b hy
    rw [hy]
    have hg : ∀ W, (eqGuard op t x y (.bool a) (.bool b)).run P W = .ok () W := fun W => eqGuard_pass W (fun h => by cases h) (fun cs hc => by cases hc)
    have he : ∀ W, (Op.equal t (.bool a) (.bool b)).run P W = .ok (a == b) W := fun W => eqIn_bool W 9999 ht _ _
    obtain ⟨v, hv, hk⟩ := eqB_sound (P := P) h he rfl rfl
    exact ⟨v, fun W => by simp [hg, hv W], hk⟩
  · rename_i k ht
    split at h <;> first | exact h.elim | skip
    rename_i k1 a hx
    rw [hx]
    split at h <;> first | exact h.elim | skip
    rename_i k2 b hy
    rw [hy]
    split at h <;> first | exact h.elim | skip
    rename_i hk
    subst hk
    obtain ⟨v, hv, hk⟩ := intBin_sound (P := P) (t := t) h
    exact ⟨v, fun W => by simp [eqGuard_pass (P := P) (op := op) (t := t) (x := x) (y := y) (a := .int k2 a) (b := .int k2 b) W (fun h => by cases h) (fun cs hc => by cases hc), hv W], hk⟩
  · rename_i ht
    split at h <;> first | exact h.elim | skip
    rename_i a hx
    rw [hx]
    split at h <;> first | exact h.elim | skip
    rename_i b hy
    rw [hy]
    obtain ⟨v, hv, hk⟩ := strBin_sound (P := P) (t := t) h
    exact ⟨v, fun W => by simp [eqGuard_pass (P := P) (op := op) (t := t) (x := x) (y := y) (a := .string a) (b := .string b) W (fun h => by cases h) (fun cs hc => by cases hc), hv W], hk⟩
  · exact h.elim

theorem cConv_sound {P : Program} {s d : TypeId} {v : Value} {K : Value → Prop} (h : cConv P s d v K) : ∃ u, Gives P (convert s d v) u ∧ K u := by
  unfold cConv at h
  split at h
  · exact h.elim
  · rename_i ds hs
    split at h
    · rename_i k hd
      split at h <;> first | exact h.elim | skip
      exact ⟨_, fun W => by simp [convert, run_und hs, run_und hd, Conv.intToInt], h⟩
    · rename_i hd
      split at h <;> first | exact h.elim | skip
      exact ⟨_, fun W => by simp [convert, run_und hs, run_und hd], h⟩
    · exact h.elim

theorem run_mapM_field {P : Program} (W : World) : ∀ (l : List Field) (pl : List (Nat × Nat)), (l.mapM fun f => (P.info? f.type).map fun i => (f.offset, i.size)) = some pl →
    (l.mapM (m := Sem) fun f => do pure (f.offset, ← sizeOf f.type)).run P W = .ok pl W
  | [], pl, h => by simp at h; subst h; rfl
  | f :: l, pl, h => by
    simp only [List.mapM_cons, Option.bind_eq_bind, Option.pure_def] at h
    cases hi : P.info? f.type with
    | none => simp [hi] at h
    | some i =>
      simp only [hi, Option.map_some, Option.bind_some] at h
      cases hm : (l.mapM fun f => (P.info? f.type).map fun i => (f.offset, i.size)) with
      | none => simp [hm] at h
      | some pl' =>
        simp only [hm, Option.bind_some, Option.some.injEq] at h
        subst h
        simp only [List.mapM_cons, Sem.run_bind, run_szof hi, Result.andThen_ok, Sem.run_pure, run_mapM_field W l pl' hm]

theorem run_sliceBounds_of {P : Program} {W : World} {len cap : Nat} {lo hi : Option Value} {l u : Int} (hl : bndOf lo 0 = some l) (hu : bndOf hi len = some u) (h0 : 0 ≤ l) (h1 : l ≤ u) (h2 : u ≤ cap) :
    (Instr.sliceBounds true len cap lo hi none).run P W = .ok (l.toNat, u.toNat, cap) W := by
  have eu : (u.toNat : Int) = u := Int.toNat_of_nonneg (by omega)
  unfold bndOf at hl hu
  split at hu
  · injection hu with hu; subst hu
    split at hl
    · injection hl with hl; subst hl
      simp [Instr.sliceBounds]
    · injection hl with hl; subst hl
      simp [Instr.sliceBounds, run_sliceBound W _ _ len _ h0 h1]
    · cases hl
  · injection hu with hu; subst hu
    rename_i k n
    have h3 : 0 ≤ n := by omega
    split at hl
    · injection hl with hl; subst hl
      simp [Instr.sliceBounds, run_sliceBound W _ n cap _ h3 h2]
    · injection hl with hl; subst hl
      rename_i k2 m
      simp [Instr.sliceBounds, run_sliceBound W _ n cap _ h3 h2, run_sliceBound W k2 m n.toNat _ h0 (by omega)]
    · cases hl
  · cases hu
theorem cPure_sound {P : Program} {op : Op} {ρ : Operand → Value} {K : Value → Prop} (hρ : ∀ v, ρ (.const v) = v) (hp : isPure P op = true) (h : cPure P op ρ K)
    (dst : Option Tmp) (type : TypeId) (pos : String) (after : Array Edge) (guard : Option (Nat × Bool)) :
    ∃ v, (∀ W, (execOp ρ ⟨dst, op, type, pos, after, guard⟩).run P W = .ok (.value v) W) ∧ K v := by
  have conv : ∀ {s : Sem Value} {v : Value}, Gives P s v → ∀ W, (do pure (.value (← s)) : Sem Next).run P W = .ok (.value v) W := fun {s v} hv W => by simp [hv W]
  cases op <;> simp only [isPure] at hp <;> first | (cases hp; done) | skip
  case move x => exact ⟨_, fun W => rfl, h⟩
  case assign x => exact ⟨_, fun W => rfl, h⟩
  case pick c a b =>
    simp only [cPure] at h
    split at h <;> first | exact h.elim | skip
    rename_i b' hb
    cases b' with
    | true => exact ⟨_, fun W => by simp [execOp, hb, asBool], h⟩
    | false => exact ⟨_, fun W => by simp [execOp, hb, asBool], h⟩
  case nilCheck x =>
    simp only [cPure] at h
    split at h <;> first | exact h.elim | skip
    rename_i a ha
    cases a with
    | none => exact h.elim
    | some p => exact ⟨_, fun W => by simp [execOp, ha], h⟩
  case fieldAddr s x f =>
    simp only [cPure] at h
    split at h <;> first | exact h.elim | skip
    rename_i a ha
    split at h <;> first | exact h.elim | skip
    rename_i fs hs
    split at h <;> first | exact h.elim | skip
    rename_i fd hf
    split at h <;> first | exact h.elim | skip
    rename_i i hi
    split at h <;> first | exact h.elim | skip
    rename_i hz
    exact ⟨_, conv (s := Instr.fieldAt s (ρ x) f) fun W => by simp [Instr.fieldAt, run_und hs, hf, ha, Instr.sureAddr, fieldPlace, run_szof hi, hz], h⟩
  case indexAddr t x ix =>
    simp only [cPure] at h
    split at h <;> first | exact h.elim | skip
    rename_i e ht
    split at h <;> first | exact h.elim | skip
    rename_i i hi
    split at h <;> first | exact h.elim | skip
    rename_i a n c ha
    split at h <;> first | exact h.elim | skip
    rename_i k m hix
    obtain ⟨p, rfl, h0, h1, hk⟩ := h
    exact ⟨_, conv (s := Instr.indexAt t (ρ x) (ρ ix)) fun W => by simp [Instr.indexAt, run_und ht, ha, hix, asIntOf, run_szof hi, h0, h1], hk⟩
  case binOp op t x y yt =>
    obtain ⟨v, hv, hk⟩ := cBin_sound (P := P) hρ h
    exact ⟨v, conv hv, hk⟩
  case unOp op t x =>
    cases op <;> first | (simp at hp; done) | skip
    all_goals
      simp only [cPure] at h
      split at h <;> first | exact h.elim | skip
      rename_i hx
      refine ⟨_, conv (s := Op.unary _ (ρ x)) fun W => ?_, h⟩
      simp [hx, Op.unary, Op.intArith]
      try rfl
  case makeInterface t x =>
    simp only [cPure] at h
    split at h <;> first | exact h.elim | skip
    rename_i d hn ht
    refine ⟨_, conv (s := Instr.makeInterface t (ρ x)) fun W => ?_, h⟩
    simp only [Instr.makeInterface, Sem.run_bind, run_und ht, Result.andThen_ok]
    cases d <;> first | rfl | exact absurd rfl (hn _)
  case extract x i =>
    simp only [cPure] at h
    split at h <;> first | exact h.elim | skip
    rename_i vs hx
    split at h <;> first | exact h.elim | skip
    rename_i v hv
    exact ⟨_, conv (s := Instr.extract (ρ x) i) fun W => by simp [Instr.extract, hx, hv], h⟩
  case convert s d x =>
    obtain ⟨v, hv, hk⟩ := cConv_sound h
    exact ⟨v, conv hv, hk⟩
  case call c =>
    obtain ⟨callee, args, argTypes⟩ := c
    simp only [cPure] at h
    split at h <;> first | exact h.elim | skip
    split at h <;> first | exact h.elim | skip
    rename_i t ht
    split at h <;> first | exact h.elim | skip
    rename_i x hx
    obtain rfl : argTypes = #[t] := by rw [← Array.toList_inj]; exact ht
    obtain rfl : args = #[x] := by rw [← Array.toList_inj]; exact hx
    split at h <;> first | exact h.elim | skip
    · rename_i e hu
      split at h <;> first | exact h.elim | skip
      rename_i a n cc ha
      exact ⟨_, fun W => by simp [execOp, resolve, invoke, builtin, Builtin.len_, run_und hu, ha, goInt], h⟩
    · rename_i hu
      split at h <;> first | exact h.elim | skip
      rename_i s ha
      exact ⟨_, fun W => by simp [execOp, resolve, invoke, builtin, Builtin.len_, run_und hu, ha, goInt], h⟩
  case build t ps =>
    simp only [cPure] at h
    split at h <;> first | exact h.elim | skip
    rename_i fs hs
    split at h <;> first | exact h.elim | skip
    rename_i i hi
    split at h <;> first | exact h.elim | skip
    rename_i z hz
    unfold fillK at h
    split at h <;> first | exact h.elim | skip
    rename_i pl hpl
    split at h <;> first | exact h.elim | skip
    rename_i cs hcs
    refine ⟨.agg cs, fun W => ?_, h⟩
    have hm : ((fs.mapM (m := Sem) fun f => do pure (f.offset, ← sizeOf f.type))).run P W = .ok ⟨pl⟩ W := by
      rw [Array.mapM_eq_mapM_toList]
      simp only [Sem.run_map, run_mapM_field W _ _ hpl, Result.andThen_ok]
    simp only [execOp, Array.toList_map, Instr.build, Sem.run_bind, zeroValue, run_tinf hi, Result.andThen_ok, hz, run_und hs, Sem.run_pure, hm]
    simp [hcs]
  case slice t x lo hi mx =>
    cases mx with
    | some m => simp at hp
    | none =>
      simp only [cPure] at h
      split at h <;> first | exact h.elim | skip
      rename_i e ht
      split at h <;> first | exact h.elim | skip
      rename_i i hi'
      split at h <;> first | exact h.elim | skip
      rename_i a len cap ha
      split at h <;> first | exact h.elim | skip
      rename_i l hl
      split at h <;> first | exact h.elim | skip
      rename_i u hu
      obtain ⟨h0, h1, h2, hk⟩ := h
      refine ⟨_, conv (s := Instr.sliceAt t (ρ x) (lo.map ρ) (hi.map ρ) none) fun W => ?_, hk⟩
      have eu : (u.toNat : Int) = u := Int.toNat_of_nonneg (by omega)
      have hb := run_sliceBounds_of (P := P) (W := W) hl hu h0 h1 h2
      have hz := run_szof (w := W) hi'
      simp only [Instr.sliceAt, Sem.run_bind, run_und ht, Result.andThen_ok, ha, Instr.slice, hb, hz, Sem.run_pure]
  case makeFunc fn a b => exact ⟨_, fun W => by simp [execOp, Instr.makeFunc], h⟩
  case field t x f =>
    simp only [cPure] at h
    split at h <;> first | exact h.elim | skip
    rename_i fs hs
    split at h <;> first | exact h.elim | skip
    rename_i fd hf
    split at h <;> first | exact h.elim | skip
    rename_i cs hx
    split at h <;> first | exact h.elim | skip
    rename_i d hd
    have ha : ∀ W, (isAgg fd.type).run P W = .ok (isAggD d) W := fun W => by
      simp only [isAgg, Sem.run_bind, run_und hd, Result.andThen_ok]; cases d <;> rfl
    split at h
    · rename_i hag
      split at h <;> first | exact h.elim | skip
      rename_i i hi
      exact ⟨_, conv (s := Instr.field t (ρ x) f) fun W => by simp [Instr.field, run_und hs, hf, hx, asAgg, part, ha, hag, run_szof hi], h⟩
    · rename_i hag
      split at h <;> first | exact h.elim | skip
      rename_i v hv
      exact ⟨_, conv (s := Instr.field t (ρ x) f) fun W => by simp [Instr.field, run_und hs, hf, hx, asAgg, part, ha, hag, hv], h⟩
end Go.Gp
