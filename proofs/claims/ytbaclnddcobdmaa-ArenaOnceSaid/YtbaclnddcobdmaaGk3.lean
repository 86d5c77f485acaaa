/-
  Gk3: operations that touch memory; lists of operations; regions that draw their order; whole code. All sound over the model.
-/
import Derived.Test.YtbaclnddcobdmaaGk2
set_option linter.unusedSimpArgs false
set_option linter.unusedVariables false
namespace Go.Gp
open Go

/-! ### Operations that touch memory -/
def ldG (P : Program) (t : TypeId) (a : Addr) (W : World) (K : Value → Prop) : Prop :=
  match P.underlying t with
  | none => False
  | some d => match isAggD d with
    | true => (match flat P 8 t with
      | some ks => (match P.info? t with
        | some i => if i.size = ks.length then ldN ks a W fun x => K (.agg ⟨HL.enc ks x⟩) else False
        | none => False)
      | none => False)
    | false => (match k1Of d with
      | some k => ld1 k a W fun x => K (k.enc x)
      | none => False)
/-- The cells of a value of type t. -/
def cellsG (P : Program) (t : TypeId) (v : Value) (K : List Value → Prop) : Prop :=
  match P.underlying t with
  | none => False
  | some d => match isAggD d with
    | true => (match v with
      | .agg cs => K cs.toList
      | _ => False)
    | false => oneC v (K [v])
def stG (P : Program) (t : TypeId) (a : Addr) (v : Value) (W : World) (K : World → Prop) : Prop :=
  match P.info? t with
  | none => False
  | some i => cellsG P t v fun cs => if cs.length = i.size then stN a 0 cs W K else False
def fillS (size : Nat) (z : Array Value) (n : Nat) (ps : List (Nat × Value)) (K : Array Value → Prop) : Prop :=
  match Instr.fill (fun i => some (i * size, size)) ((Array.range n).map (z[· % z.size]!)) ps with
  | none => False
  | some cs => K cs
def semOf (o : Oper) (ρ : Operand → Value) : Option (Sem Value) :=
  match o.op with
  | .binOp op t x y _ => some (do eqGuard op t x y (ρ x) (ρ y); binOp op t (ρ x) (ρ y))
  | .unOp op _ x => some (Op.unary op (ρ x))
  | .convert s d x => some (convert s d (ρ x))
  | .slice t x lo hi mx => some (Instr.sliceAt t (ρ x) (lo.map ρ) (hi.map ρ) (mx.map ρ))
  | .index t x i => some (Instr.index t (ρ x) (ρ i))
  | .indexAddr t x ix => some (Instr.indexAt t (ρ x) (ρ ix))
  | .build t ps => some (Instr.build t (ps.map fun (i, x) => (i, ρ x)))
  | .field t x f => some (Instr.field t (ρ x) f)
  | .makeMap t r => some (Instr.makeMap t (r.map ρ))
  | .lookup t x i ok => some (Instr.lookup t (ρ x) (ρ i) ok)
  | .mapEntry t m k => some (Instr.mapEntry t (ρ m) (ρ k))
  | .range t x => some (Instr.range t (ρ x))
  | .next it s => some (Instr.next (ρ it) s o.type)
  | .entry it => some (Instr.entry (ρ it))
  | .typeAssert x t u ok => some (Instr.typeAssert (ρ x) t u ok)
  | .call c => (match c.callee with
    | .builtin .append => some (Builtin.append_ c.argTypes o.type (c.args.map ρ))
    | .builtin .copy => some (Builtin.copy_ c.argTypes o.type (c.args.map ρ))
    | .builtin .cap => some (Builtin.cap_ c.argTypes o.type (c.args.map ρ))
    | .builtin .len => some (Builtin.len_ c.argTypes o.type (c.args.map ρ))
    | .builtin .min => some (Builtin.min_ c.argTypes o.type (c.args.map ρ))
    | .builtin .max => some (Builtin.max_ c.argTypes o.type (c.args.map ρ))
    | .builtin .delete => some (Builtin.delete_ c.argTypes o.type (c.args.map ρ))
    | .builtin .clear => some (Builtin.clear_ c.argTypes o.type (c.args.map ρ))
    | _ => none)
  | _ => none
/-- A call of a function that has no Go body: the model's own row. -/
def extG (P : Program) (g : FuncId) (args : List Value) (ts : List Ty) (W : World) (K : TL ts → World → Prop) : Prop :=
  ∃ x : TL ts, ∃ W', (callFunc g ⟨args⟩).run P W = .ok (.value (RT.enc ts x)) W' ∧ K x W'
/-- What a value of a type is, also for results of several parts. -/
inductive Ty' where
  | val (t : Ty)
  | tup (ts : List Ty)
@[reducible] def Ty'.T : Ty' → Type
  | .val t => t.T
  | .tup ts => TL ts
def Ty'.enc : (t : Ty') → t.T → Value
  | .val t, x => t.enc x
  | .tup ts, x => .tuple ⟨TL.enc ts x⟩
def ty'Of (P : Program) (t : TypeId) : Option Ty' :=
  match P.underlying t with
  | some (.tuple ts) => (match tysOf P ts.toList with | some ts => some (.tup ts) | none => none)
  | _ => match tyOf P t with | some t => some (.val t) | none => none
def runG' (P : Program) (t : Ty') (s : Sem Value) (W : World) (K : t.T → World → Prop) : Prop :=
  ∃ x : t.T, ∃ W', s.run P W = .ok (t.enc x) W' ∧ K x W'
def cEff (P : Program) (o : Oper) (ρ : Operand → Value) (W : World) (K : Value → World → Prop) : Prop :=
  match o.op with
  | .load t a => (match ρ a with
    | .pointer (some p) => ldG P t p W fun v => K v W
    | _ => False)
  | .store t a x => (match ρ a with
    | .pointer (some p) => stG P t p (ρ x) W fun W' => K undef W'
    | _ => False)
  | .alloc t => (match P.info? t with
    | some i => (match i.zero with
      | some z => newG (.cells z.cells t) W fun b W' => K (.pointer (some ⟨b, 0, none⟩)) W'
      | none => False)
    | none => False)
  | .box t x => cellsG P t (ρ x) fun cs => newG (.cells ⟨cs⟩ t) W fun b W' => K (.pointer (some ⟨b, 0, none⟩)) W'
  | .buildSlice t len ps => (match P.underlying t with
    | some (.slice e) => (match P.info? e with
      | some i => (match i.zero with
        | some z => if len * i.size > 2 ^ 24 then False else if len * i.size = 0 then (match ps.toList with | [] => newG (.cells #[] e) W fun b W' => K (.slice (some ⟨b, 0, none⟩) len len) W' | _ :: _ => False) else
            fillS i.size z.cells (len * i.size) (ps.toList.map fun p => (p.1, ρ p.2)) fun cs =>
              newG (.cells cs e) W fun b W' => K (.slice (some ⟨b, 0, none⟩) len len) W'
        | none => False)
      | none => False)
    | _ => False)
  | .makeSlice t l c => (match P.underlying t with
    | some (.slice e) => (match P.info? e with
      | some i => (match i.zero with
        | some z => (match ρ l with
          | .int _ n => (match ρ c with
            | .int _ m => mkG e z.cells i.size i.bytes n m W fun b W' => K (.slice (some ⟨b, 0, none⟩) n.toNat m.toNat) W'
            | _ => False)
          | _ => False)
        | none => False)
      | none => False)
    | _ => False)
  | .mapUpdate t m k x => (∃ W', (Instr.mapUpdate t (ρ m) (ρ k) (ρ x)).run P W = .ok () W' ∧ K undef W')
  | .insert t m k x => (∃ W', (Instr.mapUpdate t (ρ m) (ρ k) (ρ x)).run P W = .ok () W' ∧ K undef W')
  | .entryStore t m s x => (∃ W', (Instr.entryStore t (ρ m) (ρ s) (ρ x)).run P W = .ok () W' ∧ K undef W')
  | .call c => (match c.callee with
    | .value f => (match ρ f with
      | .func (.func g) first cap => (match P.funcs[g]? with
        | some fn => (match fn.body with
          | some _ => if fn.name == "runtime.NumGoroutine" then False else (match tysOf P fn.resultTypes.toList with
            | some ts => callG P g (first.toList ++ (c.args.toList.map ρ ++ cap.toList)) ts W fun x W' => K (RT.enc ts x) W'
            | none => False)
          | none => (match tysOf P fn.resultTypes.toList with
            | some ts => extG P g (first.toList ++ (c.args.toList.map ρ ++ cap.toList)) ts W fun x W' => K (RT.enc ts x) W'
            | none => False))
        | none => False)
      | _ => False)
    | _ => match ty'Of P o.type with
      | some t => (match semOf o ρ with
        | some s => runG' P t s W fun x W' => K (t.enc x) W'
        | none => False)
      | none => False)
  | _ => match ty'Of P o.type with
    | some t => (match semOf o ρ with
      | some s => runG' P t s W fun x W' => K (t.enc x) W'
      | none => False)
    | none => False
def cOp (P : Program) (o : Oper) (ρ : Operand → Value) (W : World) (K : Value → World → Prop) : Prop :=
  match isPure P o.op with
  | true => cPure P o.op ρ fun v => K v W
  | false => cEff P o ρ W K

theorem cellsAt_get {W : World} {a : Addr} : ∀ (vs : List Value) (i : Nat), cellsAt W a i vs → ∀ j v, vs[j]? = some v → W.cell? (a.add (i + j)) = some v
  | [], _, _, _, _, h => by simp at h
  | u :: vs, i, h, j, v, hj => by
    cases j with
    | zero => simp at hj; subst hj; exact h.1
    | succ j => have := cellsAt_get vs (i + 1) h.2 j v (by simpa using hj); rw [show i + (j + 1) = i + 1 + j from by omega]; exact this
theorem run_isAgg {P : Program} {t : TypeId} {d : TypeDesc} (h : P.underlying t = some d) (W : World) : (isAgg t).run P W = .ok (isAggD d) W := by
  simp only [isAgg, Sem.run_bind, run_und h, Result.andThen_ok]; cases d <;> rfl
theorem HL.enc_length : ∀ (ks : List K1) (x : HL ks), (HL.enc ks x).length = ks.length
  | [], _ => rfl
  | _ :: ks, x => by simp [HL.enc, HL.enc_length ks x.2]
theorem ldG_sound {P : Program} {t : TypeId} {a : Addr} {W : World} {K : Value → Prop} (h : ldG P t a W K) :
    ∃ v, (Instr.loadAt t (.pointer (some a))).run P W = .ok v W ∧ K v := by
  unfold ldG at h
  split at h <;> first | exact h.elim | skip
  rename_i d hd
  split at h
  · rename_i hag
    split at h <;> first | exact h.elim | skip
    rename_i ks hks
    split at h <;> first | exact h.elim | skip
    rename_i i hi
    split at h <;> first | exact h.elim | skip
    rename_i hsz
    obtain ⟨x, hx, hk⟩ := h
    refine ⟨_, ?_, hk⟩
    have hl := run_loadCells_list (P := P) (w := W) a (HL.enc ks x) (fun j v hj => by have := cellsAt_get _ 0 hx j v hj; rwa [Nat.zero_add] at this)
    rw [HL.enc_length] at hl
    simp [Instr.loadAt, Instr.sureAddr, loadVar, run_isAgg hd, hag, run_szof hi, hsz, hl]
  · rename_i hag
    split at h <;> first | exact h.elim | skip
    rename_i k hk
    obtain ⟨x, hx, hk⟩ := h
    exact ⟨_, by simp [Instr.loadAt, Instr.sureAddr, loadVar, run_isAgg hd, hag, hx], hk⟩
theorem stN_sound {P : Program} {a : Addr} {K : World → Prop} : ∀ (vs : List Value) (i : Nat) (W : World), stN a i vs W K → ∃ W', (storeCells a vs i).run P W = .ok () W' ∧ K W'
  | [], i, W, h => ⟨W, rfl, h⟩
  | v :: vs, i, W, h => by
    simp only [stN, oneC] at h
    split at h <;> first | exact h.elim | skip
    rename_i hv
    obtain ⟨⟨u, hu⟩, hf, h⟩ := h
    obtain ⟨W', hr, hk⟩ := stN_sound (P := P) vs (i + 1) _ h
    exact ⟨W', by simp [storeCells, run_store P W _ v .plain hv, hu, hf, hr], hk⟩
theorem cellsG_sound {P : Program} {t : TypeId} {v : Value} {K : List Value → Prop} (h : cellsG P t v K) : K v.cells.toList := by
  unfold cellsG at h
  split at h <;> first | exact h.elim | skip
  split at h
  · split at h <;> first | exact h.elim | skip
    exact h
  · unfold oneC at h
    split at h <;> first | exact h.elim | skip
    rename_i hv
    cases v <;> first | exact h | simp [Value.oneCell'] at hv
theorem stG_sound {P : Program} {t : TypeId} {a : Addr} {v : Value} {W : World} {K : World → Prop} (h : stG P t a v W K) :
    ∃ W', (Instr.storeAt t (.pointer (some a)) v).run P W = .ok () W' ∧ K W' := by
  unfold stG at h
  split at h <;> first | exact h.elim | skip
  rename_i i hi
  have h := cellsG_sound h
  split at h <;> first | exact h.elim | skip
  rename_i hsz
  obtain ⟨W', hr, hk⟩ := stN_sound (P := P) _ _ _ h
  have hsz' : v.cells.size = i.size := by simpa using hsz
  exact ⟨W', by simp [Instr.storeAt, Instr.sureAddr, storeVar, run_szof hi, hsz', hr], hk⟩
theorem upon_value {P : Program} {s : Sem Value} {v : Value} {W W' : World} (h : s.run P W = .ok v W') : (do pure (.value (← s)) : Sem Next).run P W = .ok (.value v) W' := by simp [h]
theorem upon_unit {P : Program} {s : Sem Unit} {W W' : World} (h : s.run P W = .ok () W') : (do s; pure .skip : Sem Next).run P W = .ok .skip W' := by simp [h]
theorem semOf_sound {P : Program} {o : Oper} {ρ : Operand → Value} {s : Sem Value} (h : semOf o ρ = some s) (W : World) :
    (execOp ρ o).run P W = (do pure (.value (← s)) : Sem Next).run P W := by
  obtain ⟨dst, op, type, pos, after, guard⟩ := o
  cases op <;> simp only [semOf] at h <;> first | (cases h; done) | (injection h with h; subst h; rfl) | skip
  case call c =>
    obtain ⟨callee, args, argTypes⟩ := c
    cases callee with
    | value f => simp at h
    | invoke r m => simp at h
    | builtin b => cases b <;> simp only [] at h <;> first | (cases h; done) | (injection h with h; subst h; simp [execOp, resolve, invoke, builtin])

theorem cEff_sound {P : Program} {o : Oper} {a : Act} {W : World} {K : Value → World → Prop} {Q : Exit → Act → World → Prop} {next : Act → World → Prop}
    (h : cEff P o a.eval W K) (hk : ∀ v W', K v W' → next (a.put o.dst v) W') : o.wp P a W next Q := by
  have gen : (match ty'Of P o.type with
    | some t => (match semOf o a.eval with
      | some s => runG' P t s W fun x W' => K (t.enc x) W'
      | none => False)
    | none => False) → o.wp P a W next Q := fun h => by
    split at h <;> first | exact h.elim | skip
    split at h <;> first | exact h.elim | skip
    rename_i s hs
    obtain ⟨x, W', hr, hx⟩ := h
    unfold Oper.wp
    rw [semOf_sound hs, upon_value hr]
    exact hk _ _ hx
  obtain ⟨dst, op, type, pos, after, guard⟩ := o
  unfold cEff at h
  simp only at h
  split at h <;> first | exact gen h | skip
  · -- load
    split at h <;> first | exact h.elim | skip
    rename_i p hp
    obtain ⟨v, hr, hx⟩ := ldG_sound h
    rw [← hp] at hr
    unfold Oper.wp execOp
    simp only
    rw [upon_value hr]
    exact hk _ _ hx
  · split at h <;> first | exact h.elim | skip
    rename_i p hp
    obtain ⟨W', hr, hx⟩ := stG_sound h
    rw [← hp] at hr
    unfold Oper.wp execOp
    simp only
    rw [upon_unit hr]
    exact hk _ _ hx
  · rename_i t0
    split at h <;> first | exact h.elim | skip
    rename_i i hi
    split at h <;> first | exact h.elim | skip
    rename_i z hz
    unfold Oper.wp execOp
    simp only
    rw [upon_value (v := .pointer (some ⟨W.heap.size, 0, none⟩)) (W' := W.alloc (.cells z.cells t0)) (by simp [Instr.alloc, zeroValue, run_tinf hi, hz, newVar, newRow])]
    exact hk _ _ h
  · rename_i t0 x0
    have h := cellsG_sound h
    unfold Oper.wp execOp
    simp only
    rw [upon_value (v := .pointer (some ⟨W.heap.size, 0, none⟩)) (W' := W.alloc (.cells (a.eval x0).cells t0)) (by simp [Instr.box, newVar, newRow])]
    exact hk _ _ h
  · split at h <;> first | exact h.elim | skip
    rename_i e ht
    split at h <;> first | exact h.elim | skip
    rename_i i hi
    split at h <;> first | exact h.elim | skip
    rename_i z hz
    split at h <;> first | exact h.elim | skip
    rename_i hbig
    split at h
    · rename_i hz0
      split at h <;> first | exact h.elim | skip
      rename_i hps
      unfold Oper.wp execOp
      simp only
      refine Eq.mpr (congrArg _ (upon_value (v := .slice (some ⟨W.heap.size, 0, none⟩) _ _) (W' := W.alloc (.cells #[] e)) ?_)) (hk _ _ h)
      simp only [Instr.buildSlice, Sem.run_bind, run_und ht, Result.andThen_ok, run_szof hi, hz0, if_true, Sem.run_pure, Array.toList_map, Sem.run_ite, hps, List.map_nil]
      simp [newRow, Instr.fill]
      rw [show (Array.range 0).map (fun _ => (default : Value)) = #[] from by apply Array.ext'; simp]
    rename_i hnz
    unfold fillS at h
    split at h <;> first | exact h.elim | skip
    rename_i cs hcs
    unfold Oper.wp execOp
    simp only
    refine Eq.mpr (congrArg _ (upon_value (v := .slice (some ⟨W.heap.size, 0, none⟩) _ _) (W' := W.alloc (.cells cs e)) ?_)) (hk _ _ h)
    simp only [Instr.buildSlice, Sem.run_bind, run_und ht, Result.andThen_ok, run_szof hi, hbig, if_false, hnz, zeroValue, run_tinf hi, hz, Sem.run_pure, Array.toList_map, Sem.run_ite]
    simp [hcs, newRow]
  · split at h <;> first | exact h.elim | skip
    rename_i e ht
    split at h <;> first | exact h.elim | skip
    rename_i i hi
    split at h <;> first | exact h.elim | skip
    rename_i z hz
    split at h <;> first | exact h.elim | skip
    rename_i k n hn
    split at h <;> first | exact h.elim | skip
    rename_i k' m hm
    obtain ⟨h0, h1, h2, h3, h⟩ := h
    have hr := run_make (P := P) W _ e i z ht hi hz k k' n m h0 h1 h2 h3
    rw [← hn, ← hm] at hr
    unfold Oper.wp execOp
    simp only
    rw [upon_value hr]
    exact hk _ _ h
  · obtain ⟨W', hr, hx⟩ := h
    unfold Oper.wp execOp
    simp only
    rw [upon_unit hr]
    exact hk _ _ hx
  · obtain ⟨W', hr, hx⟩ := h
    unfold Oper.wp execOp
    simp only
    rw [upon_unit hr]
    exact hk _ _ hx
  · obtain ⟨W', hr, hx⟩ := h
    unfold Oper.wp execOp
    simp only
    rw [upon_unit hr]
    exact hk _ _ hx
  · rename_i c
    obtain ⟨callee, args, argTypes⟩ := c
    simp only at h
    split at h
    · rename_i f
      split at h <;> first | exact h.elim | skip
      rename_i g first cap hf
      split at h <;> first | exact h.elim | skip
      rename_i fn hfn
      split at h
      rotate_left
      · split at h <;> first | exact h.elim | skip
        rename_i ts hts
        obtain ⟨x, W', hr, hx⟩ := h
        unfold Oper.wp
        have hr' : (execOp a.eval { dst := dst, op := .call { callee := .value f, args := args, argTypes := argTypes }, type := type, pos := pos, after := after, guard := guard }).run P W =
            (callFunc g ⟨first.toList ++ (args.toList.map a.eval ++ cap.toList)⟩).run P W := by
          simp only [execOp, resolve, hf, Deferred.ofValue, pure_bind, invoke]
          congr 2
          rw [← Array.toList_inj]; simp
        rw [hr', hr]
        exact hk _ _ hx
      rename_i b hb
      split at h <;> first | exact h.elim | skip
      rename_i hnm
      split at h <;> first | exact h.elim | skip
      rename_i ts hts
      unfold Oper.wp
      have hr : (execOp a.eval { dst := dst, op := .call { callee := .value f, args := args, argTypes := argTypes }, type := type, pos := pos, after := after, guard := guard }).run P W =
          .ok (.enter g ⟨first.toList ++ (args.toList.map a.eval ++ cap.toList)⟩) W := by
        have hnm' : ¬ fn.name = "runtime.NumGoroutine" := by simpa using hnm
        simp [execOp, resolve, hf, Deferred.ofValue, invoke, callFunc, hfn, hb, hnm']
      rw [hr]
      refine Calls.mono h fun e W' he => ?_
      obtain ⟨x, rfl, hx⟩ := he
      exact hk _ _ hx
    · exact gen h

theorem cOp_sound {P : Program} {o : Oper} {l : Fr} {W : World} {K : Value → World → Prop} {Q : Exit → Act → World → Prop} {next : Act → World → Prop}
    (h : cOp P o (ev l) W K) (hk : ∀ v W', K v W' → next (actOf (putL l o.dst v)) W') : o.wp P (actOf l) W next Q := by
  unfold cOp at h
  split at h
  · rename_i hp
    obtain ⟨dst, op, type, pos, after, guard⟩ := o
    obtain ⟨v, hv, hx⟩ := cPure_sound (P := P) (ρ := ev l) (fun _ => rfl) hp h dst type pos after guard
    unfold Oper.wp
    rw [ev_act, hv W]
    show next ((actOf l).put dst v) W
    rw [put_act]
    exact hk _ _ hx
  · rw [← ev_act] at h
    exact cEff_sound h fun v W' hv => by rw [put_act]; exact hk _ _ hv
end Go.Gp
