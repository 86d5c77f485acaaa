/-
  Gk1: a calculus of our own over the model: each function's code is turned, by a Lean function that the kernel runs ('cCode'), into a plain formula over worlds and values, without frames. It is proved here to be sound.
-/
import Derived.Tactics2
import Derived.OrdersHeld
import Derived.Laws.Entries
import Derived.Laws.MakeOwn
import Derived.Laws.World
import Derived.KernelRfl
set_option linter.unusedSimpArgs false
set_option linter.unusedVariables false
namespace Go.Gp
open Go

/-! ### Kinds of values -/
structure Sl where
  a : Option Addr
  len : Nat
  cap : Nat

inductive K1 where
  | int (k : IntKind) | bool | str | ptr | sl | flt (k : FloatKind) | any | adr

@[reducible] def K1.T : K1 → Type
  | .int _ => Int
  | .bool => Bool
  | .str => ByteArray
  | .ptr => Option Addr
  | .sl => Sl
  | .flt _ => Nat
  | .any => Value
  | .adr => Addr

def K1.enc : (k : K1) → k.T → Value
  | .int k, n => .int k n
  | .bool, b => .bool b
  | .str, s => .string s
  | .ptr, a => .pointer a
  | .sl, s => .slice s.a s.len s.cap
  | .flt k, n => .float k n
  | .any, v => v
  | .adr, a => .pointer (some a)

def K1.dec : (k : K1) → Value → Option k.T
  | .int k, v => match v with
    | .int k' n => if k' = k then some n else none
    | _ => none
  | .bool, v => match v with
    | .bool b => some b
    | _ => none
  | .str, v => match v with
    | .string s => some s
    | _ => none
  | .ptr, v => match v with
    | .pointer a => some a
    | _ => none
  | .sl, v => match v with
    | .slice a n c => some ⟨a, n, c⟩
    | _ => none
  | .flt k, v => match v with
    | .float k' n => if k' = k then some n else none
    | _ => none
  | .any, v => some v
  | .adr, v => match v with
    | .pointer (some a) => some a
    | _ => none

theorem K1.enc_dec {k : K1} {v : Value} {x : k.T} (h : k.dec v = some x) : k.enc x = v := by
  cases k with
  | int k =>
    cases v <;> simp only [K1.dec] at h <;> first | (simp at h; done) | skip
    split at h
    · rename_i hk; injection h with h; subst h; subst hk; rfl
    · simp at h
  | flt k =>
    cases v <;> simp only [K1.dec] at h <;> first | (simp at h; done) | skip
    split at h
    · rename_i hk; injection h with h; subst h; subst hk; rfl
    · simp at h
  | any => simp only [K1.dec] at h; injection h with h; subst h; rfl
  | adr =>
    cases v <;> simp only [K1.dec] at h <;> first | (simp at h; done) | skip
    rename_i a
    cases a with
    | none => cases h
    | some a => injection h with h; subst h; rfl
  | bool => cases v <;> simp only [K1.dec] at h <;> first | (injection h with h; subst h; rfl) | simp at h
  | str => cases v <;> simp only [K1.dec] at h <;> first | (injection h with h; subst h; rfl) | simp at h
  | ptr => cases v <;> simp only [K1.dec] at h <;> first | (injection h with h; subst h; rfl) | simp at h
  | sl => cases v <;> simp only [K1.dec] at h <;> first | (injection h with h; subst h; rfl) | simp at h

@[reducible] def HL : List K1 → Type
  | [] => Unit
  | k :: ks => k.T × HL ks
def HL.enc : (ks : List K1) → HL ks → List Value
  | [], _ => []
  | k :: ks, x => k.enc x.1 :: HL.enc ks x.2

inductive Ty where
  | one (k : K1)
  | agg (ks : List K1)
@[reducible] def Ty.T : Ty → Type
  | .one k => k.T
  | .agg ks => HL ks
def Ty.enc : (t : Ty) → t.T → Value
  | .one k, x => k.enc x
  | .agg ks, x => .agg ⟨HL.enc ks x⟩

@[reducible] def TL : List Ty → Type
  | [] => Unit
  | t :: ts => t.T × TL ts
def TL.enc : (ts : List Ty) → TL ts → List Value
  | [], _ => []
  | t :: ts, x => t.enc x.1 :: TL.enc ts x.2
def tup : List Value → Value
  | [v] => v
  | vs => .tuple ⟨vs⟩
def RT.enc (ts : List Ty) (x : TL ts) : Value := tup (TL.enc ts x)

/-! ### Types of the program -/
def isAggD : TypeDesc → Bool
  | .struct _ => true
  | .array _ _ => true
  | _ => false
def k1Of : TypeDesc → Option K1
  | .int k => some (.int k)
  | .bool => some .bool
  | .string => some .str
  | .pointer _ => some .ptr
  | .slice _ => some .sl
  | .float k => some (.flt k)
  | .interface _ => some .any
  | .map _ _ => some .any
  | .func _ _ _ => some .any
  | _ => none
def flat (P : Program) : Nat → TypeId → Option (List K1)
  | 0, _ => none
  | n + 1, t => match P.underlying t with
    | some (.struct fs) => fs.toList.foldr (fun f acc => match flat P n f.type with
      | some a => (match acc with | some b => some (a ++ b) | none => none)
      | none => none) (some [])
    | some (.array m e) => match flat P n e with
      | some a => some (List.replicate m a).flatten
      | none => none
    | some d => (match k1Of d with | some k => some [k] | none => none)
    | none => none
def tyOf (P : Program) (t : TypeId) : Option Ty :=
  match P.underlying t with
  | none => none
  | some d => match isAggD d with
    | true => (match flat P 8 t with | some ks => some (.agg ks) | none => none)
    | false => (match k1Of d with | some k => some (.one k) | none => none)
def tysOf (P : Program) : List TypeId → Option (List Ty)
  | [] => some []
  | t :: ts => match tyOf P t with
    | none => none
    | some x => (match tysOf P ts with | some xs => some (x :: xs) | none => none)

/-! ### Frames -/
abbrev Fr := List Value
def getL : List Value → Nat → Value
  | [], _ => undef
  | v :: _, 0 => v
  | _ :: l, n + 1 => getL l n
def setL : List Value → Nat → Value → List Value
  | [], _, _ => []
  | _ :: l, 0, v => v :: l
  | x :: l, n + 1, v => x :: setL l n v
def putL (l : Fr) (d : Option Tmp) (v : Value) : Fr :=
  match d with
  | some t => setL l t v
  | none => l
def ev (l : Fr) : Operand → Value
  | .tmp t => getL l t
  | .const v => v
  | .global g => .pointer (some ⟨g, 0, none⟩)
  | .func f => .func (.func f) #[] #[]
def actOf (l : Fr) : Act := { tmps := ⟨l⟩, defers := [] }

theorem getL_eq (l : List Value) (t : Nat) : getL l t = l.getD t undef := by
  induction l generalizing t with
  | nil => simp [getL]
  | cons v l ih => cases t with
    | zero => simp [getL]
    | succ t => simp [getL, ih]
theorem setL_eq (l : List Value) (t : Nat) (v : Value) : setL l t v = l.set t v := by
  induction l generalizing t with
  | nil => simp [setL]
  | cons x l ih => cases t with
    | zero => simp [setL]
    | succ t => simp [setL, ih]
theorem setL_length (l : List Value) (t : Nat) (v : Value) : (setL l t v).length = l.length := by simp [setL_eq]
theorem setL_getL (l : List Value) (t : Nat) : setL l t (getL l t) = l := by
  induction l generalizing t with
  | nil => rfl
  | cons x l ih => cases t with
    | zero => rfl
    | succ t => simp [setL, getL, ih]
theorem ev_act (l : Fr) : (actOf l).eval = ev l := by
  funext x
  cases x with
  | tmp t => simp [actOf, Act.eval, ev, getL_eq]
  | const v => rfl
  | global g => rfl
  | func f => rfl
theorem put_act (l : Fr) (d : Option Tmp) (v : Value) : (actOf l).put d v = actOf (putL l d v) := by
  cases d with
  | none => rfl
  | some t => simp [actOf, Act.put, putL, setL_eq]
theorem yielded_act (ops : Array Oper) (l : Fr) (j : Nat) {o : Oper} {d : Tmp} (hj : ops[j]? = some o) (hd : o.dst = some d) :
    yielded ops (actOf l).tmps j = match getL l d with | .bool b => some b | _ => none := by
  unfold yielded
  simp only [hj, Option.bind_some, hd, actOf]
  rw [getL_eq]
  simp only [List.getElem?_toArray, List.getD_eq_getElem?_getD]
  cases h : l[d]? with
  | none => simp [undef]
  | some v => cases v <;> simp

/-! ### The formula's words -/
def ifB (b : Bool) (A B : Prop) : Prop := match b with | true => A | false => B
def nilck (a : Option Addr) (K : Addr → Prop) : Prop := match a with | some p => K p | none => False
def idx (a : Option Addr) (len : Nat) (n : Int) (K : Addr → Prop) : Prop := ∃ p, a = some p ∧ 0 ≤ n ∧ n < len ∧ K p
def ld1 (k : K1) (a : Addr) (W : World) (K : k.T → Prop) : Prop := ∃ x : k.T, W.cell? a = some (k.enc x) ∧ K x
def cellsAt (W : World) (a : Addr) : Nat → List Value → Prop
  | _, [] => True
  | i, v :: vs => W.cell? (a.add i) = some v ∧ cellsAt W a (i + 1) vs
def ldN (ks : List K1) (a : Addr) (W : World) (K : HL ks → Prop) : Prop := ∃ x : HL ks, cellsAt W a 0 (HL.enc ks x) ∧ K x
def oneC (v : Value) (A : Prop) : Prop := match v.oneCell' with | true => A | false => False
def st1 (p : Addr) (v : Value) (W : World) (K : World → Prop) : Prop := (∃ u, W.cell? p = some u) ∧ W.frozen? p = false ∧ K (W.setCell p v)
def stN (a : Addr) : Nat → List Value → World → (World → Prop) → Prop
  | _, [], W, K => K W
  | i, v :: vs, W, K => oneC v (st1 (a.add i) v W fun W' => stN a (i + 1) vs W' K)
def newG (o : Obj) (W : World) (K : Nat → World → Prop) : Prop := K W.heap.size (W.alloc o)
def mkG (e : TypeId) (z : Array Value) (size bytes : Nat) (n c : Int) (W : World) (K : Nat → World → Prop) : Prop :=
  0 ≤ n ∧ n ≤ c ∧ (bytes : Int) * c ≤ 281474976710656 ∧ c ≤ 9223372036854775807 ∧ K W.heap.size (W.alloc (.cells (madeCells z (c.toNat * size)) e))
def callG (P : Program) (f : FuncId) (args : List Value) (ts : List Ty) (W : World) (K : TL ts → World → Prop) : Prop :=
  Calls P f ⟨args⟩ W fun e W' => ∃ x : TL ts, e = .returned (RT.enc ts x) ∧ K x W'
def runG (P : Program) (t : Ty) (s : Sem Value) (W : World) (K : t.T → World → Prop) : Prop :=
  ∃ x : t.T, ∃ W', s.run P W = .ok (t.enc x) W' ∧ K x W'
def isNilV : Value → Bool
  | .nilIface => true
  | _ => false
def isIfc : Value → Bool
  | .nilIface => true
  | .iface _ _ => true
  | _ => false
/-- Two interface values that are compared: of one whole-number type, or of two types, or one of them nil. -/
def errEq (P : Program) (x y : Value) (b : Bool) : Prop :=
  (∃ t k n m i, x = .iface t (.int k n) ∧ y = .iface t (.int k m) ∧ P.underlying t = some (.int k) ∧ P.info? t = some i ∧ i.comparable = true ∧ b = (n == m)) ∨
  (∃ t v, x = .iface t v ∧ y = .nilIface ∧ b = false) ∨ (∃ t v, x = .nilIface ∧ y = .iface t v ∧ b = false) ∨
  (∃ t v u v', x = .iface t v ∧ y = .iface u v' ∧ t ≠ u ∧ b = false)
def ifcEq (P : Program) (x y : Value) (K : Bool → Prop) : Prop := ∃ b, errEq P x y b ∧ K b

/-! ### Operations that only reckon -/
def intBin (op : BinOp) (k : IntKind) (a b : Int) (K : Value → Prop) : Prop :=
  match op with
  | .add => K (.int k (k.wrap (a + b)))
  | .sub => K (.int k (k.wrap (a - b)))
  | .mul => K (.int k (k.wrap (a * b)))
  | .quo => b ≠ 0 ∧ K (.int k (k.wrap (a.tdiv b)))
  | .rem => b ≠ 0 ∧ K (.int k (a.tmod b))
  | .eql => K (.bool (a == b))
  | .neq => K (.bool (a != b))
  | .lss => K (.bool (decide (a < b)))
  | .leq => K (.bool (decide (a ≤ b)))
  | .gtr => K (.bool (decide (a > b)))
  | .geq => K (.bool (decide (a ≥ b)))
  | _ => False
def strBin (op : BinOp) (a b : ByteArray) (K : Value → Prop) : Prop :=
  match op with
  | .eql => K (.bool (a.toList == b.toList))
  | .neq => K (.bool (!(a.toList == b.toList)))
  | .lss => K (.bool (Op.bytesLess a.toList b.toList))
  | _ => False
def eqB (op : BinOp) (b : Bool) (K : Value → Prop) : Prop :=
  match op with
  | .eql => K (.bool b)
  | .neq => K (.bool (!b))
  | _ => False
def isNilC : Operand → Bool
  | .const .nilIface => true
  | _ => false
def cBin (P : Program) (op : BinOp) (t : TypeId) (x y : Operand) (vx vy : Value) (K : Value → Prop) : Prop :=
  match P.underlying t with
  | some (.interface _) =>
    (match isNilC y with
    | true => isIfc vx = true ∧ eqB op (isNilV vx) K
    | false => match isNilC x with
      | true => isIfc vy = true ∧ eqB op (isNilV vy) K
      | false => ifcEq P vx vy fun b => eqB op b K)
  | some (.pointer _) => (match vx with
    | .pointer a => (match vy with
      | .pointer none => eqB op a.isNone K
      | .pointer (some _) => (match a with | none => eqB op false K | some _ => False)
      | _ => False)
    | _ => False)
  | some (.slice _) => (match vx with
    | .slice a _ _ => (match vy with
      | .slice none _ _ => eqB op a.isNone K
      | _ => False)
    | _ => False)
  | some .bool => (match vx with
    | .bool a => (match vy with
      | .bool b => eqB op (a == b) K
      | _ => False)
    | _ => False)
  | some (.int _) => (match vx with
    | .int k a => (match vy with
      | .int k' b => if k' = k then intBin op k a b K else False
      | _ => False)
    | _ => False)
  | some .string => (match vx with
    | .string a => (match vy with
      | .string b => strBin op a b K
      | _ => False)
    | _ => False)
  | _ => False
def cConv (P : Program) (s d : TypeId) (v : Value) (K : Value → Prop) : Prop :=
  match P.underlying s with
  | none => False
  | some _ => match P.underlying d with
    | some (.int k) => (match v with | .int _ n => K (.int k (k.wrap n)) | _ => False)
    | some .string => (match v with | .string s => K (.string s) | _ => False)
    | _ => False
/-- Does it only reckon, and is it one that 'cPure' knows? -/
def isPure (P : Program) : Op → Bool
  | .move _ => true
  | .assign _ => true
  | .pick _ _ _ => true
  | .nilCheck _ => true
  | .fieldAddr _ _ _ => true
  | .indexAddr _ _ _ => true
  | .binOp op t _ _ _ => match P.underlying t with
    | some (.interface _) => true
    | some (.pointer _) => true
    | some (.slice _) => true
    | some .bool => true
    | some (.int _) => (match op with | .shl => false | .shr => false | .and => false | .or => false | .xor => false | .andNot => false | _ => true)
    | some .string => (match op with | .add => false | _ => true)
    | _ => false
  | .unOp .not _ _ => true
  | .unOp .neg t _ => (match P.underlying t with | some (.int _) => true | _ => false)
  | .makeInterface _ _ => true
  | .extract _ _ => true
  | .convert s d _ => (match P.underlying s with
    | some (.int _) => (match P.underlying d with | some (.int _) => true | _ => false)
    | some .string => (match P.underlying d with | some .string => true | _ => false)
    | _ => false)
  | .call c => (match c.callee with
    | .builtin .len => (match c.argTypes.toList with
      | [t] => (match P.underlying t with | some (.slice _) => true | some .string => true | _ => false)
      | _ => false)
    | _ => false)
  | .build t _ => (match P.underlying t with | some (.struct _) => true | _ => false)
  | .makeFunc _ _ _ => true
  | .field t _ _ => (match P.underlying t with | some (.struct _) => true | _ => false)
  | .slice t _ _ _ none => (match P.underlying t with | some (.slice _) => true | _ => false)
  | _ => false
/-- a[l:h] of a slice. -/
def slcG (a : Option Addr) (cap size : Nat) (l h : Int) (K : Sl → Prop) : Prop :=
  0 ≤ l ∧ l ≤ h ∧ h ≤ cap ∧ K ⟨if cap = l.toNat then a else a.map (·.add (l.toNat * size)), h.toNat - l.toNat, cap - l.toNat⟩
def bndOf (o : Option Value) (d : Int) : Option Int :=
  match o with
  | none => some d
  | some (.int _ n) => some n
  | _ => none
def fillK (fs : Array Field) (P : Program) (z : Array Value) (ps : List (Nat × Value)) (K : Value → Prop) : Prop :=
  match fs.toList.mapM fun f => (P.info? f.type).map fun i => (f.offset, i.size) with
  | none => False
  | some pl => match Instr.fill (fun i => pl[i]?) z ps with
    | none => False
    | some cs => K (.agg cs)
def cPure (P : Program) (op : Op) (ρ : Operand → Value) (K : Value → Prop) : Prop :=
  match op with
  | .move x => K (ρ x)
  | .assign x => K (ρ x)
  | .pick c a b => (match ρ c with
    | .bool b' => ifB b' (K (ρ a)) (K (ρ b))
    | _ => False)
  | .nilCheck x => (match ρ x with
    | .pointer a => nilck a fun p => K (.pointer (some p))
    | _ => False)
  | .fieldAddr s x f => (match ρ x with
    | .pointer (some a) => (match P.underlying s with
      | some (.struct fs) => (match fs[f]? with
        | some fd => (match P.info? fd.type with
          | some i => if i.size = 0 then False else K (.pointer (some (a.add fd.offset)))
          | none => False)
        | none => False)
      | _ => False)
    | _ => False)
  | .indexAddr t x ix => (match P.underlying t with
    | some (.slice e) => (match P.info? e with
      | some i => (match ρ x with
        | .slice a len _ => (match ρ ix with
          | .int _ n => idx a len n fun p => K (.pointer (some (p.add (n.toNat * i.size))))
          | _ => False)
        | _ => False)
      | none => False)
    | _ => False)
  | .binOp op t x y _ => cBin P op t x y (ρ x) (ρ y) K
  | .unOp .not _ x => (match ρ x with | .bool b => K (.bool (!b)) | _ => False)
  | .unOp .neg _ x => (match ρ x with | .int k n => K (.int k (k.wrap (0 - n))) | _ => False)
  | .makeInterface t x => (match P.underlying t with
    | some (.interface _) => False
    | some _ => K (.iface t (ρ x))
    | none => False)
  | .extract x i => (match ρ x with
    | .tuple vs => (match vs[i]? with | some v => K v | none => False)
    | _ => False)
  | .convert s d x => cConv P s d (ρ x) K
  | .call c => (match c.callee with
    | .builtin .len => (match c.argTypes.toList with
      | [t] => (match c.args.toList with
        | [x] => (match P.underlying t with
          | some (.slice _) => (match ρ x with | .slice _ n _ => K (.int .i64 n) | _ => False)
          | some .string => (match ρ x with | .string s => K (.int .i64 s.size) | _ => False)
          | _ => False)
        | _ => False)
      | _ => False)
    | _ => False)
  | .build t ps => (match P.underlying t with
    | some (.struct fs) => (match P.info? t with
      | some i => (match i.zero with
        | some z => fillK fs P z.cells (ps.toList.map fun p => (p.1, ρ p.2)) K
        | none => False)
      | none => False)
    | _ => False)
  | .makeFunc fn a b => K (.func fn (a.map ρ) (b.map ρ))
  | .field t x f => (match P.underlying t with
    | some (.struct fs) => (match fs[f]? with
      | some fd => (match ρ x with
        | .agg cs => (match P.underlying fd.type with
          | some d => (match isAggD d with
            | true => (match P.info? fd.type with
              | some i => K (.agg (cs.extract fd.offset (fd.offset + i.size)))
              | none => False)
            | false => (match cs[fd.offset]? with
              | some v => K v
              | none => False))
          | none => False)
        | _ => False)
      | none => False)
    | _ => False)
  | .slice t x lo hi none => (match P.underlying t with
    | some (.slice e) => (match P.info? e with
      | some i => (match ρ x with
        | .slice a len cap => (match bndOf (lo.map ρ) 0 with
          | some l => (match bndOf (hi.map ρ) len with
            | some h => slcG a cap i.size l h fun r => K (.slice r.a r.len r.cap)
            | none => False)
          | none => False)
        | _ => False)
      | none => False)
    | _ => False)
  | _ => False

end Go.Gp
