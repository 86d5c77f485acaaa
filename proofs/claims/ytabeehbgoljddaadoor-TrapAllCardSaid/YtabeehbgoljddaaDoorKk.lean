/-
  Kk: texts of ours, one behind the other: Gk1, Gk2, Gk3, Gk4, Gk5, Gk6, Gk7, Gk8, Gk9, Gk10, Gk11, Gk12.
-/
import Derived.Tactics2
import Derived.OrdersHeld
import Derived.Laws.Entries
import Derived.Laws.MakeOwn
import Derived.Laws.World
import Derived.KernelRfl
import Derived.Laws.Slices
import Derived.LaidEql
import Derived.Below
import Derived.Deep.Draws
import Derived.Deep.Slices
import Derived.Carry
import Derived.ProofKit
import Derived.SizedLaws
import Derived.Laws.BytesString
import Derived.Laws.Cells
import Derived.Laws.AppendOwn
import Derived.Lib.SlBytesConst
import Derived.Maps.AppendAt
set_option linter.unusedSimpArgs false
set_option linter.unusedVariables false
namespace Go.Gp
open Go

/-! ### Kinds of values -/
structure Sl where
  a : Option Addr
  len : Nat
  cap : Nat

inductive K1 where
  | int (k : IntKind) | bool | str | ptr | sl | flt (k : FloatKind) | any | adr

@[reducible] def K1.T : K1 → Type
  | .int _ => Int
  | .bool => Bool
  | .str => ByteArray
  | .ptr => Option Addr
  | .sl => Sl
  | .flt _ => Nat
  | .any => Value
  | .adr => Addr

def K1.enc : (k : K1) → k.T → Value
  | .int k, n => .int k n
  | .bool, b => .bool b
  | .str, s => .string s
  | .ptr, a => .pointer a
  | .sl, s => .slice s.a s.len s.cap
  | .flt k, n => .float k n
  | .any, v => v
  | .adr, a => .pointer (some a)

def K1.dec : (k : K1) → Value → Option k.T
  | .int k, v => match v with
    | .int k' n => if k' = k then some n else none
    | _ => none
  | .bool, v => match v with
    | .bool b => some b
    | _ => none
  | .str, v => match v with
    | .string s => some s
    | _ => none
  | .ptr, v => match v with
    | .pointer a => some a
    | _ => none
  | .sl, v => match v with
    | .slice a n c => some ⟨a, n, c⟩
    | _ => none
  | .flt k, v => match v with
    | .float k' n => if k' = k then some n else none
    | _ => none
  | .any, v => some v
  | .adr, v => match v with
    | .pointer (some a) => some a
    | _ => none

theorem K1.enc_dec {k : K1} {v : Value} {x : k.T} (h : k.dec v = some x) : k.enc x = v := by
  cases k with
  | int k =>
    cases v <;> simp only [K1.dec] at h <;> first | (simp at h; done) | skip
    split at h
    · rename_i hk; injection h with h; subst h; subst hk; rfl
    · simp at h
  | flt k =>
    cases v <;> simp only [K1.dec] at h <;> first | (simp at h; done) | skip
    split at h
    · rename_i hk; injection h with h; subst h; subst hk; rfl
    · simp at h
  | any => simp only [K1.dec] at h; injection h with h; subst h; rfl
  | adr =>
    cases v <;> simp only [K1.dec] at h <;> first | (simp at h; done) | skip
    rename_i a
    cases a with
    | none => cases h
    | some a => injection h with h; subst h; rfl
  | bool => cases v <;> simp only [K1.dec] at h <;> first | (injection h with h; subst h; rfl) | simp at h
  | str => cases v <;> simp only [K1.dec] at h <;> first | (injection h with h; subst h; rfl) | simp at h
  | ptr => cases v <;> simp only [K1.dec] at h <;> first | (injection h with h; subst h; rfl) | simp at h
  | sl => cases v <;> simp only [K1.dec] at h <;> first | (injection h with h; subst h; rfl) | simp at h

@[reducible] def HL : List K1 → Type
  | [] => Unit
  | k :: ks => k.T × HL ks
def HL.enc : (ks : List K1) → HL ks → List Value
  | [], _ => []
  | k :: ks, x => k.enc x.1 :: HL.enc ks x.2

inductive Ty where
  | one (k : K1)
  | agg (ks : List K1)
@[reducible] def Ty.T : Ty → Type
  | .one k => k.T
  | .agg ks => HL ks
def Ty.enc : (t : Ty) → t.T → Value
  | .one k, x => k.enc x
  | .agg ks, x => .agg ⟨HL.enc ks x⟩

@[reducible] def TL : List Ty → Type
  | [] => Unit
  | t :: ts => t.T × TL ts
def TL.enc : (ts : List Ty) → TL ts → List Value
  | [], _ => []
  | t :: ts, x => t.enc x.1 :: TL.enc ts x.2
def tup : List Value → Value
  | [v] => v
  | vs => .tuple ⟨vs⟩
def RT.enc (ts : List Ty) (x : TL ts) : Value := tup (TL.enc ts x)

/-! ### Types of the program -/
def isAggD : TypeDesc → Bool
  | .struct _ => true
  | .array _ _ => true
  | _ => false
def k1Of : TypeDesc → Option K1
  | .int k => some (.int k)
  | .bool => some .bool
  | .string => some .str
  | .pointer _ => some .ptr
  | .slice _ => some .sl
  | .float k => some (.flt k)
  | .interface _ => some .any
  | .map _ _ => some .any
  | .func _ _ _ => some .any
  | _ => none
def flat (P : Program) : Nat → TypeId → Option (List K1)
  | 0, _ => none
  | n + 1, t => match P.underlying t with
    | some (.struct fs) => fs.toList.foldr (fun f acc => match flat P n f.type with
      | some a => (match acc with | some b => some (a ++ b) | none => none)
      | none => none) (some [])
    | some (.array m e) => match flat P n e with
      | some a => some (List.replicate m a).flatten
      | none => none
    | some d => (match k1Of d with | some k => some [k] | none => none)
    | none => none
def tyOf (P : Program) (t : TypeId) : Option Ty :=
  match P.underlying t with
  | none => none
  | some d => match isAggD d with
    | true => (match flat P 8 t with | some ks => some (.agg ks) | none => none)
    | false => (match k1Of d with | some k => some (.one k) | none => none)
def tysOf (P : Program) : List TypeId → Option (List Ty)
  | [] => some []
  | t :: ts => match tyOf P t with
    | none => none
    | some x => (match tysOf P ts with | some xs => some (x :: xs) | none => none)

/-! ### Frames -/
abbrev Fr := List Value
def getL : List Value → Nat → Value
  | [], _ => undef
  | v :: _, 0 => v
  | _ :: l, n + 1 => getL l n
def setL : List Value → Nat → Value → List Value
  | [], _, _ => []
  | _ :: l, 0, v => v :: l
  | x :: l, n + 1, v => x :: setL l n v
def putL (l : Fr) (d : Option Tmp) (v : Value) : Fr :=
  match d with
  | some t => setL l t v
  | none => l
def ev (l : Fr) : Operand → Value
  | .tmp t => getL l t
  | .const v => v
  | .global g => .pointer (some ⟨g, 0, none⟩)
  | .func f => .func (.func f) #[] #[]
def actOf (l : Fr) : Act := { tmps := ⟨l⟩, defers := [] }

theorem getL_eq (l : List Value) (t : Nat) : getL l t = l.getD t undef := by
  induction l generalizing t with
  | nil => simp [getL]
  | cons v l ih => cases t with
    | zero => simp [getL]
    | succ t => simp [getL, ih]
theorem setL_eq (l : List Value) (t : Nat) (v : Value) : setL l t v = l.set t v := by
  induction l generalizing t with
  | nil => simp [setL]
  | cons x l ih => cases t with
    | zero => simp [setL]
    | succ t => simp [setL, ih]
theorem setL_length (l : List Value) (t : Nat) (v : Value) : (setL l t v).length = l.length := by simp [setL_eq]
theorem setL_getL (l : List Value) (t : Nat) : setL l t (getL l t) = l := by
  induction l generalizing t with
  | nil => rfl
  | cons x l ih => cases t with
    | zero => rfl
    | succ t => simp [setL, getL, ih]
theorem ev_act (l : Fr) : (actOf l).eval = ev l := by
  funext x
  cases x with
  | tmp t => simp [actOf, Act.eval, ev, getL_eq]
  | const v => rfl
  | global g => rfl
  | func f => rfl
theorem put_act (l : Fr) (d : Option Tmp) (v : Value) : (actOf l).put d v = actOf (putL l d v) := by
  cases d with
  | none => rfl
  | some t => simp [actOf, Act.put, putL, setL_eq]
theorem yielded_act (ops : Array Oper) (l : Fr) (j : Nat) {o : Oper} {d : Tmp} (hj : ops[j]? = some o) (hd : o.dst = some d) :
    yielded ops (actOf l).tmps j = match getL l d with | .bool b => some b | _ => none := by
  unfold yielded
  simp only [hj, Option.bind_some, hd, actOf]
  rw [getL_eq]
  simp only [List.getElem?_toArray, List.getD_eq_getElem?_getD]
  cases h : l[d]? with
  | none => simp [undef]
  | some v => cases v <;> simp

/-! ### The formula's words -/
def ifB (b : Bool) (A B : Prop) : Prop := match b with | true => A | false => B
def nilck (a : Option Addr) (K : Addr → Prop) : Prop := match a with | some p => K p | none => False
def idx (a : Option Addr) (len : Nat) (n : Int) (K : Addr → Prop) : Prop := ∃ p, a = some p ∧ 0 ≤ n ∧ n < len ∧ K p
def ld1 (k : K1) (a : Addr) (W : World) (K : k.T → Prop) : Prop := ∃ x : k.T, W.cell? a = some (k.enc x) ∧ K x
def cellsAt (W : World) (a : Addr) : Nat → List Value → Prop
  | _, [] => True
  | i, v :: vs => W.cell? (a.add i) = some v ∧ cellsAt W a (i + 1) vs
def ldN (ks : List K1) (a : Addr) (W : World) (K : HL ks → Prop) : Prop := ∃ x : HL ks, cellsAt W a 0 (HL.enc ks x) ∧ K x
def oneC (v : Value) (A : Prop) : Prop := match v.oneCell' with | true => A | false => False
def st1 (p : Addr) (v : Value) (W : World) (K : World → Prop) : Prop := (∃ u, W.cell? p = some u) ∧ W.frozen? p = false ∧ K (W.setCell p v)
def stN (a : Addr) : Nat → List Value → World → (World → Prop) → Prop
  | _, [], W, K => K W
  | i, v :: vs, W, K => oneC v (st1 (a.add i) v W fun W' => stN a (i + 1) vs W' K)
def newG (o : Obj) (W : World) (K : Nat → World → Prop) : Prop := K W.heap.size (W.alloc o)
def mkG (e : TypeId) (z : Array Value) (size bytes : Nat) (n c : Int) (W : World) (K : Nat → World → Prop) : Prop :=
  0 ≤ n ∧ n ≤ c ∧ (bytes : Int) * c ≤ 281474976710656 ∧ c ≤ 9223372036854775807 ∧ K W.heap.size (W.alloc (.cells (madeCells z (c.toNat * size)) e))
def callG (P : Program) (f : FuncId) (args : List Value) (ts : List Ty) (W : World) (K : TL ts → World → Prop) : Prop :=
  Calls P f ⟨args⟩ W fun e W' => ∃ x : TL ts, e = .returned (RT.enc ts x) ∧ K x W'
def runG (P : Program) (t : Ty) (s : Sem Value) (W : World) (K : t.T → World → Prop) : Prop :=
  ∃ x : t.T, ∃ W', s.run P W = .ok (t.enc x) W' ∧ K x W'
def isNilV : Value → Bool
  | .nilIface => true
  | _ => false
def isIfc : Value → Bool
  | .nilIface => true
  | .iface _ _ => true
  | _ => false
/-- Two interface values that are compared: of one whole-number type, or of two types, or one of them nil. -/
def errEq (P : Program) (x y : Value) (b : Bool) : Prop :=
  (∃ t k n m i, x = .iface t (.int k n) ∧ y = .iface t (.int k m) ∧ P.underlying t = some (.int k) ∧ P.info? t = some i ∧ i.comparable = true ∧ b = (n == m)) ∨
  (∃ t v, x = .iface t v ∧ y = .nilIface ∧ b = false) ∨ (∃ t v, x = .nilIface ∧ y = .iface t v ∧ b = false) ∨
  (∃ t v u v', x = .iface t v ∧ y = .iface u v' ∧ t ≠ u ∧ b = false) ∨
  (∃ t n m i, x = .iface t (.string n) ∧ y = .iface t (.string m) ∧ P.underlying t = some .string ∧ P.info? t = some i ∧ i.comparable = true ∧ b = (n == m))
def ifcEq (P : Program) (x y : Value) (K : Bool → Prop) : Prop := ∃ b, errEq P x y b ∧ K b

/-! ### Operations that only reckon -/
/-- a >> b -/
def shrI (k : IntKind) (a b : Int) : Int := a.fdiv (2 ^ (min b.toNat k.bits))
def intBin (op : BinOp) (k : IntKind) (a b : Int) (K : Value → Prop) : Prop :=
  match op with
  | .add => K (.int k (k.wrap (a + b)))
  | .sub => K (.int k (k.wrap (a - b)))
  | .mul => K (.int k (k.wrap (a * b)))
  | .quo => b ≠ 0 ∧ K (.int k (k.wrap (a.tdiv b)))
  | .rem => b ≠ 0 ∧ K (.int k (a.tmod b))
  | .shr => 0 ≤ b ∧ K (.int k (shrI k a b))
  | .eql => K (.bool (a == b))
  | .neq => K (.bool (a != b))
  | .lss => K (.bool (decide (a < b)))
  | .leq => K (.bool (decide (a ≤ b)))
  | .gtr => K (.bool (decide (a > b)))
  | .geq => K (.bool (decide (a ≥ b)))
  | _ => False
def strBin (op : BinOp) (a b : ByteArray) (K : Value → Prop) : Prop :=
  match op with
  | .eql => K (.bool (a.toList == b.toList))
  | .neq => K (.bool (!(a.toList == b.toList)))
  | .lss => K (.bool (Op.bytesLess a.toList b.toList))
  | _ => False
/-! Floats, by their bits -/
def fEq (k : FloatKind) (a b : Nat) : Bool := k.format.order a b == some .eq
def fLt (k : FloatKind) (a b : Nat) : Bool := k.format.order a b == some .lt
def fGt (k : FloatKind) (a b : Nat) : Bool := k.format.order a b == some .gt
def fLe (k : FloatKind) (a b : Nat) : Bool := k.format.order a b == some .lt || k.format.order a b == some .eq
def fGe (k : FloatKind) (a b : Nat) : Bool := k.format.order a b == some .gt || k.format.order a b == some .eq
def fNeg (k : FloatKind) (a : Nat) : Nat := Op.negFloat k a
def fInt (k : FloatKind) (n : Int) : Nat := k.nearest n
def fltBin (op : BinOp) (k : FloatKind) (a b : Nat) (K : Value → Prop) : Prop :=
  match op with
  | .eql => K (.bool (fEq k a b))
  | .neq => K (.bool (!fEq k a b))
  | .lss => K (.bool (fLt k a b))
  | .leq => K (.bool (fLe k a b))
  | .gtr => K (.bool (fGt k a b))
  | .geq => K (.bool (fGe k a b))
  | _ => False
def eqB (op : BinOp) (b : Bool) (K : Value → Prop) : Prop :=
  match op with
  | .eql => K (.bool b)
  | .neq => K (.bool (!b))
  | _ => False
def isNilC : Operand → Bool
  | .const .nilIface => true
  | _ => false
def cBin (P : Program) (op : BinOp) (t : TypeId) (x y : Operand) (vx vy : Value) (K : Value → Prop) : Prop :=
  match P.underlying t with
  | some (.interface _) =>
    (match isNilC y with
    | true => isIfc vx = true ∧ eqB op (isNilV vx) K
    | false => match isNilC x with
      | true => isIfc vy = true ∧ eqB op (isNilV vy) K
      | false => ifcEq P vx vy fun b => eqB op b K)
  | some (.pointer _) => (match vx with
    | .pointer a => (match vy with
      | .pointer none => eqB op a.isNone K
      | .pointer (some _) => (match a with | none => eqB op false K | some _ => False)
      | _ => False)
    | _ => False)
  | some (.slice _) => (match vx with
    | .slice a _ _ => (match vy with
      | .slice none _ _ => eqB op a.isNone K
      | _ => False)
    | _ => False)
  | some .bool => (match vx with
    | .bool a => (match vy with
      | .bool b => eqB op (a == b) K
      | _ => False)
    | _ => False)
  | some (.int _) => (match vx with
    | .int k a => (match vy with
      | .int k' b => if k' = k then intBin op k a b K else False
      | _ => False)
    | _ => False)
  | some .string => (match vx with
    | .string a => (match vy with
      | .string b => strBin op a b K
      | _ => False)
    | _ => False)
  | some (.float _) => (match vx with
    | .float k a => (match vy with
      | .float k' b => if k' = k then fltBin op k a b K else False
      | _ => False)
    | _ => False)
  | _ => False
def cConv (P : Program) (s d : TypeId) (v : Value) (K : Value → Prop) : Prop :=
  match P.underlying s with
  | none => False
  | some _ => match P.underlying d with
    | some (.int k) => (match v with | .int _ n => K (.int k (k.wrap n)) | _ => False)
    | some .string => (match v with | .string s => K (.string s) | _ => False)
    | some (.float k) => (match v with | .int _ n => K (.float k (fInt k n)) | _ => False)
    | _ => False
def pureBin (op : BinOp) (d : Option TypeDesc) : Bool :=
  match d with
  | some (.interface _) => true
  | some (.pointer _) => true
  | some (.slice _) => true
  | some .bool => true
  | some (.int _) => (match op with | .shl => false | .and => false | .or => false | .xor => false | .andNot => false | _ => true)
  | some .string => (match op with | .add => false | _ => true)
  | some (.float _) => (match op with | .add => false | .sub => false | .mul => false | .quo => false | _ => true)
  | _ => false
/-- Does it only reckon, and is it one that 'cPure' knows? -/
def isPure (P : Program) : Op → Bool
  | .move _ => true
  | .assign _ => true
  | .pick _ _ _ => true
  | .nilCheck _ => true
  | .fieldAddr _ _ _ => true
  | .indexAddr _ _ _ => true
  | .binOp op t _ _ _ => pureBin op (P.underlying t)
  | .unOp .not _ _ => true
  | .unOp .neg t _ => (match P.underlying t with | some (.int _) => true | some (.float _) => true | _ => false)
  | .makeInterface _ _ => true
  | .extract _ _ => true
  | .convert s d _ => (match P.underlying s with
    | some (.int _) => (match P.underlying d with | some (.int _) => true | some (.float _) => true | _ => false)
    | some .string => (match P.underlying d with | some .string => true | _ => false)
    | _ => false)
  | .call c => (match c.callee with
    | .builtin .len => (match c.argTypes.toList with
      | [t] => (match P.underlying t with | some (.slice _) => true | some .string => true | _ => false)
      | _ => false)
    | _ => false)
  | .build t _ => (match P.underlying t with | some (.struct _) => true | _ => false)
  | .makeFunc _ _ _ => true
  | .field t _ _ => (match P.underlying t with | some (.struct _) => true | _ => false)
  | .slice t _ _ _ none => (match P.underlying t with | some (.slice _) => true | _ => false)
  | _ => false
/-- a[l:h] of a slice. -/
def slcG (a : Option Addr) (cap size : Nat) (l h : Int) (K : Sl → Prop) : Prop :=
  0 ≤ l ∧ l ≤ h ∧ h ≤ cap ∧ K ⟨if cap = l.toNat then a else a.map (·.add (l.toNat * size)), h.toNat - l.toNat, cap - l.toNat⟩
def bndOf (o : Option Value) (d : Int) : Option Int :=
  match o with
  | none => some d
  | some (.int _ n) => some n
  | _ => none
def fillK (fs : Array Field) (P : Program) (z : Array Value) (ps : List (Nat × Value)) (K : Value → Prop) : Prop :=
  match fs.toList.mapM fun f => (P.info? f.type).map fun i => (f.offset, i.size) with
  | none => False
  | some pl => match Instr.fill (fun i => pl[i]?) z ps with
    | none => False
    | some cs => K (.agg cs)
def cPure (P : Program) (op : Op) (ρ : Operand → Value) (K : Value → Prop) : Prop :=
  match op with
  | .move x => K (ρ x)
  | .assign x => K (ρ x)
  | .pick c a b => (match ρ c with
    | .bool b' => ifB b' (K (ρ a)) (K (ρ b))
    | _ => False)
  | .nilCheck x => (match ρ x with
    | .pointer a => nilck a fun p => K (.pointer (some p))
    | _ => False)
  | .fieldAddr s x f => (match ρ x with
    | .pointer (some a) => (match P.underlying s with
      | some (.struct fs) => (match fs[f]? with
        | some fd => (match P.info? fd.type with
          | some i => if i.size = 0 then False else K (.pointer (some (a.add fd.offset)))
          | none => False)
        | none => False)
      | _ => False)
    | _ => False)
  | .indexAddr t x ix => (match P.underlying t with
    | some (.slice e) => (match P.info? e with
      | some i => (match ρ x with
        | .slice a len _ => (match ρ ix with
          | .int _ n => idx a len n fun p => K (.pointer (some (p.add (n.toNat * i.size))))
          | _ => False)
        | _ => False)
      | none => False)
    | _ => False)
  | .binOp op t x y _ => cBin P op t x y (ρ x) (ρ y) K
  | .unOp .not _ x => (match ρ x with | .bool b => K (.bool (!b)) | _ => False)
  | .unOp .neg _ x => (match ρ x with | .int k n => K (.int k (k.wrap (0 - n))) | .float k n => K (.float k (fNeg k n)) | _ => False)
  | .makeInterface t x => (match P.underlying t with
    | some (.interface _) => False
    | some _ => K (.iface t (ρ x))
    | none => False)
  | .extract x i => (match ρ x with
    | .tuple vs => (match vs[i]? with | some v => K v | none => False)
    | _ => False)
  | .convert s d x => cConv P s d (ρ x) K
  | .call c => (match c.callee with
    | .builtin .len => (match c.argTypes.toList with
      | [t] => (match c.args.toList with
        | [x] => (match P.underlying t with
          | some (.slice _) => (match ρ x with | .slice _ n _ => K (.int .i64 n) | _ => False)
          | some .string => (match ρ x with | .string s => K (.int .i64 s.size) | _ => False)
          | _ => False)
        | _ => False)
      | _ => False)
    | _ => False)
  | .build t ps => (match P.underlying t with
    | some (.struct fs) => (match P.info? t with
      | some i => (match i.zero with
        | some z => fillK fs P z.cells (ps.toList.map fun p => (p.1, ρ p.2)) K
        | none => False)
      | none => False)
    | _ => False)
  | .makeFunc fn a b => K (.func fn (a.map ρ) (b.map ρ))
  | .field t x f => (match P.underlying t with
    | some (.struct fs) => (match fs[f]? with
      | some fd => (match ρ x with
        | .agg cs => (match P.underlying fd.type with
          | some d => (match isAggD d with
            | true => (match P.info? fd.type with
              | some i => K (.agg (cs.extract fd.offset (fd.offset + i.size)))
              | none => False)
            | false => (match cs[fd.offset]? with
              | some v => K v
              | none => False))
          | none => False)
        | _ => False)
      | none => False)
    | _ => False)
  | .slice t x lo hi none => (match P.underlying t with
    | some (.slice e) => (match P.info? e with
      | some i => (match ρ x with
        | .slice a len cap => (match bndOf (lo.map ρ) 0 with
          | some l => (match bndOf (hi.map ρ) len with
            | some h => slcG a cap i.size l h fun r => K (.slice r.a r.len r.cap)
            | none => False)
          | none => False)
        | _ => False)
      | none => False)
    | _ => False)
  | _ => False

end Go.Gp
set_option linter.unusedSimpArgs false
set_option linter.unusedVariables false
namespace Go.Gp
open Go

theorem run_und {P : Program} {t : TypeId} {d : TypeDesc} (h : P.underlying t = some d) (w : World) : (underlying t).run P w = .ok d w := by
  simp [underlying, h]
theorem run_tinf {P : Program} {t : TypeId} {i : TypeInfo} (h : P.info? t = some i) (w : World) : (typeInfo t).run P w = .ok i w := by
  simp [typeInfo, h]
theorem run_szof {P : Program} {t : TypeId} {i : TypeInfo} (h : P.info? t = some i) (w : World) : (sizeOf t).run P w = .ok i.size w := by
  simp [sizeOf, run_tinf h]

/-- The operation leaves v whatever the world, and leaves the world. -/
def Gives (P : Program) (s : Sem Value) (v : Value) : Prop := ∀ W, s.run P W = .ok v W

theorem intBin_sound {P : Program} {op : BinOp} {k : IntKind} {a b : Int} {t : TypeId} {K : Value → Prop} (h : intBin op k a b K) :
    ∃ v, Gives P (binOp op t (.int k a) (.int k b)) v ∧ K v := by
  by_cases hop : op = .shr
  · subst hop
    exact ⟨_, fun W => by
      show (Op.shift .shr k a k b).run P W = _
      unfold Op.shift
      rw [if_neg (Int.not_lt.2 h.1)]
      rfl, h.2⟩
  cases op <;> simp only [intBin] at h <;> first
    | exact absurd rfl hop
    | exact h.elim
    | exact ⟨_, fun W => by simp [binOp, Op.intArith, Op.intCmp], h⟩
    | exact ⟨_, fun W => by simp [binOp, Op.intDiv, h.1], h.2⟩
theorem fltBin_sound {P : Program} {op : BinOp} {k : FloatKind} {a b : Nat} {t : TypeId} {K : Value → Prop} (h : fltBin op k a b K) :
    ∃ v, Gives P (binOp op t (.float k a) (.float k b)) v ∧ K v := by
  cases op <;> simp only [fltBin] at h <;> first
    | exact h.elim
    | exact ⟨_, fun W => by simp [binOp, Op.floatCmp, fEq, fLt, fGt, fLe, fGe, bne], h⟩
theorem strBin_sound {P : Program} {op : BinOp} {a b : ByteArray} {t : TypeId} {K : Value → Prop} (h : strBin op a b K) :
    ∃ v, Gives P (binOp op t (.string a) (.string b)) v ∧ K v := by
  cases op <;> simp only [strBin] at h <;> first
    | exact h.elim
    | exact ⟨_, fun W => by simp [binOp, Op.stringOp], h⟩
theorem eqB_sound {P : Program} {op : BinOp} {b : Bool} {t : TypeId} {x y : Value} {K : Value → Prop} (h : eqB op b K)
    (he : ∀ W, (Op.equal t x y).run P W = .ok b W) (hx : binOp .eql t x y = (do pure (.bool (← Op.equal t x y)))) (hy : binOp .neq t x y = (do pure (.bool (!(← Op.equal t x y))))) :
    ∃ v, Gives P (binOp op t x y) v ∧ K v := by
  cases op <;> simp only [eqB] at h <;> first
    | exact h.elim
    | exact ⟨_, fun W => by rw [hx]; simp [he], h⟩
    | exact ⟨_, fun W => by rw [hy]; simp [he], h⟩
section
variable {P : Program} (W : World) (d : Nat) {t : TypeId}
theorem eqIn_ptr_nil {e : TypeId} (ht : P.underlying t = some (.pointer e)) (a : Option Addr) : (Op.equalIn (d + 1) t (.pointer a) (.pointer none)).run P W = .ok a.isNone W := by
  cases a <;> simp [Op.equalIn, run_und ht]
theorem eqIn_nil_ptr {e : TypeId} (ht : P.underlying t = some (.pointer e)) (b : Addr) : (Op.equalIn (d + 1) t (.pointer none) (.pointer (some b))).run P W = .ok false W := by
  simp [Op.equalIn, run_und ht]
theorem eqIn_sl_nil {e : TypeId} (ht : P.underlying t = some (.slice e)) (a : Option Addr) (n c n' c' : Nat) : (Op.equalIn (d + 1) t (.slice a n c) (.slice none n' c')).run P W = .ok a.isNone W := by
  cases a <;> simp [Op.equalIn, run_und ht]
theorem eqIn_bool (ht : P.underlying t = some .bool) (a b : Bool) : (Op.equalIn (d + 1) t (.bool a) (.bool b)).run P W = .ok (a == b) W := by
  simp [Op.equalIn, run_und ht]
theorem eqIn_ifc_nil {ms : Array (String × TypeId)} (ht : P.underlying t = some (.interface ms)) (x : Value) (hx : isIfc x = true) : (Op.equalIn (d + 1) t x .nilIface).run P W = .ok (isNilV x) W := by
  cases x <;> simp [isIfc] at hx <;> simp [Op.equalIn, run_und ht, isNilV]
theorem eqIn_nil_ifc {ms : Array (String × TypeId)} (ht : P.underlying t = some (.interface ms)) (x : Value) (hx : isIfc x = true) : (Op.equalIn (d + 1) t .nilIface x).run P W = .ok (isNilV x) W := by
  cases x <;> simp [isIfc] at hx <;> simp [Op.equalIn, run_und ht, isNilV]
theorem eqIn_ifc_ne {ms : Array (String × TypeId)} (ht : P.underlying t = some (.interface ms)) (u u' : TypeId) (v v' : Value) (hne : u ≠ u') : (Op.equalIn (d + 1) t (.iface u v) (.iface u' v')).run P W = .ok false W := by
  simp [Op.equalIn, run_und ht, hne]
theorem eqIn_ifc_int {ms : Array (String × TypeId)} (ht : P.underlying t = some (.interface ms)) (u : TypeId) (k : IntKind) (n m : Int) {i : TypeInfo} (hu : P.underlying u = some (.int k)) (hi : P.info? u = some i) (hc : i.comparable = true) :
    (Op.equalIn (d + 2) t (.iface u (.int k n)) (.iface u (.int k m))).run P W = .ok (n == m) W := by
  simp [Op.equalIn, run_und ht, run_und hu, run_tinf hi, hc]
theorem eqIn_ifc_str {ms : Array (String × TypeId)} (ht : P.underlying t = some (.interface ms)) (u : TypeId) (n m : ByteArray) {i : TypeInfo} (hu : P.underlying u = some .string) (hi : P.info? u = some i) (hc : i.comparable = true) :
    (Op.equalIn (d + 2) t (.iface u (.string n)) (.iface u (.string m))).run P W = .ok (n == m) W := by
  simp [Op.equalIn, run_und ht, run_und hu, run_tinf hi, hc]
end
theorem errEq_sound {P : Program} {t : TypeId} {ms : Array (String × TypeId)} (ht : P.underlying t = some (.interface ms)) {x y : Value} {b : Bool} (h : errEq P x y b) :
    (∀ W, (Op.equal t x y).run P W = .ok b W) ∧ (binOp .eql t x y = (do pure (.bool (← Op.equal t x y)))) ∧ (binOp .neq t x y = (do pure (.bool (!(← Op.equal t x y))))) ∧
    ∀ op u v W, (eqGuard op t u v x y).run P W = .ok () W := by
  rcases h with ⟨u, k, n, m, i, rfl, rfl, hu, hi, hc, rfl⟩ | ⟨u, v, rfl, rfl, rfl⟩ | ⟨u, v, rfl, rfl, rfl⟩ | ⟨u, v, u', v', rfl, rfl, hne, rfl⟩ | ⟨u, n, m, i, rfl, rfl, hu, hi, hc, rfl⟩
  rotate_left 4
  · refine ⟨fun W => ?_, rfl, rfl, fun op u v W => by unfold eqGuard; cases op <;> rfl⟩
    exact eqIn_ifc_str W 9998 ht u n m hu hi hc
  · refine ⟨fun W => ?_, rfl, rfl, fun op u v W => by unfold eqGuard; cases op <;> rfl⟩
    exact eqIn_ifc_int W 9998 ht u k n m hu hi hc
  · refine ⟨fun W => ?_, rfl, rfl, fun op u v W => by unfold eqGuard; cases op <;> rfl⟩
    exact eqIn_ifc_nil W 9999 ht _ rfl
  · refine ⟨fun W => ?_, rfl, rfl, fun op u v W => by unfold eqGuard; cases op <;> rfl⟩
    exact eqIn_nil_ifc W 9999 ht _ rfl
  · refine ⟨fun W => ?_, rfl, rfl, fun op u v W => by unfold eqGuard; cases op <;> rfl⟩
    exact eqIn_ifc_ne W 9999 ht _ _ _ _ hne
theorem eqGuard_pass {P : Program} {op : BinOp} {t : TypeId} {x y : Operand} {a b : Value} (W : World)
    (h1 : a = .nilIface → b = .nilIface → isNilC x = true ∨ isNilC y = true) (h2 : ∀ cs, a ≠ .agg cs) : (eqGuard op t x y a b).run P W = .ok () W := by
  unfold eqGuard
  cases op <;> first | rfl | skip
  all_goals
    simp only []
    split
    · rfl
    · split
      · rcases h1 rfl rfl with h | h
        · cases x <;> simp_all [isNilC]
        · cases y <;> simp_all [isNilC]
      · exact absurd rfl (h2 _)
      · rfl

theorem cBin_sound {P : Program} {op : BinOp} {t : TypeId} {x y : Operand} {ρ : Operand → Value} {K : Value → Prop} (hρ : ∀ v, ρ (.const v) = v) (h : cBin P op t x y (ρ x) (ρ y) K) :
    ∃ v, Gives P (do eqGuard op t x y (ρ x) (ρ y); binOp op t (ρ x) (ρ y)) v ∧ K v := by
  unfold cBin at h
  split at h
  · rename_i ms ht
    split at h
    · rename_i hy
      have ey : ρ y = .nilIface := by
        cases y <;> simp only [isNilC] at hy <;> first | (cases hy; done) | skip
        rename_i v
        rw [hρ]
        cases v <;> simp_all
      obtain ⟨h1, h2⟩ := h
      rw [ey]
      generalize ρ x = vx at *
      have hg : ∀ W, (eqGuard op t x y vx .nilIface).run P W = .ok () W := fun W => eqGuard_pass W (fun _ _ => .inr hy) (fun cs hc => by subst hc; simp [isIfc] at h1)
      have he : ∀ W, (Op.equal t vx .nilIface).run P W = .ok (isNilV vx) W := fun W => eqIn_ifc_nil W 9999 ht _ h1
      obtain ⟨v, hv, hk⟩ := eqB_sound (P := P) h2 he (by cases vx <;> simp [isIfc] at h1 <;> rfl) (by cases vx <;> simp [isIfc] at h1 <;> rfl)
      exact ⟨v, fun W => by simp [hg, hv W], hk⟩
    · split at h
      · rename_i hx
        have ex : ρ x = .nilIface := by
          cases x <;> simp only [isNilC] at hx <;> first | (cases hx; done) | skip
          rename_i v
          rw [hρ]
          cases v <;> simp_all
        obtain ⟨h1, h2⟩ := h
        rw [ex]
        generalize ρ y = vy at *
        have hg : ∀ W, (eqGuard op t x y .nilIface vy).run P W = .ok () W := fun W => eqGuard_pass W (fun _ _ => .inl hx) (fun cs hc => by cases hc)
        have he : ∀ W, (Op.equal t .nilIface vy).run P W = .ok (isNilV vy) W := fun W => eqIn_nil_ifc W 9999 ht _ h1
        obtain ⟨v, hv, hk⟩ := eqB_sound (P := P) h2 he (by cases vy <;> simp [isIfc] at h1 <;> rfl) (by cases vy <;> simp [isIfc] at h1 <;> rfl)
        exact ⟨v, fun W => by simp [hg, hv W], hk⟩
      · obtain ⟨b, hb, h2⟩ := h
        obtain ⟨e1, e2, e3, e4⟩ := errEq_sound ht hb
        obtain ⟨v, hv, hk⟩ := eqB_sound (P := P) h2 e1 e2 e3
        exact ⟨v, fun W => by simp [e4, hv W], hk⟩
  · rename_i e ht
    split at h <;> first | exact h.elim | skip
    rename_i a hx
    rw [hx]
    split at h <;> first | exact h.elim | skip
    · rename_i hy
      rw [hy]
      have hg : ∀ W, (eqGuard op t x y (.pointer a) (.pointer none)).run P W = .ok () W := fun W => eqGuard_pass W (fun h => by cases h) (fun cs hc => by cases hc)
      have he : ∀ W, (Op.equal t (.pointer a) (.pointer none)).run P W = .ok a.isNone W := fun W => eqIn_ptr_nil W 9999 ht _
      obtain ⟨v, hv, hk⟩ := eqB_sound (P := P) h he rfl rfl
      exact ⟨v, fun W => by simp [hg, hv W], hk⟩
    · rename_i b hy
      rw [hy]
      split at h <;> first | exact h.elim | skip
      have hg : ∀ W, (eqGuard op t x y (.pointer none) (.pointer (some b))).run P W = .ok () W := fun W => eqGuard_pass W (fun h => by cases h) (fun cs hc => by cases hc)
      have he : ∀ W, (Op.equal t (.pointer none) (.pointer (some b))).run P W = .ok false W := fun W => eqIn_nil_ptr W 9999 ht _
      obtain ⟨v, hv, hk⟩ := eqB_sound (P := P) h he rfl rfl
      exact ⟨v, fun W => by simp [hg, hv W], hk⟩
  · rename_i e ht
    split at h <;> first | exact h.elim | skip
    rename_i a n c hx
    rw [hx]
    split at h <;> first | exact h.elim | skip
    rename_i n' c' hy
    rw [hy]
    have hg : ∀ W, (eqGuard op t x y (.slice a n c) (.slice none n' c')).run P W = .ok () W := fun W => eqGuard_pass W (fun h => by cases h) (fun cs hc => by cases hc)
    have he : ∀ W, (Op.equal t (.slice a n c) (.slice none n' c')).run P W = .ok a.isNone W := fun W => eqIn_sl_nil W 9999 ht _ _ _ _ _
    obtain ⟨v, hv, hk⟩ := eqB_sound (P := P) h he rfl rfl
    exact ⟨v, fun W => by simp [hg, hv W], hk⟩
  · rename_i ht
    split at h <;> first | exact h.elim | skip
    rename_i a hx
    rw [hx]
    split at h <;> first | exact h.elim | skip
    rename_i b hy
    rw [hy]
    have hg : ∀ W, (eqGuard op t x y (.bool a) (.bool b)).run P W = .ok () W := fun W => eqGuard_pass W (fun h => by cases h) (fun cs hc => by cases hc)
    have he : ∀ W, (Op.equal t (.bool a) (.bool b)).run P W = .ok (a == b) W := fun W => eqIn_bool W 9999 ht _ _
    obtain ⟨v, hv, hk⟩ := eqB_sound (P := P) h he rfl rfl
    exact ⟨v, fun W => by simp [hg, hv W], hk⟩
  · rename_i k ht
    split at h <;> first | exact h.elim | skip
    rename_i k1 a hx
    rw [hx]
    split at h <;> first | exact h.elim | skip
    rename_i k2 b hy
    rw [hy]
    split at h <;> first | exact h.elim | skip
    rename_i hk
    subst hk
    obtain ⟨v, hv, hk⟩ := intBin_sound (P := P) (t := t) h
    exact ⟨v, fun W => by simp [eqGuard_pass (P := P) (op := op) (t := t) (x := x) (y := y) (a := .int k2 a) (b := .int k2 b) W (fun h => by cases h) (fun cs hc => by cases hc), hv W], hk⟩
  · rename_i ht
    split at h <;> first | exact h.elim | skip
    rename_i a hx
    rw [hx]
    split at h <;> first | exact h.elim | skip
    rename_i b hy
    rw [hy]
    obtain ⟨v, hv, hk⟩ := strBin_sound (P := P) (t := t) h
    exact ⟨v, fun W => by simp [eqGuard_pass (P := P) (op := op) (t := t) (x := x) (y := y) (a := .string a) (b := .string b) W (fun h => by cases h) (fun cs hc => by cases hc), hv W], hk⟩
  · rename_i k ht
    split at h <;> first | exact h.elim | skip
    rename_i k1 a hx
    rw [hx]
    split at h <;> first | exact h.elim | skip
    rename_i k2 b hy
    rw [hy]
    split at h <;> first | exact h.elim | skip
    rename_i hk
    subst hk
    obtain ⟨v, hv, hk⟩ := fltBin_sound (P := P) (t := t) h
    exact ⟨v, fun W => by simp [eqGuard_pass (P := P) (op := op) (t := t) (x := x) (y := y) (a := .float k2 a) (b := .float k2 b) W (fun h => by cases h) (fun cs hc => by cases hc), hv W], hk⟩
  · exact h.elim

theorem cConv_sound {P : Program} {s d : TypeId} {v : Value} {K : Value → Prop} (h : cConv P s d v K) : ∃ u, Gives P (convert s d v) u ∧ K u := by
  unfold cConv at h
  split at h
  · exact h.elim
  · rename_i ds hs
    split at h
    · rename_i k hd
      split at h <;> first | exact h.elim | skip
      exact ⟨_, fun W => by simp [convert, run_und hs, run_und hd, Conv.intToInt], h⟩
    · rename_i hd
      split at h <;> first | exact h.elim | skip
      exact ⟨_, fun W => by simp [convert, run_und hs, run_und hd], h⟩
    · rename_i k hd
      split at h <;> first | exact h.elim | skip
      exact ⟨_, fun W => by cases ds <;> simp [convert, run_und hs, run_und hd, Conv.intToFloat, fInt], h⟩
    · exact h.elim

theorem run_mapM_field {P : Program} (W : World) : ∀ (l : List Field) (pl : List (Nat × Nat)), (l.mapM fun f => (P.info? f.type).map fun i => (f.offset, i.size)) = some pl →
    (l.mapM (m := Sem) fun f => do pure (f.offset, ← sizeOf f.type)).run P W = .ok pl W
  | [], pl, h => by simp at h; subst h; rfl
  | f :: l, pl, h => by
    simp only [List.mapM_cons, Option.bind_eq_bind, Option.pure_def] at h
    cases hi : P.info? f.type with
    | none => simp [hi] at h
    | some i =>
      simp only [hi, Option.map_some, Option.bind_some] at h
      cases hm : (l.mapM fun f => (P.info? f.type).map fun i => (f.offset, i.size)) with
      | none => simp [hm] at h
      | some pl' =>
        simp only [hm, Option.bind_some, Option.some.injEq] at h
        subst h
        simp only [List.mapM_cons, Sem.run_bind, run_szof hi, Result.andThen_ok, Sem.run_pure, run_mapM_field W l pl' hm]

theorem run_sliceBounds_of {P : Program} {W : World} {len cap : Nat} {lo hi : Option Value} {l u : Int} (hl : bndOf lo 0 = some l) (hu : bndOf hi len = some u) (h0 : 0 ≤ l) (h1 : l ≤ u) (h2 : u ≤ cap) :
    (Instr.sliceBounds true len cap lo hi none).run P W = .ok (l.toNat, u.toNat, cap) W := by
  have eu : (u.toNat : Int) = u := Int.toNat_of_nonneg (by omega)
  unfold bndOf at hl hu
  split at hu
  · injection hu with hu; subst hu
    split at hl
    · injection hl with hl; subst hl
      simp [Instr.sliceBounds]
    · injection hl with hl; subst hl
      simp [Instr.sliceBounds, run_sliceBound W _ _ len _ h0 h1]
    · cases hl
  · injection hu with hu; subst hu
    rename_i k n
    have h3 : 0 ≤ n := by omega
    split at hl
    · injection hl with hl; subst hl
      simp [Instr.sliceBounds, run_sliceBound W _ n cap _ h3 h2]
    · injection hl with hl; subst hl
      rename_i k2 m
      simp [Instr.sliceBounds, run_sliceBound W _ n cap _ h3 h2, run_sliceBound W k2 m n.toNat _ h0 (by omega)]
    · cases hl
  · cases hu
theorem cPure_sound {P : Program} {op : Op} {ρ : Operand → Value} {K : Value → Prop} (hρ : ∀ v, ρ (.const v) = v) (hp : isPure P op = true) (h : cPure P op ρ K)
    (dst : Option Tmp) (type : TypeId) (pos : String) (after : Array Edge) (guard : Option (Nat × Bool)) :
    ∃ v, (∀ W, (execOp ρ ⟨dst, op, type, pos, after, guard⟩).run P W = .ok (.value v) W) ∧ K v := by
  have conv : ∀ {s : Sem Value} {v : Value}, Gives P s v → ∀ W, (do pure (.value (← s)) : Sem Next).run P W = .ok (.value v) W := fun {s v} hv W => by simp [hv W]
  cases op <;> simp only [isPure] at hp <;> first | (cases hp; done) | skip
  case move x => exact ⟨_, fun W => rfl, h⟩
  case assign x => exact ⟨_, fun W => rfl, h⟩
  case pick c a b =>
    simp only [cPure] at h
    split at h <;> first | exact h.elim | skip
    rename_i b' hb
    cases b' with
    | true => exact ⟨_, fun W => by simp [execOp, hb, asBool], h⟩
    | false => exact ⟨_, fun W => by simp [execOp, hb, asBool], h⟩
  case nilCheck x =>
    simp only [cPure] at h
    split at h <;> first | exact h.elim | skip
    rename_i a ha
    cases a with
    | none => exact h.elim
    | some p => exact ⟨_, fun W => by simp [execOp, ha], h⟩
  case fieldAddr s x f =>
    simp only [cPure] at h
    split at h <;> first | exact h.elim | skip
    rename_i a ha
    split at h <;> first | exact h.elim | skip
    rename_i fs hs
    split at h <;> first | exact h.elim | skip
    rename_i fd hf
    split at h <;> first | exact h.elim | skip
    rename_i i hi
    split at h <;> first | exact h.elim | skip
    rename_i hz
    exact ⟨_, conv (s := Instr.fieldAt s (ρ x) f) fun W => by simp [Instr.fieldAt, run_und hs, hf, ha, Instr.sureAddr, fieldPlace, run_szof hi, hz], h⟩
  case indexAddr t x ix =>
    simp only [cPure] at h
    split at h <;> first | exact h.elim | skip
    rename_i e ht
    split at h <;> first | exact h.elim | skip
    rename_i i hi
    split at h <;> first | exact h.elim | skip
    rename_i a n c ha
    split at h <;> first | exact h.elim | skip
    rename_i k m hix
    obtain ⟨p, rfl, h0, h1, hk⟩ := h
    exact ⟨_, conv (s := Instr.indexAt t (ρ x) (ρ ix)) fun W => by simp [Instr.indexAt, run_und ht, ha, hix, asIntOf, run_szof hi, h0, h1], hk⟩
  case binOp op t x y yt =>
    obtain ⟨v, hv, hk⟩ := cBin_sound (P := P) hρ h
    exact ⟨v, conv hv, hk⟩
  case unOp op t x =>
    cases op <;> first | (simp at hp; done) | skip
    all_goals
      simp only [cPure] at h
      split at h <;> first | exact h.elim | skip
      all_goals
        rename_i hx
        refine ⟨_, conv (s := Op.unary _ (ρ x)) fun W => ?_, h⟩
        simp [hx, Op.unary, Op.intArith, fNeg]
        try rfl
  case makeInterface t x =>
    simp only [cPure] at h
    split at h <;> first | exact h.elim | skip
    rename_i d hn ht
    refine ⟨_, conv (s := Instr.makeInterface t (ρ x)) fun W => ?_, h⟩
    simp only [Instr.makeInterface, Sem.run_bind, run_und ht, Result.andThen_ok]
    cases d <;> first | rfl | exact absurd rfl (hn _)
  case extract x i =>
    simp only [cPure] at h
    split at h <;> first | exact h.elim | skip
    rename_i vs hx
    split at h <;> first | exact h.elim | skip
    rename_i v hv
    exact ⟨_, conv (s := Instr.extract (ρ x) i) fun W => by simp [Instr.extract, hx, hv], h⟩
  case convert s d x =>
    obtain ⟨v, hv, hk⟩ := cConv_sound h
    exact ⟨v, conv hv, hk⟩
  case call c =>
    obtain ⟨callee, args, argTypes⟩ := c
    simp only [cPure] at h
    split at h <;> first | exact h.elim | skip
    split at h <;> first | exact h.elim | skip
    rename_i t ht
    split at h <;> first | exact h.elim | skip
    rename_i x hx
    obtain rfl : argTypes = #[t] := by rw [← Array.toList_inj]; exact ht
    obtain rfl : args = #[x] := by rw [← Array.toList_inj]; exact hx
    split at h <;> first | exact h.elim | skip
    · rename_i e hu
      split at h <;> first | exact h.elim | skip
      rename_i a n cc ha
      exact ⟨_, fun W => by simp [execOp, resolve, invoke, builtin, Builtin.len_, run_und hu, ha, goInt], h⟩
    · rename_i hu
      split at h <;> first | exact h.elim | skip
      rename_i s ha
      exact ⟨_, fun W => by simp [execOp, resolve, invoke, builtin, Builtin.len_, run_und hu, ha, goInt], h⟩
  case build t ps =>
    simp only [cPure] at h
    split at h <;> first | exact h.elim | skip
    rename_i fs hs
    split at h <;> first | exact h.elim | skip
    rename_i i hi
    split at h <;> first | exact h.elim | skip
    rename_i z hz
    unfold fillK at h
    split at h <;> first | exact h.elim | skip
    rename_i pl hpl
    split at h <;> first | exact h.elim | skip
    rename_i cs hcs
    refine ⟨.agg cs, fun W => ?_, h⟩
    have hm : ((fs.mapM (m := Sem) fun f => do pure (f.offset, ← sizeOf f.type))).run P W = .ok ⟨pl⟩ W := by
      rw [Array.mapM_eq_mapM_toList]
      simp only [Sem.run_map, run_mapM_field W _ _ hpl, Result.andThen_ok]
    simp only [execOp, Array.toList_map, Instr.build, Sem.run_bind, zeroValue, run_tinf hi, Result.andThen_ok, hz, run_und hs, Sem.run_pure, hm]
    simp [hcs]
  case slice t x lo hi mx =>
    cases mx with
    | some m => simp at hp
    | none =>
      simp only [cPure] at h
      split at h <;> first | exact h.elim | skip
      rename_i e ht
      split at h <;> first | exact h.elim | skip
      rename_i i hi'
      split at h <;> first | exact h.elim | skip
      rename_i a len cap ha
      split at h <;> first | exact h.elim | skip
      rename_i l hl
      split at h <;> first | exact h.elim | skip
      rename_i u hu
      obtain ⟨h0, h1, h2, hk⟩ := h
      refine ⟨_, conv (s := Instr.sliceAt t (ρ x) (lo.map ρ) (hi.map ρ) none) fun W => ?_, hk⟩
      have eu : (u.toNat : Int) = u := Int.toNat_of_nonneg (by omega)
      have hb := run_sliceBounds_of (P := P) (W := W) hl hu h0 h1 h2
      have hz := run_szof (w := W) hi'
      simp only [Instr.sliceAt, Sem.run_bind, run_und ht, Result.andThen_ok, ha, Instr.slice, hb, hz, Sem.run_pure]
  case makeFunc fn a b => exact ⟨_, fun W => by simp [execOp, Instr.makeFunc], h⟩
  case field t x f =>
    simp only [cPure] at h
    split at h <;> first | exact h.elim | skip
    rename_i fs hs
    split at h <;> first | exact h.elim | skip
    rename_i fd hf
    split at h <;> first | exact h.elim | skip
    rename_i cs hx
    split at h <;> first | exact h.elim | skip
    rename_i d hd
    have ha : ∀ W, (isAgg fd.type).run P W = .ok (isAggD d) W := fun W => by
      simp only [isAgg, Sem.run_bind, run_und hd, Result.andThen_ok]; cases d <;> rfl
    split at h
    · rename_i hag
      split at h <;> first | exact h.elim | skip
      rename_i i hi
      exact ⟨_, conv (s := Instr.field t (ρ x) f) fun W => by simp [Instr.field, run_und hs, hf, hx, asAgg, part, ha, hag, run_szof hi], h⟩
    · rename_i hag
      split at h <;> first | exact h.elim | skip
      rename_i v hv
      exact ⟨_, conv (s := Instr.field t (ρ x) f) fun W => by simp [Instr.field, run_und hs, hf, hx, asAgg, part, ha, hag, hv], h⟩
end Go.Gp
set_option linter.unusedSimpArgs false
set_option linter.unusedVariables false
namespace Go.Gp
open Go

/-! ### Operations that touch memory -/
def ldG (P : Program) (t : TypeId) (a : Addr) (W : World) (K : Value → Prop) : Prop :=
  match P.underlying t with
  | none => False
  | some d => match isAggD d with
    | true => (match flat P 8 t with
      | some ks => (match P.info? t with
        | some i => if i.size = ks.length then ldN ks a W fun x => K (.agg ⟨HL.enc ks x⟩) else False
        | none => False)
      | none => False)
    | false => (match k1Of d with
      | some k => ld1 k a W fun x => K (k.enc x)
      | none => False)
/-- The cells of a value of type t. -/
def cellsG (P : Program) (t : TypeId) (v : Value) (K : List Value → Prop) : Prop :=
  match P.underlying t with
  | none => False
  | some d => match isAggD d with
    | true => (match v with
      | .agg cs => K cs.toList
      | _ => False)
    | false => oneC v (K [v])
def stG (P : Program) (t : TypeId) (a : Addr) (v : Value) (W : World) (K : World → Prop) : Prop :=
  match P.info? t with
  | none => False
  | some i => cellsG P t v fun cs => if cs.length = i.size then stN a 0 cs W K else False
def fillS (size : Nat) (z : Array Value) (n : Nat) (ps : List (Nat × Value)) (K : Array Value → Prop) : Prop :=
  match Instr.fill (fun i => some (i * size, size)) ((Array.range n).map (z[· % z.size]!)) ps with
  | none => False
  | some cs => K cs
def semOf (o : Oper) (ρ : Operand → Value) : Option (Sem Value) :=
  match o.op with
  | .binOp op t x y _ => some (do eqGuard op t x y (ρ x) (ρ y); binOp op t (ρ x) (ρ y))
  | .unOp op _ x => some (Op.unary op (ρ x))
  | .convert s d x => some (convert s d (ρ x))
  | .slice t x lo hi mx => some (Instr.sliceAt t (ρ x) (lo.map ρ) (hi.map ρ) (mx.map ρ))
  | .index t x i => some (Instr.index t (ρ x) (ρ i))
  | .indexAddr t x ix => some (Instr.indexAt t (ρ x) (ρ ix))
  | .build t ps => some (Instr.build t (ps.map fun (i, x) => (i, ρ x)))
  | .field t x f => some (Instr.field t (ρ x) f)
  | .makeMap t r => some (Instr.makeMap t (r.map ρ))
  | .lookup t x i ok => some (Instr.lookup t (ρ x) (ρ i) ok)
  | .mapEntry t m k => some (Instr.mapEntry t (ρ m) (ρ k))
  | .range t x => some (Instr.range t (ρ x))
  | .next it s => some (Instr.next (ρ it) s o.type)
  | .entry it => some (Instr.entry (ρ it))
  | .typeAssert x t u ok => some (Instr.typeAssert (ρ x) t u ok)
  | .call c => (match c.callee with
    | .builtin .append => some (Builtin.append_ c.argTypes o.type (c.args.map ρ))
    | .builtin .copy => some (Builtin.copy_ c.argTypes o.type (c.args.map ρ))
    | .builtin .cap => some (Builtin.cap_ c.argTypes o.type (c.args.map ρ))
    | .builtin .len => some (Builtin.len_ c.argTypes o.type (c.args.map ρ))
    | .builtin .min => some (Builtin.min_ c.argTypes o.type (c.args.map ρ))
    | .builtin .max => some (Builtin.max_ c.argTypes o.type (c.args.map ρ))
    | .builtin .delete => some (Builtin.delete_ c.argTypes o.type (c.args.map ρ))
    | .builtin .clear => some (Builtin.clear_ c.argTypes o.type (c.args.map ρ))
    | _ => none)
  | _ => none
/-- A call of a function that has no Go body: the model's own row. -/
def extG (P : Program) (g : FuncId) (args : List Value) (ts : List Ty) (W : World) (K : TL ts → World → Prop) : Prop :=
  ∃ x : TL ts, ∃ W', (callFunc g ⟨args⟩).run P W = .ok (.value (RT.enc ts x)) W' ∧ K x W'
/-- What a value of a type is, also for results of several parts. -/
inductive Ty' where
  | val (t : Ty)
  | tup (ts : List Ty)
@[reducible] def Ty'.T : Ty' → Type
  | .val t => t.T
  | .tup ts => TL ts
def Ty'.enc : (t : Ty') → t.T → Value
  | .val t, x => t.enc x
  | .tup ts, x => .tuple ⟨TL.enc ts x⟩
def ty'Of (P : Program) (t : TypeId) : Option Ty' :=
  match P.underlying t with
  | some (.tuple ts) => (match tysOf P ts.toList with | some ts => some (.tup ts) | none => none)
  | _ => match tyOf P t with | some t => some (.val t) | none => none
def runG' (P : Program) (t : Ty') (s : Sem Value) (W : World) (K : t.T → World → Prop) : Prop :=
  ∃ x : t.T, ∃ W', s.run P W = .ok (t.enc x) W' ∧ K x W'
def cEff (P : Program) (o : Oper) (ρ : Operand → Value) (W : World) (K : Value → World → Prop) : Prop :=
  match o.op with
  | .load t a => (match ρ a with
    | .pointer (some p) => ldG P t p W fun v => K v W
    | _ => False)
  | .store t a x => (match ρ a with
    | .pointer (some p) => stG P t p (ρ x) W fun W' => K undef W'
    | _ => False)
  | .alloc t => (match P.info? t with
    | some i => (match i.zero with
      | some z => newG (.cells z.cells t) W fun b W' => K (.pointer (some ⟨b, 0, none⟩)) W'
      | none => False)
    | none => False)
  | .box t x => cellsG P t (ρ x) fun cs => newG (.cells ⟨cs⟩ t) W fun b W' => K (.pointer (some ⟨b, 0, none⟩)) W'
  | .buildSlice t len ps => (match P.underlying t with
    | some (.slice e) => (match P.info? e with
      | some i => (match i.zero with
        | some z => if len * i.size > 2 ^ 24 then False else if len * i.size = 0 then (match ps.toList with | [] => newG (.cells #[] e) W fun b W' => K (.slice (some ⟨b, 0, none⟩) len len) W' | _ :: _ => False) else
            fillS i.size z.cells (len * i.size) (ps.toList.map fun p => (p.1, ρ p.2)) fun cs =>
              newG (.cells cs e) W fun b W' => K (.slice (some ⟨b, 0, none⟩) len len) W'
        | none => False)
      | none => False)
    | _ => False)
  | .makeSlice t l c => (match P.underlying t with
    | some (.slice e) => (match P.info? e with
      | some i => (match i.zero with
        | some z => (match ρ l with
          | .int _ n => (match ρ c with
            | .int _ m => mkG e z.cells i.size i.bytes n m W fun b W' => K (.slice (some ⟨b, 0, none⟩) n.toNat m.toNat) W'
            | _ => False)
          | _ => False)
        | none => False)
      | none => False)
    | _ => False)
  | .mapUpdate t m k x => (∃ W', (Instr.mapUpdate t (ρ m) (ρ k) (ρ x)).run P W = .ok () W' ∧ K undef W')
  | .insert t m k x => (∃ W', (Instr.mapUpdate t (ρ m) (ρ k) (ρ x)).run P W = .ok () W' ∧ K undef W')
  | .entryStore t m s x => (∃ W', (Instr.entryStore t (ρ m) (ρ s) (ρ x)).run P W = .ok () W' ∧ K undef W')
  | .call c => (match c.callee with
    | .value f => (match ρ f with
      | .func (.func g) first cap => (match P.funcs[g]? with
        | some fn => (match fn.body with
          | some _ => if fn.name == "runtime.NumGoroutine" then False else (match tysOf P fn.resultTypes.toList with
            | some ts => callG P g (first.toList ++ (c.args.toList.map ρ ++ cap.toList)) ts W fun x W' => K (RT.enc ts x) W'
            | none => False)
          | none => (match tysOf P fn.resultTypes.toList with
            | some ts => extG P g (first.toList ++ (c.args.toList.map ρ ++ cap.toList)) ts W fun x W' => K (RT.enc ts x) W'
            | none => False))
        | none => False)
      | _ => False)
    | _ => match ty'Of P o.type with
      | some t => (match semOf o ρ with
        | some s => runG' P t s W fun x W' => K (t.enc x) W'
        | none => False)
      | none => False)
  | _ => match ty'Of P o.type with
    | some t => (match semOf o ρ with
      | some s => runG' P t s W fun x W' => K (t.enc x) W'
      | none => False)
    | none => False
def cOp (P : Program) (o : Oper) (ρ : Operand → Value) (W : World) (K : Value → World → Prop) : Prop :=
  match isPure P o.op with
  | true => cPure P o.op ρ fun v => K v W
  | false => cEff P o ρ W K

theorem cellsAt_get {W : World} {a : Addr} : ∀ (vs : List Value) (i : Nat), cellsAt W a i vs → ∀ j v, vs[j]? = some v → W.cell? (a.add (i + j)) = some v
  | [], _, _, _, _, h => by simp at h
  | u :: vs, i, h, j, v, hj => by
    cases j with
    | zero => simp at hj; subst hj; exact h.1
    | succ j => have := cellsAt_get vs (i + 1) h.2 j v (by simpa using hj); rw [show i + (j + 1) = i + 1 + j from by omega]; exact this
theorem run_isAgg {P : Program} {t : TypeId} {d : TypeDesc} (h : P.underlying t = some d) (W : World) : (isAgg t).run P W = .ok (isAggD d) W := by
  simp only [isAgg, Sem.run_bind, run_und h, Result.andThen_ok]; cases d <;> rfl
theorem HL.enc_length : ∀ (ks : List K1) (x : HL ks), (HL.enc ks x).length = ks.length
  | [], _ => rfl
  | _ :: ks, x => by simp [HL.enc, HL.enc_length ks x.2]
theorem ldG_sound {P : Program} {t : TypeId} {a : Addr} {W : World} {K : Value → Prop} (h : ldG P t a W K) :
    ∃ v, (Instr.loadAt t (.pointer (some a))).run P W = .ok v W ∧ K v := by
  unfold ldG at h
  split at h <;> first | exact h.elim | skip
  rename_i d hd
  split at h
  · rename_i hag
    split at h <;> first | exact h.elim | skip
    rename_i ks hks
    split at h <;> first | exact h.elim | skip
    rename_i i hi
    split at h <;> first | exact h.elim | skip
    rename_i hsz
    obtain ⟨x, hx, hk⟩ := h
    refine ⟨_, ?_, hk⟩
    have hl := run_loadCells_list (P := P) (w := W) a (HL.enc ks x) (fun j v hj => by have := cellsAt_get _ 0 hx j v hj; rwa [Nat.zero_add] at this)
    rw [HL.enc_length] at hl
    simp [Instr.loadAt, Instr.sureAddr, loadVar, run_isAgg hd, hag, run_szof hi, hsz, hl]
  · rename_i hag
    split at h <;> first | exact h.elim | skip
    rename_i k hk
    obtain ⟨x, hx, hk⟩ := h
    exact ⟨_, by simp [Instr.loadAt, Instr.sureAddr, loadVar, run_isAgg hd, hag, hx], hk⟩
theorem stN_sound {P : Program} {a : Addr} {K : World → Prop} : ∀ (vs : List Value) (i : Nat) (W : World), stN a i vs W K → ∃ W', (storeCells a vs i).run P W = .ok () W' ∧ K W'
  | [], i, W, h => ⟨W, rfl, h⟩
  | v :: vs, i, W, h => by
    simp only [stN, oneC] at h
    split at h <;> first | exact h.elim | skip
    rename_i hv
    obtain ⟨⟨u, hu⟩, hf, h⟩ := h
    obtain ⟨W', hr, hk⟩ := stN_sound (P := P) vs (i + 1) _ h
    exact ⟨W', by simp [storeCells, run_store P W _ v .plain hv, hu, hf, hr], hk⟩
theorem cellsG_sound {P : Program} {t : TypeId} {v : Value} {K : List Value → Prop} (h : cellsG P t v K) : K v.cells.toList := by
  unfold cellsG at h
  split at h <;> first | exact h.elim | skip
  split at h
  · split at h <;> first | exact h.elim | skip
    exact h
  · unfold oneC at h
    split at h <;> first | exact h.elim | skip
    rename_i hv
    cases v <;> first | exact h | simp [Value.oneCell'] at hv
theorem stG_sound {P : Program} {t : TypeId} {a : Addr} {v : Value} {W : World} {K : World → Prop} (h : stG P t a v W K) :
    ∃ W', (Instr.storeAt t (.pointer (some a)) v).run P W = .ok () W' ∧ K W' := by
  unfold stG at h
  split at h <;> first | exact h.elim | skip
  rename_i i hi
  have h := cellsG_sound h
  split at h <;> first | exact h.elim | skip
  rename_i hsz
  obtain ⟨W', hr, hk⟩ := stN_sound (P := P) _ _ _ h
  have hsz' : v.cells.size = i.size := by simpa using hsz
  exact ⟨W', by simp [Instr.storeAt, Instr.sureAddr, storeVar, run_szof hi, hsz', hr], hk⟩
theorem upon_value {P : Program} {s : Sem Value} {v : Value} {W W' : World} (h : s.run P W = .ok v W') : (do pure (.value (← s)) : Sem Next).run P W = .ok (.value v) W' := by simp [h]
theorem upon_unit {P : Program} {s : Sem Unit} {W W' : World} (h : s.run P W = .ok () W') : (do s; pure .skip : Sem Next).run P W = .ok .skip W' := by simp [h]
theorem semOf_sound {P : Program} {o : Oper} {ρ : Operand → Value} {s : Sem Value} (h : semOf o ρ = some s) (W : World) :
    (execOp ρ o).run P W = (do pure (.value (← s)) : Sem Next).run P W := by
  obtain ⟨dst, op, type, pos, after, guard⟩ := o
  cases op <;> simp only [semOf] at h <;> first | (cases h; done) | (injection h with h; subst h; rfl) | skip
  case call c =>
    obtain ⟨callee, args, argTypes⟩ := c
    cases callee with
    | value f => simp at h
    | invoke r m => simp at h
    | builtin b => cases b <;> simp only [] at h <;> first | (cases h; done) | (injection h with h; subst h; simp [execOp, resolve, invoke, builtin])

theorem cEff_sound {P : Program} {o : Oper} {a : Act} {W : World} {K : Value → World → Prop} {Q : Exit → Act → World → Prop} {next : Act → World → Prop}
    (h : cEff P o a.eval W K) (hk : ∀ v W', K v W' → next (a.put o.dst v) W') : o.wp P a W next Q := by
  have gen : (match ty'Of P o.type with
    | some t => (match semOf o a.eval with
      | some s => runG' P t s W fun x W' => K (t.enc x) W'
      | none => False)
    | none => False) → o.wp P a W next Q := fun h => by
    split at h <;> first | exact h.elim | skip
    split at h <;> first | exact h.elim | skip
    rename_i s hs
    obtain ⟨x, W', hr, hx⟩ := h
    unfold Oper.wp
    rw [semOf_sound hs, upon_value hr]
    exact hk _ _ hx
  obtain ⟨dst, op, type, pos, after, guard⟩ := o
  unfold cEff at h
  simp only at h
  split at h <;> first | exact gen h | skip
  · -- load
    split at h <;> first | exact h.elim | skip
    rename_i p hp
    obtain ⟨v, hr, hx⟩ := ldG_sound h
    rw [← hp] at hr
    unfold Oper.wp execOp
    simp only
    rw [upon_value hr]
    exact hk _ _ hx
  · split at h <;> first | exact h.elim | skip
    rename_i p hp
    obtain ⟨W', hr, hx⟩ := stG_sound h
    rw [← hp] at hr
    unfold Oper.wp execOp
    simp only
    rw [upon_unit hr]
    exact hk _ _ hx
  · rename_i t0
    split at h <;> first | exact h.elim | skip
    rename_i i hi
    split at h <;> first | exact h.elim | skip
    rename_i z hz
    unfold Oper.wp execOp
    simp only
    rw [upon_value (v := .pointer (some ⟨W.heap.size, 0, none⟩)) (W' := W.alloc (.cells z.cells t0)) (by simp [Instr.alloc, zeroValue, run_tinf hi, hz, newVar, newRow])]
    exact hk _ _ h
  · rename_i t0 x0
    have h := cellsG_sound h
    unfold Oper.wp execOp
    simp only
    rw [upon_value (v := .pointer (some ⟨W.heap.size, 0, none⟩)) (W' := W.alloc (.cells (a.eval x0).cells t0)) (by simp [Instr.box, newVar, newRow])]
    exact hk _ _ h
  · split at h <;> first | exact h.elim | skip
    rename_i e ht
    split at h <;> first | exact h.elim | skip
    rename_i i hi
    split at h <;> first | exact h.elim | skip
    rename_i z hz
    split at h <;> first | exact h.elim | skip
    rename_i hbig
    split at h
    · rename_i hz0
      split at h <;> first | exact h.elim | skip
      rename_i hps
      unfold Oper.wp execOp
      simp only
      refine Eq.mpr (congrArg _ (upon_value (v := .slice (some ⟨W.heap.size, 0, none⟩) _ _) (W' := W.alloc (.cells #[] e)) ?_)) (hk _ _ h)
      simp only [Instr.buildSlice, Sem.run_bind, run_und ht, Result.andThen_ok, run_szof hi, hz0, if_true, Sem.run_pure, Array.toList_map, Sem.run_ite, hps, List.map_nil]
      simp [newRow, Instr.fill]
      rw [show (Array.range 0).map (fun _ => (default : Value)) = #[] from by apply Array.ext'; simp]
    rename_i hnz
    unfold fillS at h
    split at h <;> first | exact h.elim | skip
    rename_i cs hcs
    unfold Oper.wp execOp
    simp only
    refine Eq.mpr (congrArg _ (upon_value (v := .slice (some ⟨W.heap.size, 0, none⟩) _ _) (W' := W.alloc (.cells cs e)) ?_)) (hk _ _ h)
    simp only [Instr.buildSlice, Sem.run_bind, run_und ht, Result.andThen_ok, run_szof hi, hbig, if_false, hnz, zeroValue, run_tinf hi, hz, Sem.run_pure, Array.toList_map, Sem.run_ite]
    simp [hcs, newRow]
  · split at h <;> first | exact h.elim | skip
    rename_i e ht
    split at h <;> first | exact h.elim | skip
    rename_i i hi
    split at h <;> first | exact h.elim | skip
    rename_i z hz
    split at h <;> first | exact h.elim | skip
    rename_i k n hn
    split at h <;> first | exact h.elim | skip
    rename_i k' m hm
    obtain ⟨h0, h1, h2, h3, h⟩ := h
    have hr := run_make (P := P) W _ e i z ht hi hz k k' n m h0 h1 h2 h3
    rw [← hn, ← hm] at hr
    unfold Oper.wp execOp
    simp only
    rw [upon_value hr]
    exact hk _ _ h
  · obtain ⟨W', hr, hx⟩ := h
    unfold Oper.wp execOp
    simp only
    rw [upon_unit hr]
    exact hk _ _ hx
  · obtain ⟨W', hr, hx⟩ := h
    unfold Oper.wp execOp
    simp only
    rw [upon_unit hr]
    exact hk _ _ hx
  · obtain ⟨W', hr, hx⟩ := h
    unfold Oper.wp execOp
    simp only
    rw [upon_unit hr]
    exact hk _ _ hx
  · rename_i c
    obtain ⟨callee, args, argTypes⟩ := c
    simp only at h
    split at h
    · rename_i f
      split at h <;> first | exact h.elim | skip
      rename_i g first cap hf
      split at h <;> first | exact h.elim | skip
      rename_i fn hfn
      split at h
      rotate_left
      · split at h <;> first | exact h.elim | skip
        rename_i ts hts
        obtain ⟨x, W', hr, hx⟩ := h
        unfold Oper.wp
        have hr' : (execOp a.eval { dst := dst, op := .call { callee := .value f, args := args, argTypes := argTypes }, type := type, pos := pos, after := after, guard := guard }).run P W =
            (callFunc g ⟨first.toList ++ (args.toList.map a.eval ++ cap.toList)⟩).run P W := by
          simp only [execOp, resolve, hf, Deferred.ofValue, pure_bind, invoke]
          congr 2
          rw [← Array.toList_inj]; simp
        rw [hr', hr]
        exact hk _ _ hx
      rename_i b hb
      split at h <;> first | exact h.elim | skip
      rename_i hnm
      split at h <;> first | exact h.elim | skip
      rename_i ts hts
      unfold Oper.wp
      have hr : (execOp a.eval { dst := dst, op := .call { callee := .value f, args := args, argTypes := argTypes }, type := type, pos := pos, after := after, guard := guard }).run P W =
          .ok (.enter g ⟨first.toList ++ (args.toList.map a.eval ++ cap.toList)⟩) W := by
        have hnm' : ¬ fn.name = "runtime.NumGoroutine" := by simpa using hnm
        simp [execOp, resolve, hf, Deferred.ofValue, invoke, callFunc, hfn, hb, hnm']
      rw [hr]
      refine Calls.mono h fun e W' he => ?_
      obtain ⟨x, rfl, hx⟩ := he
      exact hk _ _ hx
    · exact gen h

theorem cOp_sound {P : Program} {o : Oper} {l : Fr} {W : World} {K : Value → World → Prop} {Q : Exit → Act → World → Prop} {next : Act → World → Prop}
    (h : cOp P o (ev l) W K) (hk : ∀ v W', K v W' → next (actOf (putL l o.dst v)) W') : o.wp P (actOf l) W next Q := by
  unfold cOp at h
  split at h
  · rename_i hp
    obtain ⟨dst, op, type, pos, after, guard⟩ := o
    obtain ⟨v, hv, hx⟩ := cPure_sound (P := P) (ρ := ev l) (fun _ => rfl) hp h dst type pos after guard
    unfold Oper.wp
    rw [ev_act, hv W]
    show next ((actOf l).put dst v) W
    rw [put_act]
    exact hk _ _ hx
  · rw [← ev_act] at h
    exact cEff_sound h fun v W' hv => by rw [put_act]; exact hk _ _ hv
end Go.Gp
set_option linter.unusedSimpArgs false
set_option linter.unusedVariables false
namespace Go.Gp
open Go

/-! ### Lists of operations, in the text's order -/
/-- One operation, its guard asked first. -/
def cGuard (P : Program) (ops : Array Oper) (o : Oper) (l : Fr) (W : World) (K : Fr → World → Prop) : Prop :=
  match o.guard with
  | none => cOp P o (ev l) W fun v W' => K (putL l o.dst v) W'
  | some g => match ops[g.1]? with
    | none => False
    | some oj => match oj.dst with
      | none => False
      | some d => match getL l d with
        | .bool b => ifB b
            (match g.2 with
              | true => cOp P o (ev (setL l d (.bool true))) W fun v W' => K (putL (setL l d (.bool true)) o.dst v) W'
              | false => K (putL (setL l d (.bool true)) o.dst undef) W)
            (match g.2 with
              | true => K (putL (setL l d (.bool false)) o.dst undef) W
              | false => cOp P o (ev (setL l d (.bool false))) W fun v W' => K (putL (setL l d (.bool false)) o.dst v) W')
        | .tuple _ => K (putL l o.dst undef) W
        | _ => False
def cList (P : Program) (ops : Array Oper) (K : Fr → World → Prop) : List Oper → Fr → World → Prop
  | [], l, W => K l W
  | o :: rest, l, W => cGuard P ops o l W fun l' W' => cList P ops K rest l' W'

theorem setL_same {l : Fr} {d : Nat} {v : Value} (h : getL l d = v) : setL l d v = l := by rw [← h, setL_getL]
theorem cGuard_sound {P : Program} {ops : Array Oper} {o : Oper} {l : Fr} {W : World} {K : Fr → World → Prop} {Q : Exit → Act → World → Prop} {next : Act → World → Prop}
    (h : cGuard P ops o l W K) (hk : ∀ l' W', K l' W' → next (actOf l') W') :
    if Region.wanted o (yielded ops (actOf l).tmps) then o.wp P (actOf l) W next Q else next ((actOf l).put o.dst undef) W := by
  unfold cGuard at h
  split at h
  · rename_i hg
    rw [if_pos (by simp [Region.wanted, hg])]
    exact cOp_sound h fun v W' hv => hk _ _ hv
  · rename_i g hg
    split at h <;> first | exact h.elim | skip
    rename_i oj hj
    split at h <;> first | exact h.elim | skip
    rename_i d hd
    have hy := yielded_act ops l g.1 hj hd
    split at h
    · rename_i b hb
      rw [hb] at hy
      have hw : Region.wanted o (yielded ops (actOf l).tmps) = (b == g.2) := by simp [Region.wanted, hg, hy]
      obtain ⟨j, want⟩ := g
      rw [hw]
      cases b <;> cases want <;> simp only [ifB] at h <;> rw [setL_same hb] at h
      · exact cOp_sound h fun v W' hv => hk _ _ hv
      · show next ((actOf l).put o.dst undef) W; rw [put_act]; exact hk _ _ h
      · show next ((actOf l).put o.dst undef) W; rw [put_act]; exact hk _ _ h
      · exact cOp_sound h fun v W' hv => hk _ _ hv
    · rename_i hb
      rw [hb] at hy
      have hw : Region.wanted o (yielded ops (actOf l).tmps) = false := by simp [Region.wanted, hg, hy]
      rw [if_neg (by simp [hw]), put_act]
      exact hk _ _ h
    · exact h.elim
theorem cList_sound {P : Program} {ops : Array Oper} {K : Fr → World → Prop} {Q : Exit → Act → World → Prop} (hk : ∀ l W, K l W → Q .normal (actOf l) W) :
    ∀ (os : List Oper) (l : Fr) (W : World), cList P ops K os l W → wpList P ops Q os (actOf l) W
  | [], l, W, h => wpList_nil (hk l W h)
  | o :: rest, l, W, h => by
    unfold wpList
    have := cGuard_sound (Q := Q) (next := wpList P ops Q rest) h fun l' W' h' => cList_sound hk rest l' W' h'
    split
    · rename_i hw; rw [if_pos hw] at this; exact .inl this
    · rename_i hw; rw [if_neg hw] at this; exact this

/-! ### Regions that draw their order -/
/-- Does the operation read one cell alone? -/
def isLd1 (P : Program) : Op → Bool
  | .load t _ => (match P.underlying t with | some _ => true | none => false)
  | .convert s d _ => (match P.underlying s with
    | some (.slice e) => (match P.underlying e with
      | some (.int .u8) => (match P.underlying d with | some .string => true | _ => false)
      | _ => false)
    | _ => false)
  | _ => false
/-- A string made of bytes in whatever world that meets S. -/
def cvS (P : Program) (S : World → Prop) (s d : TypeId) (v : Value) (K : ByteArray → Prop) : Prop := ∃ x : ByteArray, (∀ W, S W → (convert s d v).run P W = .ok (.string x) W) ∧ K x
/-- A load in whatever world that meets S. -/
def ldS (S : World → Prop) (k : K1) (a : Addr) (K : k.T → Prop) : Prop := ∃ x : k.T, (∀ W, S W → W.cell? a = some (k.enc x)) ∧ K x
/-- A load of several cells in whatever world that meets S. -/
def ldNS (S : World → Prop) (ks : List K1) (a : Addr) (K : HL ks → Prop) : Prop := ∃ x : HL ks, (∀ W, S W → cellsAt W a 0 (HL.enc ks x)) ∧ K x
def cTake (P : Program) (S : World → Prop) (o : Oper) (ρ : Operand → Value) (K : Value → Prop) : Prop :=
  match isPure P o.op with
  | true => cPure P o.op ρ K
  | false => match o.op with
    | .load t a => (match ρ a with
      | .pointer (some p) => (match P.underlying t with
        | some d => (match isAggD d with
          | true => (match flat P 8 t with
            | some ks => (match P.info? t with
              | some i => if i.size = ks.length then ldNS S ks p fun x => K (.agg ⟨HL.enc ks x⟩) else False
              | none => False)
            | none => False)
          | false => (match k1Of d with | some k => ldS S k p fun x => K (k.enc x) | none => False))
        | none => False)
      | _ => False)
    | .convert s d x => cvS P S s d (ρ x) fun b => K (.string b)
    | _ => False
theorem cTake_sound {P : Program} {S : World → Prop} {o : Oper} {ρ : Operand → Value} {K : Value → Prop} (hρ : ∀ v, ρ (.const v) = v) (h : cTake P S o ρ K) :
    ∃ v, (∀ W, S W → (execOp ρ o).run P W = .ok (.value v) W) ∧ (isPure P o.op = true → ∀ W, (execOp ρ o).run P W = .ok (.value v) W) ∧ K v := by
  obtain ⟨dst, op, type, pos, after, guard⟩ := o
  unfold cTake at h
  split at h
  · rename_i hp
    obtain ⟨v, hv, hk⟩ := cPure_sound hρ hp h dst type pos after guard
    exact ⟨v, fun W _ => hv W, fun _ => hv, hk⟩
  · rename_i hnp
    simp only at h
    split at h <;> first | exact h.elim | skip
    · rename_i t a
      split at h <;> first | exact h.elim | skip
      rename_i p hp
      split at h <;> first | exact h.elim | skip
      rename_i d hd
      split at h
      · rename_i hag
        split at h <;> first | exact h.elim | skip
        rename_i ks hks
        split at h <;> first | exact h.elim | skip
        rename_i i hi
        split at h <;> first | exact h.elim | skip
        rename_i hsz
        obtain ⟨x, hx, hk⟩ := h
        refine ⟨_, fun W hS => ?_, fun hpu => absurd hpu (by rw [hnp]; exact Bool.false_ne_true), hk⟩
        show (do pure (.value (← Instr.loadAt t (ρ a))) : Sem Next).run P W = _
        have hl := run_loadCells_list (P := P) (w := W) p (HL.enc ks x) (fun j v hj => by have := cellsAt_get _ 0 (hx W hS) j v hj; rwa [Nat.zero_add] at this)
        rw [HL.enc_length] at hl
        exact upon_value (by simp [hp, Instr.loadAt, Instr.sureAddr, loadVar, run_isAgg hd, hag, run_szof hi, hsz, hl])
      · rename_i hag
        split at h <;> first | exact h.elim | skip
        rename_i k hk
        obtain ⟨x, hx, hk⟩ := h
        refine ⟨_, fun W hS => ?_, fun hpu => absurd hpu (by rw [hnp]; exact Bool.false_ne_true), hk⟩
        show (do pure (.value (← Instr.loadAt t (ρ a))) : Sem Next).run P W = _
        exact upon_value (by simp [hp, Instr.loadAt, Instr.sureAddr, loadVar, run_isAgg hd, hag, hx W hS])
    · rename_i s d x
      obtain ⟨b, hb, hk⟩ := h
      exact ⟨_, fun W hS => upon_value (s := convert s d (ρ x)) (hb W hS), fun hpu => absurd hpu (by rw [hnp]; exact Bool.false_ne_true), hk⟩
/-- The guard, then the operation taken first. -/
def cTakeG (P : Program) (S : World → Prop) (ops : Array Oper) (o : Oper) (l : Fr) (K : Fr → Prop) : Prop :=
  match o.guard with
  | none => cTake P S o (ev l) fun v => K (putL l o.dst v)
  | some g => match ops[g.1]? with
    | none => False
    | some oj => match oj.dst with
      | none => False
      | some d => match getL l d with
        | .bool b => ifB b
            (match g.2 with
              | true => cTake P S o (ev (setL l d (.bool true))) fun v => K (putL (setL l d (.bool true)) o.dst v)
              | false => K (putL (setL l d (.bool true)) o.dst undef))
            (match g.2 with
              | true => K (putL (setL l d (.bool false)) o.dst undef)
              | false => cTake P S o (ev (setL l d (.bool false))) fun v => K (putL (setL l d (.bool false)) o.dst v))
        | .tuple _ => K (putL l o.dst undef)
        | _ => False
theorem cTakeG_sound {P : Program} {S : World → Prop} {ops : Array Oper} {o : Oper} {l : Fr} {K : Fr → Prop} (h : cTakeG P S ops o l K) :
    ∃ v, YieldsIf P ops S o v (actOf l) ∧ (isPure P o.op = true → YieldsIf P ops (fun _ => True) o v (actOf l)) ∧ K (putL l o.dst v) := by
  unfold cTakeG at h
  have tk : ∀ {K' : Value → Prop}, Region.wanted o (yielded ops (actOf l).tmps) = true → cTake P S o (ev l) K' → ∃ v, YieldsIf P ops S o v (actOf l) ∧ (isPure P o.op = true → YieldsIf P ops (fun _ => True) o v (actOf l)) ∧ K' v := fun hw h => by
    obtain ⟨v, hv, hv', hk⟩ := cTake_sound (fun _ => rfl) h
    exact ⟨v, .inl ⟨hw, fun w hS => by rw [ev_act]; exact hv w hS⟩, fun hpu => .inl ⟨hw, fun w _ => by rw [ev_act]; exact hv' hpu w⟩, hk⟩
  split at h
  · rename_i hg
    exact tk (by simp [Region.wanted, hg]) h
  · rename_i g hg
    split at h <;> first | exact h.elim | skip
    rename_i oj hj
    split at h <;> first | exact h.elim | skip
    rename_i d hd
    have hy := yielded_act ops l g.1 hj hd
    split at h
    · rename_i b hb
      rw [hb] at hy
      have hw : Region.wanted o (yielded ops (actOf l).tmps) = (b == g.2) := by simp [Region.wanted, hg, hy]
      obtain ⟨j, want⟩ := g
      cases b <;> cases want <;> simp only [ifB] at h <;> rw [setL_same hb] at h
      · exact tk hw h
      · exact ⟨_, .inr ⟨hw, rfl⟩, fun _ => .inr ⟨hw, rfl⟩, h⟩
      · exact ⟨_, .inr ⟨hw, rfl⟩, fun _ => .inr ⟨hw, rfl⟩, h⟩
      · exact tk hw h
    · rename_i hb
      rw [hb] at hy
      have hw : Region.wanted o (yielded ops (actOf l).tmps) = false := by simp [Region.wanted, hg, hy]
      exact ⟨_, .inr ⟨hw, rfl⟩, fun _ => .inr ⟨hw, rfl⟩, h⟩
    · exact h.elim
/-! A drawn region whose loads are taken first under a condition S. S is asked behind an operation only where a load that was taken could still come later. -/
def pre (ops : Array Oper) (j i : Nat) : Bool := ((Region.before ops).getD j 0).testBit i
def preOk (ops : Array Oper) : Bool :=
  (List.range ops.size).all fun j => match ops[j]? with
    | none => true
    | some o => (List.range ops.size).all fun i => !pre ops j i || o.after.any fun e => Region.binds .any e && decide (e.on < j) && (e.on == i || pre ops e.on i)
def needS (P : Program) (ops : Array Oper) (listed : Array Bool) (j : Nat) : Bool :=
  (List.range ops.size).any fun i => listed.getD i false && (match ops[i]? with | some o => isLd1 P o.op && !isPure P o.op | none => false) && !pre ops j i
def Closed (ops : Array Oper) (listed : Array Bool) : Prop :=
  ∀ j o, ops[j]? = some o → listed.getD j false = true → ∀ e ∈ o.after, Region.binds .any e = true → listed.getD e.on false = true
theorem size_of_get {ops : Array Oper} {i : Nat} {o : Oper} (h : ops[i]? = some o) : i < ops.size := (Array.getElem?_eq_some_iff.1 h).1
theorem pre_listed {ops : Array Oper} (hp : preOk ops = true) {listed : Array Bool} (hc : Closed ops listed) {i : Nat} (hi : i < ops.size) : ∀ (n j : Nat) (o : Oper), j < n → ops[j]? = some o →
    (∀ e ∈ o.after, Region.binds .any e = true → listed.getD e.on false = true) → pre ops j i = true → listed.getD i false = true
  | 0, _, _, h, _, _, _ => absurd h (Nat.not_lt_zero _)
  | n + 1, j, o, hj, ho, hd, hpre => by
    have h1 := List.all_eq_true.1 hp j (by simpa using size_of_get ho)
    rw [ho] at h1
    have h2 := List.all_eq_true.1 h1 i (by simpa using hi)
    rw [hpre] at h2
    simp only [Bool.not_true, Bool.false_or, Array.any_eq_true'] at h2
    obtain ⟨e, he, h3⟩ := h2
    simp only [Bool.and_eq_true, decide_eq_true_eq, Bool.or_eq_true, beq_iff_eq] at h3
    obtain ⟨⟨hb, hlt⟩, h4⟩ := h3
    have hl := hd e he hb
    rcases h4 with h4 | h4
    · rw [← h4]; exact hl
    · have hes : e.on < ops.size := Nat.lt_trans hlt (size_of_get ho)
      have heo : ops[e.on]? = some ops[e.on] := Array.getElem?_eq_getElem hes
      exact pre_listed hp hc hi n e.on _ (by omega) heo (fun e' he' hb' => hc _ _ heo hl e' he' hb') h4
def wpAnyN (P : Program) (ops : Array Oper) (Q : Exit → Act → World → Prop) (S : World → Prop) : Nat → Array Bool → Act → World → Prop
  | 0, listed, a, w => Region.ready .any ops listed = [] ∧ Q .normal a w
  | fuel + 1, listed, a, w =>
    (Region.ready .any ops listed = [] → Q .normal a w) ∧
    ∀ i ∈ Region.ready .any ops listed, wpOp P ops Q i (fun a' w' => (needS P ops listed i = true → S w → S w') ∧ wpAnyN P ops Q S fuel (listed.setIfInBounds i true) a' w') a w
theorem wpAny_of_N {P : Program} {ops : Array Oper} {Q : Exit → Act → World → Prop} {S : World → Prop} : ∀ (fuel : Nat) (listed : Array Bool) (a : Act) (w : World), wpAnyN P ops Q S fuel listed a w → wpAny P .any ops Q fuel listed a w
  | 0, _, _, _, h => h
  | fuel + 1, _, _, _, h => ⟨h.1, fun i hi => wpOp_mono (fun a' w' h' => wpAny_of_N fuel _ a' w' h'.2) (h.2 i hi)⟩
theorem closed_set {ops : Array Oper} {listed : Array Bool} (hc : Closed ops listed) {i : Nat} (hi : i ∈ Region.ready .any ops listed) : Closed ops (listed.setIfInBounds i true) := by
  obtain ⟨h0, o, ho, hall⟩ := mem_ready.1 hi
  intro j oj hj hl e he hb
  by_cases hji : i = j
  · subst hji
    rw [ho] at hj
    injection hj with hj
    subst hj
    exact getD_set_true (hall e he hb)
  · rw [getD_set_ne false hji] at hl
    exact getD_set_true (hc j oj hj hl e he hb)
def isLd (P : Program) (o : Oper) : Bool := isLd1 P o.op && !isPure P o.op
theorem needS_mono {P : Program} {ops : Array Oper} {listed : Array Bool} {i j : Nat} (h : needS P ops listed j = true) : needS P ops (listed.setIfInBounds i true) j = true := by
  unfold needS at *
  obtain ⟨k, hk, h⟩ := List.any_eq_true.1 h
  refine List.any_eq_true.2 ⟨k, hk, ?_⟩
  simp only [Bool.and_eq_true] at h ⊢
  exact ⟨⟨getD_set_true h.1.1, h.1.2⟩, h.2⟩
theorem needS_of {P : Program} {ops : Array Oper} {listed : Array Bool} {i j : Nat} {oi : Oper} (hi : ops[i]? = some oi) (hsz : listed.size = ops.size) (hl : isLd P oi = true) (hp : pre ops j i = false) : needS P ops (listed.setIfInBounds i true) j = true := by
  unfold needS
  refine List.any_eq_true.2 ⟨i, by simpa using size_of_get hi, ?_⟩
  have hlt := size_of_get hi
  have h1 : (listed.setIfInBounds i true).getD i false = true := by simp [Array.getElem?_setIfInBounds, hsz, hlt]
  rw [h1, hi, hp]
  simpa [isLd] using hl
theorem wpAnyN_first {P : Program} {ops : Array Oper} {Q : Exit → Act → World → Prop} {S : World → Prop} (hp : preOk ops = true) {i : Nat} {oi : Oper} {v : Value} (hi : ops[i]? = some oi) (hsel : ∀ (j : Nat) (o : Oper) cs b, ops[j]? = some o → o.op ≠ .select cs b)
    (hQ : ∀ c a w, Q (.panic c) (a.put oi.dst v) w → Q (.panic c) a w) :
    ∀ (fuel : Nat) (listed : Array Bool) (a : Act) (w : World), listed.size = ops.size → Closed ops listed →
      (∀ j oj, ops[j]? = some oj → j ≠ i → listed.getD j true = false → (∀ e ∈ oj.after, Region.binds .any e = true → e.on ≠ i) → oi.apart ops oj = true) →
      i ∈ Region.ready .any ops listed → (S w ∧ YieldsIf P ops S oi v a ∧ isLd P oi = true) ∨ YieldsIf P ops (fun _ => True) oi v a →
      wpAnyN P ops Q S fuel (listed.setIfInBounds i true) (a.put oi.dst v) w → wpAnyN P ops Q S (fuel + 1) listed a w := by
  have one : ∀ {K : Act → World → Prop} {a : Act} {w : World}, (S w ∧ YieldsIf P ops S oi v a ∧ isLd P oi = true) ∨ YieldsIf P ops (fun _ => True) oi v a → K (a.put oi.dst v) w → wpOp P ops Q i K a w := fun {K a w} hy hk => by
    rcases hy with ⟨hS, hy, _⟩ | hy
    · exact hy.wpOp hi hS hk
    · exact hy.wpOp hi trivial hk
  intro fuel
  induction fuel with
  | zero =>
    intro listed a w hsz hc _ hr hy H
    refine ⟨fun h => (by rw [h] at hr; cases hr), fun j hj => ?_⟩
    by_cases hji : j = i
    · subst hji
      exact one hy ⟨fun _ h => h, H⟩
    · have := ready_mono hj hji
      rw [H.1] at this
      cases this
  | succ fuel ih =>
    intro listed a w hsz hc hfree hr hy H
    refine ⟨fun h => (by rw [h] at hr; cases hr), fun j hj => ?_⟩
    by_cases hji : j = i
    · subst hji; exact one hy ⟨fun _ h => h, H⟩
    · have h1 := H.2 j (ready_mono hj hji)
      obtain ⟨hjun, oj, hoj, hall⟩ := mem_ready.1 hj
      have hun := (mem_ready.1 hr).1
      have hun' : listed.getD i false = false := by
        have hlt : i < listed.size := by rw [hsz]; exact size_of_get hi
        simp [Array.getD, hlt] at hun ⊢
        exact hun
      have hnot : ∀ e ∈ oj.after, Region.binds .any e = true → e.on ≠ i := fun e he hb heq => by
        have h1 := hall e he hb
        rw [heq, hun'] at h1
        cases h1
      have hfree' : ∀ k ok, ops[k]? = some ok → k ≠ i → (listed.setIfInBounds j true).getD k true = false →
          (∀ e ∈ ok.after, Region.binds .any e = true → e.on ≠ i) → oi.apart ops ok = true := fun k ok hk hki hun hno => by
        refine hfree k ok hk hki ?_ hno
        by_cases hjk : j = k
        · subst hjk; exact hjun
        · rw [getD_set_ne true hjk] at hun; exact hun
      have hpre : pre ops j i = false := by
        cases hpj : pre ops j i with
        | false => rfl
        | true =>
          have := pre_listed hp hc (size_of_get hi) (j + 1) j oj (Nat.lt_succ_self j) hoj hall hpj
          rw [hun'] at this
          cases this
      have fin : ∀ (a' : Act) (w' : World), ((S w' ∧ YieldsIf P ops S oi v a' ∧ isLd P oi = true) ∨ YieldsIf P ops (fun _ => True) oi v a') →
          wpAnyN P ops Q S fuel ((listed.setIfInBounds i true).setIfInBounds j true) (a'.put oi.dst v) w' → wpAnyN P ops Q S (fuel + 1) (listed.setIfInBounds j true) a' w' := fun a' w' hy' h3 =>
        ih (listed.setIfInBounds j true) a' w' (by simpa using hsz) (closed_set hc hj) hfree' (ready_mono hr (Ne.symm hji)) hy' (by rw [Array.setIfInBounds_comm _ _ hji]; exact h3)
      rcases hy with ⟨hS, hy, hld⟩ | hy
      · have h2 := wpOp_putIf hoj (hfree j oj hoj hji hjun hnot) (fun cs b => hsel i oi cs b hi) (fun cs b => hsel j oj cs b hoj) hQ hy h1
        refine wpOp_mono (fun a' w' h3 => ?_) h2
        obtain ⟨h3, h4, h5⟩ := h3
        have hS' := h4 (needS_of hi hsz hld hpre) hS
        exact ⟨fun _ _ => hS', fin a' w' (.inl ⟨hS', h3, hld⟩) h5⟩
      · have h2 := wpOp_putIf hoj (hfree j oj hoj hji hjun hnot) (fun cs b => hsel i oi cs b hi) (fun cs b => hsel j oj cs b hoj) hQ hy h1
        exact wpOp_mono (fun a' w' h3 => ⟨fun hn hS => h3.2.1 (needS_mono hn) hS, fin a' w' (.inr h3.1) h3.2.2⟩) h2
theorem wpAnyN_done {P : Program} {ops : Array Oper} {Q : Exit → Act → World → Prop} {S : World → Prop} {listed : Array Bool} {a : Act} {w : World} (hr : Region.ready .any ops listed = []) (h : Q .normal a w) : ∀ fuel, wpAnyN P ops Q S fuel listed a w
  | 0 => ⟨hr, h⟩
  | _ + 1 => ⟨fun _ => h, by rw [hr]; simp⟩
def takeable (P : Program) (ops : Array Oper) (listed : Array Bool) (i : Nat) : Bool :=
  match ops[i]? with
  | none => false
  | some o => (isPure P o.op || isLd1 P o.op) && Region.free .any ops listed i
def eachOf (F : Nat → Prop) : List Nat → Prop
  | [] => True
  | [i] => F i
  | i :: is => F i ∧ eachOf F is
theorem eachOf_mem {F : Nat → Prop} : ∀ {is : List Nat}, eachOf F is → ∀ i ∈ is, F i
  | [], _, _, h => by cases h
  | [j], h, i, hi => by simp at hi; subst hi; exact h
  | j :: k :: is, h, i, hi => by
    rcases List.mem_cons.1 hi with rfl | hi
    · exact h.1
    · exact eachOf_mem h.2 i hi
def cDraw (P : Program) (ops : Array Oper) (S : World → Prop) (K : Fr → World → Prop) : Nat → Bool → Array Bool → Fr → World → Prop
  | 0, _, listed, l, W => (match Region.ready .any ops listed with | [] => K l W | _ :: _ => False)
  | n + 1, kn, listed, l, W => (match Region.ready .any ops listed with
    | [] => K l W
    | r :: rs => (match (r :: rs).find? (takeable P ops listed) with
      | some i => (match ops[i]? with
        | some o => (match isPure P o.op || kn with
          | true => cTakeG P S ops o l fun l' => cDraw P ops S K n kn (listed.setIfInBounds i true) l' W
          | false => S W ∧ cTakeG P S ops o l fun l' => cDraw P ops S K n true (listed.setIfInBounds i true) l' W)
        | none => False)
      | none => eachOf (fun i => (match ops[i]? with
        | some o => cGuard P ops o l W fun l' W' => (match needS P ops listed i with
          | true => S W' ∧ cDraw P ops S K n true (listed.setIfInBounds i true) l' W'
          | false => cDraw P ops S K n false (listed.setIfInBounds i true) l' W')
        | none => False)) (r :: rs)))
theorem cDraw_sound {P : Program} {ops : Array Oper} {S : World → Prop} {K : Fr → World → Prop} {Q : Exit → Act → World → Prop} (hp : preOk ops = true) (hs : Region.noSelect ops = true) (hk : ∀ l W, K l W → Q .normal (actOf l) W)
    (hQ : ∀ c a w, ¬ Q (.panic c) a w) : ∀ (n : Nat) (kn : Bool) (listed : Array Bool) (l : Fr) (W : World), listed.size = ops.size → Closed ops listed → (kn = true → S W) → cDraw P ops S K n kn listed l W → wpAnyN P ops Q S n listed (actOf l) W
  | 0, kn, listed, l, W, _, _, _, h => by
    unfold cDraw at h
    split at h <;> first | exact h.elim | skip
    rename_i hr
    exact wpAnyN_done hr (hk _ _ h) 0
  | n + 1, kn, listed, l, W, hsz, hc, hS, h => by
    unfold cDraw at h
    split at h
    · rename_i hr
      exact wpAnyN_done hr (hk _ _ h) _
    · rename_i r rs hr
      split at h
      · rename_i i hi
        split at h <;> first | exact h.elim | skip
        rename_i o ho
        have hmem : i ∈ Region.ready .any ops listed := by rw [hr]; exact List.mem_of_find?_eq_some hi
        have htk : takeable P ops listed i = true := List.find?_some hi
        unfold takeable at htk
        rw [ho] at htk
        rw [Bool.and_eq_true] at htk
        have go : ∀ (kn' : Bool), (kn' = true → S W) → (isPure P o.op = true ∨ kn' = true) → (cTakeG P S ops o l fun l' => cDraw P ops S K n kn' (listed.setIfInBounds i true) l' W) → wpAnyN P ops Q S (n + 1) listed (actOf l) W := fun kn' hS' hor h => by
          obtain ⟨v, hy, hy', h⟩ := cTakeG_sound h
          have ih := cDraw_sound hp hs hk hQ n kn' (listed.setIfInBounds i true) _ W (by simpa using hsz) (closed_set hc hmem) hS' h
          rw [← put_act] at ih
          refine wpAnyN_first hp ho (Region.noSelect_spec hs) (fun c a w hc => (hQ _ _ _ hc).elim) n listed (actOf l) W hsz hc (Region.free_spec ho htk.2) hmem ?_ ih
          cases hpu : isPure P o.op with
          | true => exact .inr (hy' hpu)
          | false =>
            rcases hor with h' | h'
            · rw [hpu] at h'; cases h'
            · refine .inl ⟨hS' h', hy, ?_⟩
              have := htk.1
              rw [hpu, Bool.false_or] at this
              simp [isLd, this, hpu]
        split at h
        · rename_i hb
          rw [Bool.or_eq_true] at hb
          exact go kn hS hb h
        · exact go true (fun _ => h.1) (.inr rfl) h.2
      · refine ⟨fun h0 => (by rw [hr] at h0; cases h0), fun i hi => ?_⟩
        have hi' := hi
        rw [hr] at hi'
        have h := eachOf_mem h i hi'
        unfold wpOp
        split at h <;> first | exact h.elim | skip
        rename_i o ho
        rw [ho]
        have := cGuard_sound (Q := Q) (next := fun a' w' => (needS P ops listed i = true → S W → S w') ∧ wpAnyN P ops Q S n (listed.setIfInBounds i true) a' w') h
          fun l' W' h' => by
            split at h'
            · exact ⟨fun _ _ => h'.1, cDraw_sound hp hs hk hQ n true _ l' W' (by simpa using hsz) (closed_set hc hi) (fun _ => h'.1) h'.2⟩
            · rename_i hn
              exact ⟨fun hn' => absurd hn' (by rw [hn]; exact Bool.false_ne_true), cDraw_sound hp hs hk hQ n false _ l' W' (by simpa using hsz) (closed_set hc hi) (fun h => absurd h Bool.false_ne_true) h'⟩
        simp only
        split
        · rename_i hw; rw [if_pos hw] at this; exact .inl this
        · rename_i hw; rw [if_neg hw] at this; exact this
/-- Does the region only reckon and read? -/
def quietOps (P : Program) (ops : Array Oper) : Bool := ops.toList.all fun o => isPure P o.op || isLd1 P o.op
def drwG (W : World) (K : World → Prop) : Prop := K W.drew
/-- In a region that also writes or calls: a condition on worlds is chosen; loads hold in whatever world that meets it. -/
def holdG (W : World) (F : (World → Prop) → Prop) : Prop := ∃ S : World → Prop, S W ∧ F S
def ldS1 (k : K1) (a : Addr) (W : World) (K : k.T → Prop) : Prop := ld1 k a W K

/-! ### Live variables at the head of a loop, or where ways meet -/
@[reducible] def LV : List (Nat × K1) → Type
  | [] => Unit
  | x :: r => x.2.T × LV r
def decL : (live : List (Nat × K1)) → Fr → Option (LV live)
  | [], _ => some ()
  | x :: r, l => match x.2.dec (getL l x.1) with
    | none => none
    | some y => (match decL r l with | some z => some (y, z) | none => none)
def genL : Nat → Nat → (Nat → Value) → List Value
  | 0, _, _ => []
  | n + 1, i, j => j i :: genL n (i + 1) j
def setLive : (live : List (Nat × K1)) → LV live → Fr → Fr
  | [], _, l => l
  | x :: r, y, l => setLive r y.2 (setL l x.1 (x.2.enc y.1))
theorem genL_getL : ∀ (l : Fr) (p : Fr), genL l.length p.length (getL (p ++ l)) = l
  | [], p => rfl
  | v :: l, p => by
    simp only [List.length_cons, genL]
    have h := genL_getL l (p ++ [v])
    rw [List.length_append, List.length_singleton, List.append_assoc, List.singleton_append] at h
    rw [h, getL_eq]
    simp
theorem setLive_dec : ∀ (live : List (Nat × K1)) (l : Fr) (x : LV live), decL live l = some x → setLive live x l = l
  | [], _, _, _ => rfl
  | y :: r, l, x, h => by
    simp only [decL] at h
    split at h <;> first | (cases h; done) | skip
    rename_i u hu
    split at h <;> first | (cases h; done) | skip
    rename_i z hz
    injection h with h
    subst h
    simp only [setLive]
    rw [K1.enc_dec hu, setL_getL]
    exact setLive_dec r l z hz
def mkFr (n : Nat) (live : List (Nat × K1)) (x : LV live) (j : Nat → Value) : Fr := setLive live x (genL n 0 j)
theorem mkFr_dec {n : Nat} {live : List (Nat × K1)} {l : Fr} {x : LV live} (hn : l.length = n) (h : decL live l = some x) : mkFr n live x (getL l) = l := by
  unfold mkFr
  subst hn
  rw [show genL l.length 0 (getL l) = l from genL_getL l []]
  exact setLive_dec live l x h
def LoopG {V : Type} (x : V) (W : World) (body : V → World → (V → World → Prop) → Prop) : Prop :=
  ∃ (I : V → World → Prop) (m : V → World → Nat), I x W ∧ ∀ x W, I x W → body x W fun x' W' => I x' W' ∧ m x' W' < m x W
/-- What stands behind a place where ways meet, said once. -/
def JoinG {V : Type} (B : V → World → Prop) (A : (V → World → Prop) → Prop) : Prop := A B

inductive Ann where
  | n
  | seq (a b : Ann)
  | join (n : Nat) (live : List (Nat × K1)) (a b : Ann)
  | cond (a b : Ann)
  | blk (a : Ann)
  | loop (n : Nat) (live : List (Nat × K1)) (a : Ann)
def cCode (P : Program) : Ann → Code → (Exit → Fr → World → Prop) → Fr → World → Prop
  | _, .skip, Q, l, W => Q .normal l W
  | _, .label _, Q, l, W => Q .normal l W
  | _, .exit id, Q, l, W => Q (.exit id) l W
  | _, .ret, Q, l, W => Q .ret l W
  | _, .region _ ops false, Q, l, W => cList P ops (Q .normal) ops.toList l W
  | _, .region _ ops true, Q, l, W => drwG W fun W' => (match Region.noSelect ops && preOk ops with
    | true => (match quietOps P ops with
      | true => cDraw P ops (fun w => w = W') (Q .normal) ops.size true (Array.replicate ops.size false) l W'
      | false => holdG W' fun S => cDraw P ops S (Q .normal) ops.size true (Array.replicate ops.size false) l W')
    | false => False)
  | .seq a b, .seq x y, Q, l, W => cCode P a x (fun e l' W' => (match e with
    | .normal => cCode P b y Q l' W'
    | e => Q e l' W')) l W
  | .join n live a b, .seq x y, Q, l, W => JoinG (V := LV live) (fun v W' => ∀ j : Nat → Value, cCode P b y Q (mkFr n live v j) W') fun B =>
      cCode P a x (fun e l' W' => (match e with
        | .normal => (match decL live l' with
          | some v => if l'.length = n then B v W' else False
          | none => False)
        | e => Q e l' W')) l W
  | .cond a b, .cond c x y, Q, l, W => (match ev l c with
    | .bool t => ifB t (cCode P a x Q l W) (cCode P b y Q l W)
    | _ => False)
  | .blk a, .block id x, Q, l, W => cCode P a x (fun e l' W' => (match e with
    | .exit id' => if id' = id then Q .normal l' W' else Q (.exit id') l' W'
    | e => Q e l' W')) l W
  | .loop n live a, .loop x, Q, l, W => (match decL live l with
    | some v => if l.length = n then LoopG v W (fun v W' C => ∀ j : Nat → Value, cCode P a x (fun e l' W'' => (match e with
        | .normal => (match decL live l' with
          | some v' => if l'.length = n then C v' W'' else False
          | none => False)
        | e => Q e l' W'')) (mkFr n live v j) W') else False
    | none => False)
  | _, _, _, _, _ => False
def liftQ (Q : Exit → Fr → World → Prop) (e : Exit) (a : Act) (W : World) : Prop :=
  match e with
  | .panic _ => False
  | .outgrown => False
  | e => ∃ l, a = actOf l ∧ Q e l W
theorem liftQ_mk {Q : Exit → Fr → World → Prop} {e : Exit} {l : Fr} {W : World} (h1 : ∀ c, e ≠ .panic c) (h2 : e ≠ .outgrown) (h : Q e l W) : liftQ Q e (actOf l) W := by
  cases e <;> first | exact absurd rfl (h1 _) | exact absurd rfl h2 | exact ⟨l, rfl, h⟩
theorem liftQ_seq {P : Program} {a : Code} {Q : Exit → Fr → World → Prop} {B : Fr → World → Prop} {e : Exit} {b : Act} {W : World}
    (h : liftQ (fun e l' W' => match e with | .normal => B l' W' | e => Q e l' W') e b W) (hb : ∀ l W, B l W → a.wp P (liftQ Q) (actOf l) W) :
    Exit.then (a.wp P (liftQ Q)) (liftQ Q) e b W := by
  cases e with
  | normal => obtain ⟨l, rfl, h⟩ := h; exact hb _ _ h
  | exit id => exact h
  | goto l => exact h
  | ret => exact h
  | panic c => exact h
  | outgrown => exact h
theorem cCode_sound {P : Program} (hm : P.follows .mixedOrders = true) : ∀ (an : Ann) (c : Code) (Q : Exit → Fr → World → Prop) (l : Fr) (W : World), cCode P an c Q l W → c.wp P (liftQ Q) (actOf l) W := by
  intro an c
  induction c generalizing an with
  | skip => intro Q l W h; cases an <;> exact wp_skip ⟨l, rfl, h⟩
  | label _ => intro Q l W h; cases an <;> exact wp_label ⟨l, rfl, h⟩
  | exit id => intro Q l W h; cases an <;> exact wp_exit ⟨l, rfl, h⟩
  | ret => intro Q l W h; cases an <;> exact wp_ret ⟨l, rfl, h⟩
  | region id ops draw =>
    intro Q l W h
    cases draw with
    | false =>
      have h : cList P ops (Q .normal) ops.toList l W := by cases an <;> exact h
      exact wp_region_list (cList_sound (fun l W hq => ⟨l, rfl, hq⟩) _ _ _ h)
    | true =>
      have h : drwG W fun W' => (match Region.noSelect ops && preOk ops with
        | true => (match quietOps P ops with
          | true => cDraw P ops (fun w => w = W') (Q .normal) ops.size true (Array.replicate ops.size false) l W'
          | false => holdG W' fun S => cDraw P ops S (Q .normal) ops.size true (Array.replicate ops.size false) l W')
        | false => False) := by cases an <;> exact h
      unfold drwG at h
      split at h <;> first | exact h.elim | skip
      rename_i hs
      rw [Bool.and_eq_true] at hs
      have hc : Closed ops (Array.replicate ops.size false) := fun j o hj hl => by
        have hlt := size_of_get hj
        simp [Array.getElem?_replicate, hlt] at hl
      split at h
      · exact wp_region_any hm (wpAny_of_N _ _ _ _ (cDraw_sound (S := fun w => w = W.drew) hs.2 hs.1 (fun l W hq => ⟨l, rfl, hq⟩) (fun _ _ _ hp => hp) _ _ _ _ _ (by simp) hc (fun _ => rfl) h))
      · obtain ⟨S, hS, h⟩ := h
        exact wp_region_any hm (wpAny_of_N _ _ _ _ (cDraw_sound (S := S) hs.2 hs.1 (fun l W hq => ⟨l, rfl, hq⟩) (fun _ _ _ hp => hp) _ _ _ _ _ (by simp) hc (fun _ => hS) h))
  | seq x y ihx ihy =>
    intro Q l W h
    cases an with
    | seq a b =>
      exact wp_seq (wp_mono (ihx a _ l W h) fun e b' W' hq => liftQ_seq hq fun l' W'' h' => ihy b Q l' W'' h')
    | join n live a b =>
      simp only [cCode, JoinG] at h
      refine wp_seq (wp_mono (ihx a _ l W h) fun e b' W' hq => liftQ_seq hq fun l' W'' h' => ?_)
      split at h' <;> first | exact h'.elim | skip
      rename_i v hv
      split at h' <;> first | exact h'.elim | skip
      rename_i hn
      have := ihy b Q _ _ (h' (getL l'))
      rwa [mkFr_dec hn hv] at this
    | n => exact h.elim
    | cond a b => exact h.elim
    | blk a => exact h.elim
    | loop n lv a => exact h.elim
  | cond c x y ihx ihy =>
    intro Q l W h
    cases an with
    | cond a b =>
      simp only [cCode] at h
      split at h <;> first | exact h.elim | skip
      rename_i t ht
      cases t with
      | true => exact wp_cond_true (by rw [ev_act]; exact ht) (ihx a Q l W h)
      | false => exact wp_cond_false (by rw [ev_act]; exact ht) (ihy b Q l W h)
    | n => exact h.elim
    | seq a b => exact h.elim
    | join n lv a b => exact h.elim
    | blk a => exact h.elim
    | loop n lv a => exact h.elim
  | block id x ih =>
    intro Q l W h
    cases an with
    | blk a =>
      refine wp_block (wp_mono (ih a _ l W h) fun e b' W' hq => ?_)
      cases e with
      | normal => exact hq
      | exit id' =>
        obtain ⟨l', rfl, hq⟩ := hq
        simp only [Exit.inBlock]
        replace hq : if id' = id then Q .normal l' W' else Q (.exit id') l' W' := hq
        split at hq
        · rename_i he; rw [if_pos he]; exact ⟨l', rfl, hq⟩
        · rename_i he; rw [if_neg he]; exact ⟨l', rfl, hq⟩
      | goto l => exact hq
      | ret => exact hq
      | panic c => exact hq
      | outgrown => exact hq
    | n => exact h.elim
    | seq a b => exact h.elim
    | join n lv a b => exact h.elim
    | cond a b => exact h.elim
    | loop n lv a => exact h.elim
  | loop x ih =>
    intro Q l W h
    cases an with
    | loop n live a =>
      simp only [cCode] at h
      split at h <;> first | exact h.elim | skip
      rename_i v hv
      split at h <;> first | exact h.elim | skip
      rename_i hn
      obtain ⟨I, m, h0, hstep⟩ := h
      refine wp_loop (fun b W' => ∃ l' v', b = actOf l' ∧ l'.length = n ∧ decL live l' = some v' ∧ I v' W')
        (fun b W' => match decL live b.tmps.toList with | some v' => m v' W' | none => 0) ⟨l, v, rfl, hn, hv, h0⟩ ?_
      rintro b W' ⟨l', v', rfl, hn', hv', hI⟩
      have hb := hstep v' W' hI (getL l')
      rw [mkFr_dec hn' hv'] at hb
      have hb' := ih a _ l' W' hb
      refine wp_mono hb' fun e b' W'' hq => ?_
      cases e with
      | normal =>
        obtain ⟨l'', rfl, hq⟩ := hq
        simp only at hq
        split at hq <;> first | exact hq.elim | skip
        rename_i v'' hv''
        split at hq <;> first | exact hq.elim | skip
        rename_i hn''
        refine ⟨⟨l'', v'', rfl, hn'', hv'', hq.1⟩, ?_⟩
        simp only [actOf, hv'', hv']
        exact hq.2
      | exit id => exact hq
      | goto l => exact hq
      | ret => exact hq
      | panic c => exact hq
      | outgrown => exact hq
    | n => exact h.elim
    | seq a b => exact h.elim
    | join n lv a b => exact h.elim
    | cond a b => exact h.elim
    | blk a => exact h.elim
  | rangeFunc _ _ _ _ _ _ => intro Q l W h; cases an <;> exact h.elim
  | scope _ _ => intro Q l W h; cases an <;> exact h.elim
  | goto _ => intro Q l W h; cases an <;> exact h.elim
  | refuse _ => intro Q l W h; cases an <;> exact h.elim

/-! ### Functions -/
def HL.dec : (ks : List K1) → List Value → Option (HL ks)
  | [], [] => some ()
  | [], _ :: _ => none
  | _ :: _, [] => none
  | k :: ks, v :: vs => match k.dec v with
    | none => none
    | some x => (match HL.dec ks vs with | some y => some (x, y) | none => none)
def Ty.dec : (t : Ty) → Value → Option t.T
  | .one k, v => k.dec v
  | .agg ks, v => match v with
    | .agg cs => HL.dec ks cs.toList
    | _ => none
def TL.dec : (ts : List Ty) → List Value → Option (TL ts)
  | [], [] => some ()
  | [], _ :: _ => none
  | _ :: _, [] => none
  | t :: ts, v :: vs => match t.dec v with
    | none => none
    | some x => (match TL.dec ts vs with | some y => some (x, y) | none => none)
theorem HL.enc_dec : ∀ {ks : List K1} {vs : List Value} {x : HL ks}, HL.dec ks vs = some x → HL.enc ks x = vs
  | [], [], _, _ => rfl
  | [], _ :: _, _, h => by cases h
  | _ :: _, [], _, h => by cases h
  | k :: ks, v :: vs, x, h => by
    simp only [HL.dec] at h
    split at h <;> first | (cases h; done) | skip
    rename_i u hu
    split at h <;> first | (cases h; done) | skip
    rename_i z hz
    injection h with h
    subst h
    simp only [HL.enc]
    rw [K1.enc_dec hu, HL.enc_dec hz]
theorem Ty.enc_dec {t : Ty} {v : Value} {x : t.T} (h : t.dec v = some x) : t.enc x = v := by
  cases t with
  | one k => exact K1.enc_dec h
  | agg ks =>
    cases v with
    | agg cs =>
      have h' : HL.dec ks cs.toList = some x := h
      simp only [Ty.enc, HL.enc_dec h']
    | _ => cases h
theorem TL.enc_dec : ∀ {ts : List Ty} {vs : List Value} {x : TL ts}, TL.dec ts vs = some x → TL.enc ts x = vs
  | [], [], _, _ => rfl
  | [], _ :: _, _, h => by cases h
  | _ :: _, [], _, h => by cases h
  | k :: ks, v :: vs, x, h => by
    simp only [TL.dec] at h
    split at h <;> first | (cases h; done) | skip
    rename_i u hu
    split at h <;> first | (cases h; done) | skip
    rename_i z hz
    injection h with h
    subst h
    simp only [TL.enc]
    rw [Ty.enc_dec hu, TL.enc_dec hz]
def cRes (P : Program) (W : World) (l : Fr) : List ResultVar → (List Value → Prop) → Prop
  | [], K => K []
  | .tmp t :: rs, K => cRes P W l rs fun vs => K (getL l t :: vs)
  | .cell a t :: rs, K => (match getL l a with
    | .pointer (some p) => ldG P t p W fun v => cRes P W l rs fun vs => K (v :: vs)
    | _ => False)
def undefs : Nat → List Value
  | 0 => []
  | n + 1 => undef :: undefs n
def decK {ts : List Ty} (K : TL ts → World → Prop) (vs : List Value) (W : World) : Prop :=
  match TL.dec ts vs with
  | some x => K x W
  | none => False
def cFn (P : Program) (an : Ann) (fn : Func) (args : List Value) (ts : List Ty) (W : World) (K : TL ts → World → Prop) : Prop :=
  match fn.body with
  | none => False
  | some c => cCode P an c (fun e l W' => match e with
    | .normal => cRes P W' l fn.results.toList fun vs => decK K vs W'
    | .ret => cRes P W' l fn.results.toList fun vs => decK K vs W'
    | _ => False) (args ++ undefs (fn.ntmps - args.length)) W

theorem cRes_sound {P : Program} {W : World} {l : Fr} : ∀ (rs : List ResultVar) (K : List Value → Prop), cRes P W l rs K →
    ∃ vs, (rs.mapM (m := Sem) fun | .tmp t => pure ((actOf l).tmps.getD t undef) | .cell a t => do loadVar t (← asAddr ((actOf l).tmps.getD a undef))).run P W = .ok vs W ∧ K vs
  | [], K, h => ⟨[], rfl, h⟩
  | .tmp t :: rs, K, h => by
    obtain ⟨vs, hv, hk⟩ := cRes_sound rs _ h
    have ht : (actOf l).tmps.getD t undef = getL l t := congrFun (ev_act l) (.tmp t)
    exact ⟨_, by simp only [List.mapM_cons, Sem.run_bind, Sem.run_pure, Result.andThen_ok, hv, ht], hk⟩
  | .cell a t :: rs, K, h => by
    simp only [cRes] at h
    split at h <;> first | exact h.elim | skip
    rename_i p hp
    obtain ⟨v, hr, h⟩ := ldG_sound h
    obtain ⟨vs, hv, hk⟩ := cRes_sound rs _ h
    have ht : (actOf l).tmps.getD a undef = .pointer (some p) := (congrFun (ev_act l) (.tmp a)).trans hp
    have hr' : (loadVar t p).run P W = .ok v W := by simpa [Instr.loadAt, Instr.sureAddr] using hr
    exact ⟨_, by simp only [List.mapM_cons, Sem.run_bind, Sem.run_pure, Result.andThen_ok, hv, ht, show (asAddr (.pointer (some p))).run P W = .ok p W from rfl, hr'], hk⟩
theorem undefs_eq (n : Nat) : undefs n = List.replicate n undef := by
  induction n with
  | zero => rfl
  | succ n ih => simp [undefs, ih, List.replicate_succ]
theorem results_run {P : Program} {fn : Func} {l : Fr} {W : World} {vs : List Value}
    (hr : (fn.results.toList.mapM (m := Sem) fun | .tmp t => pure ((actOf l).tmps.getD t undef) | .cell a t => do loadVar t (← asAddr ((actOf l).tmps.getD a undef))).run P W = .ok vs W) :
    (results fn (actOf l).tmps).run P W = .ok (tup vs) W := by
  unfold results
  simp only [Sem.run_bind, Array.mapM_eq_mapM_toList, Sem.run_map]
  refine Eq.trans (congrArg (fun r => (Result.andThen (Result.andThen r _) _)) hr) ?_
  simp only [Result.andThen_ok, Sem.run_pure]
  match vs with
  | [] => rfl
  | [v] => rfl
  | _ :: _ :: _ => rfl
theorem cRes_fin {P : Program} {fn : Func} {l : Fr} {W : World} {ts : List Ty} {K : TL ts → World → Prop} (h : cRes P W l fn.results.toList fun vs => decK K vs W) :
    ∃ v, (results fn (actOf l).tmps).run P W = .ok v W ∧ ∃ x : TL ts, Ending.returned v = .returned (RT.enc ts x) ∧ K x W := by
  obtain ⟨vs, hr, hk⟩ := cRes_sound _ _ h
  unfold decK at hk
  split at hk <;> first | exact hk.elim | skip
  rename_i x hx
  refine ⟨tup vs, results_run hr, x, ?_, hk⟩
  unfold RT.enc
  rw [TL.enc_dec hx]
theorem cFn_sound {P : Program} (hm : P.follows .mixedOrders = true) {an : Ann} {f : FuncId} {fn : Func} {args : List Value} {ts : List Ty} {W : World} {K : TL ts → World → Prop}
    (hf : P.funcs[f]? = some fn) (h : cFn P an fn args ts W K) : callG P f args ts W K := by
  unfold cFn at h
  split at h <;> first | exact h.elim | skip
  rename_i c hc
  refine calls_of_wp hf hc ?_
  have hw := cCode_sound hm an c _ _ W h
  have ha : ({ tmps := (⟨args⟩ : Array Value) ++ Array.replicate (fn.ntmps - (⟨args⟩ : Array Value).size) undef, defers := [] } : Act) = actOf (args ++ undefs (fn.ntmps - args.length)) := by
    unfold actOf
    congr 1
    rw [← Array.toList_inj]
    simp [undefs_eq]
  rw [ha]
  refine wp_mono hw fun e b W' hq => ?_
  cases e with
  | normal =>
    obtain ⟨l, rfl, hq⟩ := hq
    obtain ⟨v, hr, hk⟩ := cRes_fin hq
    exact ⟨rfl, v, hr, hk⟩
  | ret =>
    obtain ⟨l, rfl, hq⟩ := hq
    obtain ⟨v, hr, hk⟩ := cRes_fin hq
    exact ⟨rfl, v, hr, hk⟩
  | exit id => obtain ⟨l, rfl, hq⟩ := hq; exact hq.elim
  | goto g => obtain ⟨l, rfl, hq⟩ := hq; exact hq.elim
  | panic c => exact hq.elim
  | outgrown => exact hq.elim
end Go.Gp
set_option linter.unusedSimpArgs false
set_option linter.unusedVariables false
namespace Go.Gp
open Go Go.RowKit

/-- Block b holds cells cs of type t, none of them frozen. -/
def Blk (W : World) (b : Nat) (cs : List Value) (t : TypeId) : Prop := W.heap[b]? = some (.cells ⟨cs⟩ t (0, 0))

/-- All that is kept but for blocks of S, and new ones. -/
structure Keeps (S : List Nat) (W W' : World) : Prop where
  os : W'.os = W.os
  tape : W'.tape = W.tape
  output : W'.output = W.output
  size : W.heap.size ≤ W'.heap.size
  block : ∀ b, b < W.heap.size → b ∉ S → W'.heap[b]? = W.heap[b]?

theorem Keeps.refl (S : List Nat) (W : World) : Keeps S W W := ⟨rfl, rfl, rfl, Nat.le_refl _, fun _ _ _ => rfl⟩
theorem Keeps.trans {S : List Nat} {W W' W'' : World} (h : Keeps S W W') (k : Keeps S W' W'') : Keeps S W W'' :=
  ⟨k.os.trans h.os, k.tape.trans h.tape, k.output.trans h.output, Nat.le_trans h.size k.size,
   fun b hb hs => (k.block b (Nat.lt_of_lt_of_le hb h.size) hs).trans (h.block b hb hs)⟩
/-- The second step may also touch what was new behind the first. -/
theorem Keeps.trans' {S T : List Nat} {W W' W'' : World} (h : Keeps S W W') (k : Keeps T W' W'') (ht : ∀ b ∈ T, b ∈ S ∨ W.heap.size ≤ b) : Keeps S W W'' :=
  ⟨k.os.trans h.os, k.tape.trans h.tape, k.output.trans h.output, Nat.le_trans h.size k.size,
   fun b hb hs => (k.block b (Nat.lt_of_lt_of_le hb h.size) (fun hm => by
     rcases ht b hm with h1 | h1
     · exact hs h1
     · omega)).trans (h.block b hb hs)⟩
theorem Keeps.mono {S T : List Nat} {W W' : World} (h : Keeps S W W') (hst : ∀ b ∈ S, b ∈ T) : Keeps T W W' :=
  ⟨h.os, h.tape, h.output, h.size, fun b hb ht => h.block b hb (fun hs => ht (hst b hs))⟩
theorem Keeps.below {S : List Nat} {W W' : World} (h : Keeps S W W') {n : Nat} (hn : n ≤ W.heap.size) (hs : ∀ b ∈ S, n ≤ b) : Below n W W' :=
  ⟨h.os, h.tape, h.output, h.size, fun b hb => h.block b (Nat.lt_of_lt_of_le hb hn) (fun hm => Nat.not_le.2 hb (hs b hm))⟩
theorem Blk.lt {W : World} {b : Nat} {cs : List Value} {t : TypeId} (h : Blk W b cs t) : b < W.heap.size := by
  unfold Blk at h
  rcases Nat.lt_or_ge b W.heap.size with h' | h'
  · exact h'
  · rw [Array.getElem?_eq_none h'] at h; cases h
theorem Blk.keep {S : List Nat} {W W' : World} {b : Nat} {cs : List Value} {t : TypeId} (h : Blk W b cs t) (hk : Keeps S W W') (hb : b ∉ S) : Blk W' b cs t := by
  have := hk.block b h.lt hb
  unfold Blk at *
  rw [this, h]
theorem Blk.cell {W : World} {b : Nat} {cs : List Value} {t : TypeId} (h : Blk W b cs t) (i : Nat) : W.cell? (Addr.mk b i none) = cs[i]? := by
  unfold Blk at h
  simp [World.cell?, h]
theorem Blk.frz {W : World} {b : Nat} {cs : List Value} {t : TypeId} (h : Blk W b cs t) (i : Nat) (s : Option Nat) : W.frozen? (Addr.mk b i s) = false := by
  unfold Blk at h
  simp [World.frozen?, h]
theorem Blk.set {W : World} {b : Nat} {cs : List Value} {t : TypeId} (h : Blk W b cs t) (i : Nat) (v : Value) : Blk (W.setCell (Addr.mk b i none) v) b (cs.set i v) t := by
  unfold Blk at *
  simp [World.setCell, Array.getElem?_modify, h]
theorem setCell_keeps {W : World} {b i : Nat} {v : Value} {S : List Nat} (hb : b ∈ S) (s : Option Nat) : Keeps S W (W.setCell (Addr.mk b i s) v) :=
  ⟨rfl, rfl, rfl, by simp [World.setCell], fun b' _ hs => by
    simp only [World.setCell, Array.getElem?_modify]
    rw [if_neg (fun e => hs (by rw [← e]; exact hb))]⟩
theorem alloc_keeps (W : World) (o : Obj) (S : List Nat) : Keeps S W (W.alloc o) :=
  ⟨rfl, rfl, rfl, by show W.heap.size ≤ (W.heap.push o).size; simp, fun b hb _ => by show (W.heap.push o)[b]? = _; rw [Array.getElem?_push_lt hb, Array.getElem?_eq_getElem hb]⟩
theorem alloc_blk (W : World) (cs : Array Value) (t : TypeId) : Blk (W.alloc (.cells cs t)) W.heap.size cs.toList t := by
  show (W.heap.push _)[W.heap.size]? = _
  simp
theorem drew_keeps (W : World) (S : List Nat) : Keeps S W W.drew := ⟨rfl, rfl, rfl, Nat.le_refl _, fun _ _ _ => rfl⟩
theorem Blk.drew {W : World} {b : Nat} {cs : List Value} {t : TypeId} (h : Blk W b cs t) : Blk W.drew b cs t := h
theorem addr_add (b o n : Nat) : (Addr.mk b o none).add n = Addr.mk b (o + n) none := by
  unfold Addr.add
  split
  · rename_i h; subst h; rfl
  · rfl

/-! ### The formula's words, as rules for rewriting -/
section
variable {W : World}
theorem ifB_true {A B : Prop} : ifB true A B = A := rfl
theorem ifB_false {A B : Prop} : ifB false A B = B := rfl
theorem ifB_dec {c : Prop} [Decidable c] {A B : Prop} : ifB (decide c) A B ↔ (c → A) ∧ (¬ c → B) := by
  by_cases h : c <;> simp [ifB, h]
theorem ifB_iff {b : Bool} {A B : Prop} : ifB b A B ↔ (b = true → A) ∧ (b = false → B) := by cases b <;> simp [ifB]
theorem nilck_some {a : Addr} {K : Addr → Prop} : nilck (some a) K = K a := rfl
theorem idx_some {a : Addr} {len : Nat} {n : Int} {K : Addr → Prop} (h0 : 0 ≤ n) (h1 : n < len) (hk : K a) : idx (some a) len n K := ⟨a, rfl, h0, h1, hk⟩
theorem ld_int {k : IntKind} {a : Addr} {n : Int} {K : Int → Prop} (h : W.cell? a = some (.int k n)) (hk : K n) : ld1 (.int k) a W K := ⟨n, h, hk⟩
theorem ld_bool {a : Addr} {n : Bool} {K : Bool → Prop} (h : W.cell? a = some (.bool n)) (hk : K n) : ld1 .bool a W K := ⟨n, h, hk⟩
theorem ld_str {a : Addr} {n : ByteArray} {K : ByteArray → Prop} (h : W.cell? a = some (.string n)) (hk : K n) : ld1 .str a W K := ⟨n, h, hk⟩
theorem ld_ptr {a : Addr} {n : Option Addr} {K : Option Addr → Prop} (h : W.cell? a = some (.pointer n)) (hk : K n) : ld1 .ptr a W K := ⟨n, h, hk⟩
theorem ld_sl {a : Addr} {s : Option Addr} {n c : Nat} {K : Sl → Prop} (h : W.cell? a = some (.slice s n c)) (hk : K ⟨s, n, c⟩) : ld1 .sl a W K := ⟨⟨s, n, c⟩, h, hk⟩
theorem ld_any {a : Addr} {n : Value} {K : Value → Prop} (h : W.cell? a = some n) (hk : K n) : ld1 .any a W K := ⟨n, h, hk⟩
theorem st_blk {b i : Nat} {v : Value} {cs : List Value} {t : TypeId} {K : World → Prop} (h : Blk W b cs t) (hi : i < cs.length) (hk : K (W.setCell (Addr.mk b i none) v)) : st1 (Addr.mk b i none) v W K :=
  ⟨⟨cs[i], by rw [h.cell]; simp [hi]⟩, h.frz i none, hk⟩
/-- A store, its world under a name. -/
theorem st_blk' {b i : Nat} {v : Value} {cs : List Value} {t : TypeId} {K : World → Prop} (h : Blk W b cs t) (hi : i < cs.length)
    (hk : ∀ W', Keeps [b] W W' → Blk W' b (cs.set i v) t → K W') : st1 (Addr.mk b i none) v W K :=
  st_blk h hi (hk _ (setCell_keeps (by simp) _) (h.set i v))
theorem new_blk {cs : Array Value} {t : TypeId} {K : Nat → World → Prop} (hk : ∀ b W', b = W.heap.size → Keeps [] W W' → Blk W' b cs.toList t → K b W') : newG (.cells cs t) W K :=
  hk _ _ rfl (alloc_keeps _ _ _) (alloc_blk _ _ _)
theorem mk_blk {e : TypeId} {z : Array Value} {size bytes : Nat} {n c : Int} {K : Nat → World → Prop} (h0 : 0 ≤ n) (h1 : n ≤ c) (h2 : (bytes : Int) * c ≤ 281474976710656) (h3 : c ≤ 9223372036854775807)
    (hk : ∀ b W', b = W.heap.size → Keeps [] W W' → Blk W' b (madeCells z (c.toNat * size)).toList e → K b W') : mkG e z size bytes n c W K :=
  ⟨h0, h1, h2, h3, hk _ _ rfl (alloc_keeps _ _ _) (alloc_blk _ _ _)⟩
theorem madeCells_one (v : Value) (n : Nat) : (madeCells #[v] n).toList = List.replicate n v := by
  unfold madeCells
  apply List.ext_getElem?
  intro i
  simp only [Array.toList_map, Array.toList_range, List.getElem?_map, List.getElem?_replicate]
  by_cases h : i < n
  · simp [h, Nat.mod_one]
  · simp [h]
theorem drw_intro {K : World → Prop} (hk : ∀ W', Keeps [] W W' → (∀ b cs t, Blk W b cs t → Blk W' b cs t) → K W') : drwG W K := hk _ (drew_keeps _ _) fun _ _ _ h => h.drew
theorem ldS_eq {k : K1} {a : Addr} {K : k.T → Prop} : ldS (fun w => w = W) k a K ↔ ld1 k a W K :=
  ⟨fun ⟨x, h, hk⟩ => ⟨x, h W rfl, hk⟩, fun ⟨x, h, hk⟩ => ⟨x, fun w hw => by rw [hw]; exact h, hk⟩⟩
theorem ldNS_eq {ks : List K1} {a : Addr} {K : HL ks → Prop} : ldNS (fun w => w = W) ks a K ↔ ldN ks a W K :=
  ⟨fun ⟨x, h, hk⟩ => ⟨x, h W rfl, hk⟩, fun ⟨x, h, hk⟩ => ⟨x, fun w hw => by rw [hw]; exact h, hk⟩⟩
theorem ldS_int {S : World → Prop} {k : IntKind} {a : Addr} {n : Int} {K : Int → Prop} (h : ∀ W, S W → W.cell? a = some (.int k n)) (hk : K n) : ldS S (.int k) a K := ⟨n, h, hk⟩
theorem ldS_ptr {S : World → Prop} {a : Addr} {n : Option Addr} {K : Option Addr → Prop} (h : ∀ W, S W → W.cell? a = some (.pointer n)) (hk : K n) : ldS S .ptr a K := ⟨n, h, hk⟩
theorem ldS_bool {S : World → Prop} {a : Addr} {n : Bool} {K : Bool → Prop} (h : ∀ W, S W → W.cell? a = some (.bool n)) (hk : K n) : ldS S .bool a K := ⟨n, h, hk⟩
theorem ldS_sl {S : World → Prop} {a : Addr} {s : Option Addr} {n c : Nat} {K : Sl → Prop} (h : ∀ W, S W → W.cell? a = some (.slice s n c)) (hk : K ⟨s, n, c⟩) : ldS S .sl a K := ⟨⟨s, n, c⟩, h, hk⟩
theorem callG_mono {P : Program} {f : FuncId} {args : List Value} {ts : List Ty} {K K' : TL ts → World → Prop} (h : callG P f args ts W K) (hk : ∀ x W', K x W' → K' x W') : callG P f args ts W K' :=
  Calls.mono h fun _ _ ⟨x, he, hx⟩ => ⟨x, he, hk x _ hx⟩
theorem isIfc_iface {t : TypeId} {v : Value} : isIfc (.iface t v) = true := rfl
theorem isIfc_nil : isIfc .nilIface = true := rfl
theorem isNilV_iface {t : TypeId} {v : Value} : isNilV (.iface t v) = false := rfl
theorem isNilV_nil : isNilV .nilIface = true := rfl
end
end Go.Gp
namespace Go.Gp
open Go Go.RowKit
theorem JoinG.rule {V : Type} {B : V → World → Prop} {A : (V → World → Prop) → Prop} (R : V → World → Prop) (hb : ∀ v W, R v W → B v W) (ha : ∀ B', (∀ v W, R v W → B' v W) → A B') : JoinG B A := ha B hb
theorem LoopG.rule {V : Type} {x : V} {W : World} {body : V → World → (V → World → Prop) → Prop} (I : V → World → Prop) (m : V → World → Nat) (h0 : I x W)
    (hs : ∀ x W, I x W → ∀ C, (∀ x' W', I x' W' → m x' W' < m x W → C x' W') → body x W C) : LoopG x W body :=
  ⟨I, m, h0, fun x W hI => hs x W hI _ fun _ _ h1 h2 => ⟨h1, h2⟩⟩
theorem w64 {x : Int} (h1 : -9223372036854775808 ≤ x) (h2 : x ≤ 9223372036854775807) : IntKind.i64.wrap x = x := by
  rw [IntKind.wrap_i64]; omega
/-- Old memory reads as it did. -/
theorem Keeps.cell {S : List Nat} {W W' : World} (h : Keeps S W W') {a : Addr} {v : Value} (hc : W.cell? a = some v) (hs : a.block ∉ S) : W'.cell? a = some v := by
  have hb : a.block < W.heap.size := by
    unfold World.cell? at hc
    rcases Nat.lt_or_ge a.block W.heap.size with h' | h'
    · exact h'
    · rw [Array.getElem?_eq_none h'] at hc; cases hc
  unfold World.cell? at *
  rw [h.block _ hb hs]
  exact hc
theorem Keeps.cells {S : List Nat} {W W' : World} (h : Keeps S W W') {a : Addr} (hs : a.block ∉ S) : ∀ (vs : List Value) (i : Nat), cellsAt W a i vs → cellsAt W' a i vs
  | [], _, _ => trivial
  | v :: vs, i, hc => ⟨h.cell hc.1 (by unfold Addr.add; split <;> exact hs), Keeps.cells h hs vs (i + 1) hc.2⟩
theorem Keeps.nil {S : List Nat} {W W' : World} (h : Keeps [] W W') : Keeps S W W' := h.mono (by simp)
theorem Keeps.push {S : List Nat} {W W' W'' : World} (h : Keeps [] W W') (k : Keeps S W' W'') (ht : ∀ b ∈ S, W.heap.size ≤ b) : Keeps [] W W'' :=
  h.trans' k fun b hb => .inr (ht b hb)
theorem ldN_intro {ks : List K1} {a : Addr} {W : World} {K : HL ks → Prop} (x : HL ks) (h : cellsAt W a 0 (HL.enc ks x)) (hk : K x) : ldN ks a W K := ⟨x, h, hk⟩
theorem forall_prod {α β : Type} {p : α × β → Prop} (h : ∀ a b, p (a, b)) : ∀ x, p x := fun ⟨a, b⟩ => h a b
theorem ifB_i {b : Bool} {A B : Prop} (h1 : b = true → A) (h2 : b = false → B) : ifB b A B :=
  match b, h1, h2 with | true, h1, _ => h1 rfl | false, _, h2 => h2 rfl
theorem ifB_t {b : Bool} {A B : Prop} (h : b = true) (h1 : A) : ifB b A B := by subst h; exact h1
theorem ifB_f {b : Bool} {A B : Prop} (h : b = false) (h1 : B) : ifB b A B := by subst h; exact h1
theorem ifD {c : Prop} [Decidable c] {A B : Prop} (h1 : c → A) (h2 : ¬ c → B) : ifB (decide c) A B := ifB_dec.2 ⟨h1, h2⟩
theorem ifE {a b : Int} {A B : Prop} (h1 : a = b → A) (h2 : a ≠ b → B) : ifB (a == b) A B := ifB_i (fun h => h1 (by simpa using h)) fun h => h2 (by simpa using h)
theorem ifN {a b : Int} {A B : Prop} (h1 : a ≠ b → A) (h2 : a = b → B) : ifB (a != b) A B := ifB_i (fun h => h1 (by simpa using h)) fun h => h2 (by simpa using h)
theorem ifNot {b : Bool} {A B : Prop} (h1 : b = false → A) (h2 : b = true → B) : ifB (!b) A B :=
  match b, h1, h2 with | true, _, h2 => h2 rfl | false, h1, _ => h1 rfl
end Go.Gp
set_option linter.unusedSimpArgs false
set_option linter.unusedVariables false
namespace Go.Gp
open Go Go.RowKit Go.Deep Go.ChangeShapes Go.WideShapes

/-- Cells cs read as a value of type t, to the bottom. -/
def RdT (P : Program) (W : World) : Nat → TypeId → List Value → Prop
  | 0, _, _ => False
  | n + 1, t, cs => match P.underlying t with
    | some (.int k) => ∃ x, cs = [.int k x] ∧ (Lit.int k x).wf = true
    | some .bool => ∃ b, cs = [.bool b]
    | some .string => ∃ s : ByteArray, cs = [.string s] ∧ s.size ≤ maxLen
    | some (.slice e) => cs = [.slice none 0 0] ∨ ∃ a len cap, cs = [.slice (some a) len cap] ∧ len ≤ cap ∧ cap ≤ maxLen ∧
        ∀ i, i < len → ∃ cs', cellsAt W (a.add (i * P.cellsOf e)) 0 cs' ∧ RdT P W n e cs'
    | some (.struct fs) => cs.length = P.cellsOf t ∧ ∀ (i : Nat) (f : Field), fs[i]? = some f → RdT P W n f.type ((cs.drop f.offset).take (P.cellsOf f.type))
    | _ => True

theorem cellsAt_of {W : World} {a : Addr} : ∀ (cs : List Value) (i : Nat), (∀ j v, cs[j]? = some v → W.cell? (a.add (i + j)) = some v) → cellsAt W a i cs
  | [], _, _ => trivial
  | v :: vs, i, h => ⟨by have := h 0 v rfl; rwa [Nat.add_zero] at this, cellsAt_of vs (i + 1) fun j u hu => by have := h (j + 1) u (by simpa using hu); rwa [show i + (j + 1) = i + 1 + j from by omega] at this⟩

theorem rdT_of {H : Type} {enc : TypeId × Value → H} {P : Program} {W : World} {base : Nat} {spare : Nat → Bool} {held : Bool} : ∀ (fuel : Nat) (t : TypeId) (cs : List Value) (x : DataW H × List MemPlace),
    DataW.trod enc P W base spare held fuel t cs = some x → RdT P W fuel t cs
  | 0, t, cs, x, h => by simp [DataW.trod] at h
  | n + 1, t, cs, x, h => by
    unfold RdT
    split
    · rename_i k ht
      obtain ⟨y, h1, _, h2⟩ := DataW.trod_int ht h
      exact ⟨y, h1, h2⟩
    · rename_i ht
      obtain ⟨y, h1, _⟩ := DataW.trod_bool ht h
      exact ⟨y, h1⟩
    · rename_i ht
      obtain ⟨y, h1, _, h2⟩ := DataW.trod_string ht h
      exact ⟨y, h1, h2⟩
    · rename_i e ht
      rcases DataW.trod_slice ht h with ⟨h1, _⟩ | ⟨a, len, cap, elems, rest, n', hn', h1, _, _, hl, hm, hlen, hel, _, _⟩
      · exact .inl h1
      · obtain rfl : n' = n := by omega
        refine .inr ⟨a, len, cap, h1, hl, hm, fun i hi => ?_⟩
        have he := hel i hi
        rw [List.getElem?_eq_getElem (by omega)] at he
        obtain ⟨cs', hc, ht'⟩ := Option.bind_eq_some_iff.1 he
        obtain ⟨_, hcl, hat⟩ := World.cells?_some hc
        refine ⟨cs', cellsAt_of cs' 0 fun j v hj => ?_, rdT_of n' _ _ _ ht'⟩
        have hjl : j < cs'.length := (List.getElem?_eq_some_iff.1 hj).1
        rw [Nat.zero_add]
        exact (hat j (by omega)).trans hj
    · rename_i fs ht
      obtain ⟨xs, n', hn', _, hl, hxs, hf⟩ := DataW.trod_struct ht h
      obtain rfl : n' = n := by omega
      refine ⟨hl, fun i f hi => ?_⟩
      have h1 := hf i f hi
      have h2 : i < xs.length := by rw [hxs]; exact (Array.getElem?_eq_some_iff.1 hi).1
      rw [List.getElem?_eq_getElem h2] at h1
      exact rdT_of n' _ _ _ h1
    · trivial
section
variable {P : Program} {W : World} {n : Nat} {t : TypeId}
theorem rd_int {k : IntKind} {v : Value} (ht : P.underlying t = some (.int k)) (h : RdT P W n t [v]) : ∃ x, v = .int k x ∧ (Lit.int k x).wf = true := by
  cases n with
  | zero => exact h.elim
  | succ n =>
    unfold RdT at h
    simp only [ht] at h
    obtain ⟨x, h1, h2⟩ := h
    simp only [List.cons.injEq, and_true] at h1
    exact ⟨x, h1, h2⟩
theorem rd_bool {v : Value} (ht : P.underlying t = some .bool) (h : RdT P W n t [v]) : ∃ x, v = .bool x := by
  cases n with
  | zero => exact h.elim
  | succ n =>
    unfold RdT at h
    simp only [ht] at h
    obtain ⟨x, h1⟩ := h
    simp only [List.cons.injEq, and_true] at h1
    exact ⟨x, h1⟩
theorem rd_str {v : Value} (ht : P.underlying t = some .string) (h : RdT P W n t [v]) : ∃ x : ByteArray, v = .string x ∧ x.size ≤ maxLen := by
  cases n with
  | zero => exact h.elim
  | succ n =>
    unfold RdT at h
    simp only [ht] at h
    obtain ⟨x, h1, h2⟩ := h
    simp only [List.cons.injEq, and_true] at h1
    exact ⟨x, h1, h2⟩
/-- A slice: nil, or a row of readings. -/
theorem rd_slice {e : TypeId} {v : Value} (ht : P.underlying t = some (.slice e)) (h : RdT P W n t [v]) :
    ∃ a len cap m, v = .slice a len cap ∧ len ≤ cap ∧ cap ≤ maxLen ∧ (a = none → len = 0 ∧ cap = 0) ∧
      ∀ i, i < len → ∃ p cs, a = some p ∧ cellsAt W (p.add (i * P.cellsOf e)) 0 cs ∧ RdT P W m e cs := by
  cases n with
  | zero => exact h.elim
  | succ n =>
    unfold RdT at h
    simp only [ht, List.cons.injEq, and_true] at h
    rcases h with rfl | ⟨a, len, cap, rfl, hl, hm, hx⟩
    · exact ⟨none, 0, 0, 0, rfl, Nat.le_refl _, Nat.zero_le _, fun _ => ⟨rfl, rfl⟩, fun i hi => absurd hi (Nat.not_lt_zero i)⟩
    · exact ⟨some a, len, cap, n, rfl, hl, hm, (fun h => by cases h), fun i hi => let ⟨cs, h1, h2⟩ := hx i hi; ⟨a, cs, rfl, h1, h2⟩⟩
theorem rd_struct {fs : Array Field} {cs : List Value} (ht : P.underlying t = some (.struct fs)) (h : RdT P W n t cs) :
    ∃ m, cs.length = P.cellsOf t ∧ ∀ (i : Nat) (f : Field), fs[i]? = some f → RdT P W m f.type ((cs.drop f.offset).take (P.cellsOf f.type)) := by
  cases n with
  | zero => exact h.elim
  | succ n =>
    unfold RdT at h
    simp only [ht] at h
    exact ⟨n, h⟩
end
theorem cell_lt {W : World} {a : Addr} {v : Value} (h : W.cell? a = some v) : a.block < W.heap.size := by
  unfold World.cell? at h
  rcases Nat.lt_or_ge a.block W.heap.size with h' | h'
  · exact h'
  · rw [Array.getElem?_eq_none h'] at h; cases h
theorem add_block (a : Addr) (n : Nat) : (a.add n).block = a.block := by unfold Addr.add; split <;> rfl
theorem maxLen_eq : maxLen = 9223372036854775807 := rfl
theorem len1 {α : Type} {l : List α} (h : l.length = 1) : ∃ a, l = [a] := by match l, h with | [a], _ => exact ⟨a, rfl⟩
theorem len2 {α : Type} {l : List α} (h : l.length = 2) : ∃ a b, l = [a, b] := by match l, h with | [a, b], _ => exact ⟨a, b, rfl⟩
theorem len3 {α : Type} {l : List α} (h : l.length = 3) : ∃ a b c, l = [a, b, c] := by match l, h with | [a, b, c], _ => exact ⟨a, b, c, rfl⟩
theorem len4 {α : Type} {l : List α} (h : l.length = 4) : ∃ a b c d, l = [a, b, c, d] := by match l, h with | [a, b, c, d], _ => exact ⟨a, b, c, d, rfl⟩
theorem len5 {α : Type} {l : List α} (h : l.length = 5) : ∃ a b c d e, l = [a, b, c, d, e] := by match l, h with | [a, b, c, d, e], _ => exact ⟨a, b, c, d, e, rfl⟩
theorem len7 {α : Type} {l : List α} (h : l.length = 7) : ∃ a b c d e f g, l = [a, b, c, d, e, f, g] := by match l, h with | [a, b, c, d, e, f, g], _ => exact ⟨a, b, c, d, e, f, g, rfl⟩
end Go.Gp
set_option linter.unusedSimpArgs false
set_option linter.unusedVariables false
namespace Go.Gp
open Go

section
variable {α : Type} (f : α → List Value) {k : Nat}
theorem flat_len (hk : ∀ x, (f x).length = k) : ∀ l : List α, (l.flatMap f).length = l.length * k
  | [] => by simp
  | x :: l => by rw [List.flatMap_cons, List.length_append, flat_len hk l, hk, List.length_cons, Nat.succ_mul, Nat.add_comm]
theorem flat_get (hk : ∀ x, (f x).length = k) : ∀ (l : List α) (i j : Nat), j < k → (l.flatMap f)[i * k + j]? = l[i]?.bind fun x => (f x)[j]?
  | [], i, j, _ => by simp
  | x :: l, 0, j, hj => by
    rw [List.flatMap_cons, Nat.zero_mul, Nat.zero_add, List.getElem?_append_left (by rw [hk]; exact hj)]
    simp
  | x :: l, i + 1, j, hj => by
    rw [List.flatMap_cons, List.getElem?_append_right (by rw [hk, Nat.succ_mul]; omega), hk, show (i + 1) * k + j - k = i * k + j from by rw [Nat.succ_mul]; omega, flat_get hk l i j hj]
    simp
theorem flat_set (hk : ∀ x, (f x).length = k) : ∀ (l : List α) (i j : Nat) (x y : α) (v : Value), j < k → l[i]? = some x → (f x).set j v = f y → (l.flatMap f).set (i * k + j) v = (l.set i y).flatMap f
  | [], i, j, _, _, _, _, h, _ => by simp at h
  | z :: l, 0, j, x, y, v, hj, h, he => by
    simp only [List.getElem?_cons_zero, Option.some.injEq] at h
    subst h
    rw [List.flatMap_cons, Nat.zero_mul, Nat.zero_add, List.set_append_left _ _ (by rw [hk]; exact hj), he, List.set_cons_zero, List.flatMap_cons]
  | z :: l, i + 1, j, x, y, v, hj, h, he => by
    rw [List.flatMap_cons, List.set_append_right _ _ (by rw [hk, Nat.succ_mul]; omega), hk, show (i + 1) * k + j - k = i * k + j from by rw [Nat.succ_mul]; omega,
      flat_set hk l i j x y v hj (by simpa using h) he, List.set_cons_succ, List.flatMap_cons]
end
theorem madeCells_two (u v : Value) (n : Nat) : (madeCells #[u, v] (n * 2)).toList = (List.replicate n ()).flatMap fun _ => [u, v] := by
  unfold madeCells
  apply List.ext_getElem?
  intro i
  simp only [Array.toList_map, Array.toList_range, List.getElem?_map]
  obtain ⟨q, r, hr, rfl⟩ : ∃ q r, r < 2 ∧ i = q * 2 + r := ⟨i / 2, i % 2, Nat.mod_lt _ (by decide), by omega⟩
  rw [flat_get (k := 2) (fun _ : Unit => [u, v]) (fun _ => rfl) _ _ _ hr]
  by_cases h : q < n
  · rw [List.getElem?_range (by omega), List.getElem?_replicate, if_pos h]
    simp only [Option.map_some, Option.bind_some]
    have hm : (q * 2 + r) % (#[u, v] : Array Value).size = r := by simp; omega
    rw [hm]
    rcases (by omega : r = 0 ∨ r = 1) with rfl | rfl <;> rfl
  · rw [List.getElem?_eq_none (by simp; omega), List.getElem?_replicate, if_neg h]
    simp
def intKindOf (P : Program) (t : TypeId) : Option IntKind := match P.underlying t with | some (.int k) => some k | _ => none
def intOf : Value → Int
  | .int _ x => x
  | _ => 0
/-- Is t a struct of whole numbers of these kinds, a cell each? -/
def intFields (P : Program) (t : TypeId) (ks : List IntKind) : Bool :=
  P.cellsOf t == ks.length && match P.underlying t with
  | some (.struct fs) => (List.range ks.length).all fun i => match fs[i]?, ks[i]? with
    | some f, some k => f.offset == i && P.cellsOf f.type == 1 && intKindOf P f.type == some k
    | _, _ => false
  | _ => false
theorem rd_intFields {P : Program} {W : World} {n : Nat} {t : TypeId} {ks : List IntKind} {cs : List Value} (hk : intFields P t ks = true) (h : RdT P W n t cs) :
    ∃ xs : List Int, xs.length = ks.length ∧ cs = List.zipWith Value.int ks xs ∧ ∀ (i : Nat) k x, ks[i]? = some k → xs[i]? = some x → (Lit.int k x).wf = true := by
  unfold intFields at hk
  rw [Bool.and_eq_true, beq_iff_eq] at hk
  obtain ⟨hc, hk⟩ := hk
  split at hk
  · rename_i fs hu
    obtain ⟨m, hl, hf⟩ := rd_struct hu h
    rw [hc] at hl
    have each : ∀ i, i < ks.length → ∃ x k, ks[i]? = some k ∧ cs[i]? = some (.int k x) ∧ (Lit.int k x).wf = true := fun i hi => by
      have hi' := List.all_eq_true.1 hk i (by simpa using hi)
      split at hi' <;> first | (cases hi'; done) | skip
      rename_i f k hfi hki
      simp only [Bool.and_eq_true, beq_iff_eq] at hi'
      obtain ⟨⟨h1, h2⟩, h3⟩ := hi'
      have hr := hf i f hfi
      rw [h1, h2] at hr
      obtain ⟨v, hv⟩ : ∃ v, cs[i]? = some v := ⟨_, List.getElem?_eq_getElem (by omega)⟩
      have hd : (cs.drop i).take 1 = [v] := by
        have hlt : i < cs.length := by omega
        rw [List.drop_eq_getElem_cons hlt]
        rw [List.getElem?_eq_getElem hlt] at hv
        injection hv with hv
        simp [hv]
      rw [hd] at hr
      unfold intKindOf at h3
      split at h3 <;> first | (cases h3; done) | skip
      rename_i k' hk'
      injection h3 with h3
      subst h3
      obtain ⟨x, rfl, hw⟩ := rd_int hk' hr
      exact ⟨x, k', hki, hv, hw⟩
    refine ⟨(List.range ks.length).map fun i => intOf (cs[i]?.getD undef), by simp, ?_, ?_⟩
    · apply List.ext_getElem?
      intro i
      by_cases hi : i < ks.length
      · obtain ⟨x, k, h1, h2, _⟩ := each i hi
        rw [List.getElem?_zipWith, h1, List.getElem?_map, List.getElem?_range hi]
        simp [h2, intOf]
      · rw [List.getElem?_eq_none (by omega), List.getElem?_eq_none (by simp; omega)]
    · intro i k x h1 h2
      have hi : i < ks.length := (List.getElem?_eq_some_iff.1 h1).1
      obtain ⟨y, k', h3, h4, h5⟩ := each i hi
      rw [h1] at h3
      injection h3 with h3
      subst h3
      rw [List.getElem?_map, List.getElem?_range hi] at h2
      simp [h4, intOf] at h2
      subst h2
      exact h5
  · cases hk
/-- A slice's elements, each a struct of whole numbers. -/
theorem rd_intRows {P : Program} {W : World} {n : Nat} {t e : TypeId} {ks : List IntKind} {s : Sl} (ht : P.underlying t = some (.slice e)) (hk : intFields P e ks = true) (hs : P.cellsOf e = ks.length) (hne : ks ≠ [])
    (h : RdT P W n t [.slice s.a s.len s.cap]) : s.len ≤ 9223372036854775807 ∧ ∀ i, i < s.len → ∃ p xs, s.a = some p ∧ p.block < W.heap.size ∧ xs.length = ks.length ∧ cellsAt W (p.add (i * ks.length)) 0 (List.zipWith Value.int ks xs) ∧
      ∀ (i : Nat) k x, ks[i]? = some k → xs[i]? = some x → (Lit.int k x).wf = true := by
  obtain ⟨a, len, cap, m, hv, hl, hm, _, hx⟩ := rd_slice ht h
  obtain ⟨rfl, rfl, rfl⟩ : s.a = a ∧ s.len = len ∧ s.cap = cap := by injection hv with h1 h2 h3; exact ⟨h1, h2, h3⟩
  rw [maxLen_eq] at hm
  refine ⟨by omega, fun i hi => ?_⟩
  obtain ⟨p, cs, hp, hc, hr⟩ := hx i hi
  rw [hs] at hc
  obtain ⟨xs, h1, rfl, h2⟩ := rd_intFields hk hr
  refine ⟨p, xs, hp, ?_, h1, hc, h2⟩
  cases ks with
  | nil => exact absurd rfl hne
  | cons k ks =>
    cases xs with
    | nil => simp at h1
    | cons x xs =>
      have := cell_lt hc.1
      rwa [add_block, add_block] at this
/-- A slice's elements, each a whole number. -/
theorem rd_ints {P : Program} {W : World} {n : Nat} {t e : TypeId} {k : IntKind} {s : Sl} (ht : P.underlying t = some (.slice e)) (he : P.underlying e = some (.int k)) (hs : P.cellsOf e = 1)
    (h : RdT P W n t [.slice s.a s.len s.cap]) : s.len ≤ 9223372036854775807 ∧ s.len ≤ s.cap ∧ ∀ i, i < s.len → ∃ p x, s.a = some p ∧ p.block < W.heap.size ∧ W.cell? (p.add i) = some (.int k x) ∧ (Lit.int k x).wf = true := by
  obtain ⟨a, len, cap, m, hv, hl, hm, _, hx⟩ := rd_slice ht h
  obtain ⟨rfl, rfl, rfl⟩ : s.a = a ∧ s.len = len ∧ s.cap = cap := by injection hv with h1 h2 h3; exact ⟨h1, h2, h3⟩
  rw [maxLen_eq] at hm
  refine ⟨by omega, hl, fun i hi => ?_⟩
  obtain ⟨p, cs, hp, hc, hr⟩ := hx i hi
  rw [hs, Nat.mul_one] at hc
  cases m with
  | zero => exact hr.elim
  | succ m =>
    unfold RdT at hr
    simp only [he] at hr
    obtain ⟨x, rfl, hw⟩ := hr
    have h0 := hc.1
    rw [show (p.add i).add 0 = p.add i from by simp [Addr.add]] at h0
    exact ⟨p, x, hp, by have := cell_lt h0; rwa [add_block] at this, h0, hw⟩
end Go.Gp
set_option linter.unusedSimpArgs false
set_option linter.unusedVariables false
namespace Go.Gp
open Go

/-- Slice s reads as the bytes l. -/
structure Bs (W : World) (s : Sl) (l : List UInt8) : Prop where
  len : s.len = l.length
  big : l.length ≤ 9223372036854775807
  at_ : ∀ i b, l[i]? = some b → ∃ p, s.a = some p ∧ W.cell? (p.add i) = some (.int .u8 b.toNat)
theorem Bs.keep {W W' : World} {s : Sl} {l : List UInt8} (h : Bs W s l) {S : List Nat} (hk : Keeps S W W') (hs : ∀ p, s.a = some p → p.block < W.heap.size → p.block ∉ S) : Bs W' s l :=
  ⟨h.len, h.big, fun i b hb => let ⟨p, hp, hc⟩ := h.at_ i b hb
    ⟨p, hp, hk.cell hc (by have := cell_lt hc; rw [add_block] at this ⊢; exact hs p hp this)⟩⟩
theorem Bs.keep0 {W W' : World} {s : Sl} {l : List UInt8} (h : Bs W s l) (hk : Keeps [] W W') : Bs W' s l := h.keep hk (by simp)
def bys (l : List UInt8) : ByteArray := ⟨l.toArray⟩
theorem bys_toList (l : List UInt8) : (bys l).data.toList = l := rfl
theorem Bs.cells {W : World} {p : Addr} {n c : Nat} {l : List UInt8} (h : Bs W ⟨some p, n, c⟩ l) : ∀ i b, l[i]? = some b → W.cell? (p.add i) = some (.int .u8 b.toNat) := fun i b hb => by
  obtain ⟨q, hq, hc⟩ := h.at_ i b hb
  injection hq with hq
  subst hq
  exact hc
theorem Bs.nil {W : World} {n c : Nat} {l : List UInt8} (h : Bs W ⟨none, n, c⟩ l) : l = [] := by
  cases l with
  | nil => rfl
  | cons b l => obtain ⟨p, hp, _⟩ := h.at_ 0 b rfl; cases hp
theorem foldl_push (l : List UInt8) : ∀ (acc : ByteArray), (l.map fun b => ((b.toNat : Nat) : Int)).foldl (fun r n => r.push (UInt8.ofNat n.toNat)) acc = ⟨acc.data ++ l.toArray⟩ := by
  induction l with
  | nil => intro acc; simp
  | cons b l ih =>
    intro acc
    simp only [List.map_cons, List.foldl_cons, ih]
    simp [ByteArray.push]
theorem conv_str {P : Program} {W : World} {s d e : TypeId} (hs : P.underlying s = some (.slice e)) (he : P.underlying e = some (.int .u8)) (hd : P.underlying d = some .string) {x : Sl} {l : List UInt8} (h : Bs W x l)
    {K : ByteArray → World → Prop} (hk : K (bys l) W) : runG' P (.val (.one .str)) (convert s d (.slice x.a x.len x.cap)) W K := by
  refine ⟨bys l, W, ?_, hk⟩
  obtain ⟨a, n, c⟩ := x
  rw [run_convert_bytes_string W s d e a n c hs he hd]
  cases a with
  | none => rw [h.nil]; rfl
  | some p =>
    have hl : n = l.length := h.len
    have hc := run_loadCells_list (P := P) (w := W) p (l.map fun b => Value.int .u8 b.toNat) (fun j v hj => by
      rw [List.getElem?_map] at hj
      obtain ⟨b, hb, rfl⟩ := Option.map_eq_some_iff.1 hj
      exact h.cells j b hb)
    rw [List.length_map, ← hl] at hc
    rw [run_bytesToString W p n c (l.map fun b => ((b.toNat : Nat) : Int)) (by rw [hc]; simp [Function.comp_def]), foldl_push]
    simp [bys, Ty'.enc, Ty.enc, K1.enc]
/-! ### Which bytes stand ahead -/
def lessL : List UInt8 → List UInt8 → Bool
  | _, [] => false
  | [], _ :: _ => true
  | a :: x, b :: y => if a = b then lessL x y else decide (a < b)
theorem lessL_diff : ∀ (i : Nat) (x y : List UInt8) (a b : UInt8), (∀ j, j < i → x[j]? = y[j]?) → x[i]? = some a → y[i]? = some b → a ≠ b → lessL x y = decide (a < b)
  | 0, x, y, a, b, _, hx, hy, hne => by
    cases x with
    | nil => simp at hx
    | cons u x => cases y with
      | nil => simp at hy
      | cons v y =>
        simp only [List.getElem?_cons_zero, Option.some.injEq] at hx hy
        subst hx; subst hy
        simp [lessL, hne]
  | i + 1, x, y, a, b, h, hx, hy, hne => by
    cases x with
    | nil => simp at hx
    | cons u x => cases y with
      | nil => simp at hy
      | cons v y =>
        have h0 := h 0 (by omega)
        simp only [List.getElem?_cons_zero, Option.some.injEq] at h0
        subst h0
        simp only [lessL, if_true]
        exact lessL_diff i x y a b (fun j hj => by have := h (j + 1) (by omega); simpa using this) (by simpa using hx) (by simpa using hy) hne
theorem lessL_len : ∀ (x y : List UInt8), (∀ j, j < x.length → j < y.length → x[j]? = y[j]?) → lessL x y = decide (x.length < y.length)
  | x, [], _ => by simp [lessL]
  | [], v :: y, _ => by simp [lessL]
  | u :: x, v :: y, h => by
    have h0 := h 0 (by simp) (by simp)
    simp only [List.getElem?_cons_zero, Option.some.injEq] at h0
    subst h0
    simp only [lessL, if_true]
    rw [lessL_len x y fun j h1 h2 => by have := h (j + 1) (by simpa using h1) (by simpa using h2); simpa using this]
    simp
theorem u8_lt {a b : UInt8} : decide ((a.toNat : Int) < (b.toNat : Int)) = decide (a < b) := by
  rw [decide_eq_decide, UInt8.lt_iff_toNat_lt]; omega
theorem u8_ne {a b : UInt8} : ((a.toNat : Int) ≠ (b.toNat : Int)) ↔ a ≠ b := by
  constructor
  · intro h e; subst e; exact h rfl
  · intro h e; exact h (UInt8.toNat_inj.1 (by omega))
def cmpL (x y : List UInt8) : Int := if lessL x y then -1 else if lessL y x then 1 else 0
theorem getE (l : List UInt8) (i : Nat) : (bys l)[i]! = l[i]?.getD default := by
  by_cases h : i < l.length
  · have hs : i < (bys l).size := by simpa [bys, ByteArray.size] using h
    rw [getElem!_pos (bys l) i hs, List.getElem?_eq_getElem h]
    rfl
  · have hs : ¬ i < (bys l).size := by simpa [bys, ByteArray.size] using h
    rw [getElem!_neg (bys l) i hs, List.getElem?_eq_none (by omega)]
    rfl
theorem lessL_asym {i : Nat} {x y : List UInt8} {a b : UInt8} (h : ∀ j, j < i → x[j]? = y[j]?) (hx : x[i]? = some a) (hy : y[i]? = some b) (hne : a ≠ b) : lessL y x = decide (b < a) :=
  lessL_diff i y x b a (fun j hj => (h j hj).symm) hy hx (Ne.symm hne)
theorem cmp_eq (x y : List UInt8) : Extern.BytealgCompare.cmp (bys x) (bys y) = cmpL x y := by
  unfold Extern.BytealgCompare.cmp cmpL
  have hsx : (bys x).size = x.length := by simp [bys, ByteArray.size]
  have hsy : (bys y).size = y.length := by simp [bys, ByteArray.size]
  rw [hsx, hsy]
  split
  · rename_i i hi
    have hp := List.find?_some hi
    have hm := List.mem_of_find?_eq_some hi
    rw [List.mem_range] at hm
    have hlt : ∀ j, j < i → x[j]? = y[j]? := fun j hj => by
      have := List.find?_range_eq_some.1 hi
      have h2 := this.2.2 j hj
      simp only [getE, bne_iff_ne, Bool.not_eq_true', bne_eq_false_iff_eq] at h2
      have hx : j < x.length := by omega
      have hy : j < y.length := by omega
      rw [List.getElem?_eq_getElem hx, List.getElem?_eq_getElem hy] at h2 ⊢
      simpa using h2
    have hx : i < x.length := by omega
    have hy : i < y.length := by omega
    simp only [getE, List.getElem?_eq_getElem hx, List.getElem?_eq_getElem hy, Option.getD_some, bne_iff_ne] at hp ⊢
    rw [lessL_diff i x y _ _ hlt (List.getElem?_eq_getElem hx) (List.getElem?_eq_getElem hy) hp, lessL_asym hlt (List.getElem?_eq_getElem hx) (List.getElem?_eq_getElem hy) hp]
    by_cases hl : x[i] < y[i]
    · simp [hl]
    · have : y[i] < x[i] := by
        rw [UInt8.lt_iff_toNat_lt] at *
        have : x[i].toNat ≠ y[i].toNat := fun e => hp (UInt8.toNat_inj.1 e)
        omega
      simp [hl, this]
  · rename_i hn
    have hall : ∀ j, j < x.length → j < y.length → x[j]? = y[j]? := fun j hx hy => by
      have := List.find?_eq_none.1 hn j (by rw [List.mem_range]; omega)
      simp only [getE, bne_iff_ne, ne_eq, Decidable.not_not, List.getElem?_eq_getElem hx, List.getElem?_eq_getElem hy, Option.getD_some] at this
      rw [List.getElem?_eq_getElem hx, List.getElem?_eq_getElem hy, this]
    rw [lessL_len x y hall, lessL_len y x fun j h1 h2 => (hall j h2 h1).symm]
    by_cases h1 : x.length < y.length
    · simp [h1]
    · by_cases h2 : y.length < x.length
      · simp [h1, h2]
      · simp [h1, h2]
theorem run_loadBytes {P : Program} {W : World} : ∀ (l : List UInt8) (p : Addr) (acc : ByteArray), (∀ i b, l[i]? = some b → W.cell? (p.add i) = some (.int .u8 b.toNat)) →
    (Extern.Bytes.loadBytes p l.length acc).run P W = .ok ⟨acc.data ++ l.toArray⟩ W
  | [], p, acc, _ => by simp [Extern.Bytes.loadBytes]
  | b :: l, p, acc, h => by
    have h0 := h 0 b rfl
    rw [show p.add 0 = p from by simp [Addr.add]] at h0
    have ih := run_loadBytes (P := P) (W := W) l (p.add 1) (acc.push b) fun i c hi => by
      have := h (i + 1) c (by simpa using hi)
      rw [show (p.add 1).add i = p.add (i + 1) from ?_]
      · exact this
      · unfold Addr.add
        by_cases hi0 : i = 0
        · subst hi0; simp
        · simp [hi0]; omega
    simp only [List.length_cons, Extern.Bytes.loadBytes, Sem.run_bind, run_load, h0, Result.andThen_ok]
    simp only [Int.toNat_natCast, UInt8.ofNat_toNat, show ((b.toNat).toUInt8) = b from UInt8.ofNat_toNat] at ih ⊢
    rw [ih]
    simp [ByteArray.push]
theorem run_bytesOf {P : Program} {W : World} {x : Sl} {l : List UInt8} (h : Bs W x l) : (Extern.Bytes.bytesOf (.slice x.a x.len x.cap)).run P W = .ok (bys l) W := by
  obtain ⟨a, n, c⟩ := x
  cases a with
  | none => rw [h.nil]; rfl
  | some p =>
    have hl : n = l.length := h.len
    simp only [Extern.Bytes.bytesOf]
    rw [hl, run_loadBytes l p _ h.cells]
    simp [bys]
/-- bytes of old slices, cloned: append onto a fresh empty row. -/
theorem app_clone {P : Program} {W : World} {t e : TypeId} {i : TypeInfo} (ht : P.underlying t = some (.slice e)) (hi : P.info? e = some i) (hz : i.zero = some (.int .u8 0)) (hsz : i.size = 1) (hby : i.bytes = 1)
    {b : Nat} (hb : Blk W b [] e) {p : Addr} {n c : Nat} {l : List UInt8} (h : Bs W ⟨some p, n, c⟩ l) (hl : l.length ≤ 140737488355328) (B : Nat) (hB : B ≤ b)
    {K : Sl → World → Prop} (hk : ∀ r W', Bs W' r l → Keeps [b] W W' → (∃ g, r.a = some ⟨g, 0, none⟩ ∧ B ≤ g) → K r W') :
    runG' P (.val (.one .sl)) (Builtin.append_ #[t, t] t #[.slice (some ⟨b, 0, none⟩) 0 0, .slice (some p) n c]) W K := by
  have hown : W.ownsRow B e 1 (.slice (some ⟨b, 0, none⟩) 0 0) 0 [] :=
    ⟨rfl, .inr ⟨b, 0, #[], rfl, hB, hb, Nat.le_refl _, Nat.zero_le _, rfl, rfl⟩⟩
  have hn : n = l.length := h.len
  have hcells : ∀ j u, (l.map fun b => Value.int .u8 b.toNat)[j]? = some u → W.cell? (p.add j) = some u := fun j u hj => by
    rw [List.getElem?_map] at hj
    obtain ⟨b', hb', rfl⟩ := Option.map_eq_some_iff.1 hj
    exact h.cells j b' hb'
  obtain ⟨v', w', hr, ho, hg, hnil⟩ := run_append_own (P := P) W B t t e i (.int .u8 0) 1 1 ht hi hz hsz hby rfl (by decide) _ 0 [] hown p n c (l.map fun b => Value.int .u8 b.toNat) (by simp [hn]) hcells
    (fun u hu => by obtain ⟨b', _, rfl⟩ := List.mem_map.1 hu; rfl) (by rw [maxLen_eq]; omega) (by omega) (Nat.le_trans hB (Nat.le_of_lt hb.lt))
  rcases ho.2 with ⟨rfl, _⟩ | ⟨g, cap, cur, rfl, hbg, hgh, hnc, hcm, hcs, htk⟩
  · exact absurd (hnil.1 rfl).1 (by simp)
  · refine ⟨⟨some ⟨g, 0, none⟩, 0 + n, cap⟩, w', hr, hk _ _ ⟨by simp [hn], h.big, fun j b' hj => ⟨_, rfl, ?_⟩⟩ ⟨hg.os, hg.tape, hg.output, hg.size, fun x hx hxs => hg.block x hx (by simpa [Value.ownBlock] using hxs)⟩ ⟨g, rfl, hbg⟩⟩
    have hget : (cur.toList.take ((0 + n) * 1))[j]? = some (.int .u8 b'.toNat) := by rw [htk]; simp [hj]
    rw [addr_add, Nat.zero_add]
    simp only [World.cell?, hgh]
    rw [List.getElem?_take] at hget
    split at hget
    · simpa using hget
    · cases hget
end Go.Gp
set_option linter.unusedSimpArgs false
set_option linter.unusedVariables false
namespace Go.Gp
open Go
theorem toList_loop (bs : ByteArray) : ∀ (n i : Nat) (r : List UInt8), bs.size - i = n → ByteArray.toList.loop bs i r = r.reverse ++ bs.data.toList.drop i
  | 0, i, r, h => by
    rw [ByteArray.toList.loop, if_neg (by omega), List.drop_eq_nil_of_le (by simp only [Array.length_toList]; have : bs.size = bs.data.size := rfl; omega), List.append_nil]
  | n + 1, i, r, h => by
    have hi : i < bs.data.toList.length := by simp only [Array.length_toList]; have : bs.size = bs.data.size := rfl; omega
    rw [ByteArray.toList.loop, if_pos (by omega), toList_loop bs n (i + 1) _ (by omega), List.drop_eq_getElem_cons hi, List.reverse_cons, List.append_assoc]
    congr 2
    have : i < bs.data.size := by simpa using hi
    show [bs.get! i] ++ _ = _
    simp only [ByteArray.get!, List.singleton_append, List.cons.injEq, and_true]
    rw [getElem!_pos bs.data i this]; simp
theorem toList_bys (l : List UInt8) : ByteArray.toList (bys l) = l := by
  rw [ByteArray.toList, toList_loop _ _ 0 [] rfl]; rfl
theorem str_eq (x y : List UInt8) : (ByteArray.toList (bys x) == ByteArray.toList (bys y)) = decide (x = y) := by
  rw [toList_bys, toList_bys, Bool.eq_iff_iff]; simp
theorem Bs.none (W : World) : Bs W ⟨none, 0, 0⟩ [] := ⟨rfl, by decide, fun i b h => by simp at h⟩
/-- The new row of a literal, and its mark. -/
theorem lit_bytes {P : Program} {W : World} {t e : TypeId} {C : Array Value} {n : Nat} (ht : P.underlying t = some (.slice e)) (he : P.underlying e = some (.int .u8)) (l : List UInt8) (hC : C.toList = l.map fun b => .int .u8 b.toNat) (hn : n = l.length) (hb : l.length ≤ 9223372036854775807)
    {K : Sl → World → Prop} (hk : ∀ s W', Bs W' s l → Keeps [] W W' → K s W') :
    newG (.cells C e) W fun b W => runG' P (.val (.one .sl)) (convert t t (.slice (some (Addr.mk b 0 none)) n n)) W K := by
  refine ⟨⟨some ⟨W.heap.size, 0, none⟩, n, n⟩, _, Lib.run_convert_bytes_const (P := P) W t e C n n ht he, hk _ _ ⟨hn, hb, fun i b h => ⟨_, rfl, ?_⟩⟩ (alloc_keeps _ _ _)⟩
  have hh : (W.alloc (.cells C e (C.size, C.size + 1))).heap[W.heap.size]? = some (.cells C e (C.size, C.size + 1)) := by
    show (W.heap.push _)[W.heap.size]? = _
    simp
  rw [addr_add, Nat.zero_add]
  simp only [World.cell?, hh]
  rw [← Array.getElem?_toList, hC, List.getElem?_map, h]; rfl
theorem ext_compare {P : Program} {W : World} {g : Nat} {fn : Func} (hf : P.funcs[g]? = some fn) (h1 : (fn.name == "runtime.NumGoroutine") = false) (h2 : fn.body.isNone = true) (h3 : Extern.findNext fn = none) (h4 : Extern.find fn = some Extern.BytealgCompare.compare)
    {a b : Sl} {x y : List UInt8} (ha : Bs W a x) (hb : Bs W b y) {K : Int × Unit → World → Prop} (hk : K (cmpL x y, ()) W) :
    extG P g [.slice a.a a.len a.cap, .slice b.a b.len b.cap] [.one (.int .i64)] W K := by
  refine ⟨(cmpL x y, ()), W, ?_, hk⟩
  have hc : ∀ u v, Extern.BytealgCompare.compare ⟨[u, v]⟩ = (do pure (goInt (Extern.BytealgCompare.cmp (← Extern.Bytes.bytesOf u) (← Extern.Bytes.bytesOf v)))) := fun _ _ => rfl
  simp only [callFunc, Sem.run_bind, run_program, Result.andThen_ok, hf, h1, h2, h3, h4, Bool.false_eq_true, if_false, if_true, run_mark, hc, run_bytesOf ha, run_bytesOf hb, cmp_eq]
  rfl
/-- A slice of bytes that is read. -/
theorem bs_of {P : Program} {W : World} {n : Nat} {t e : TypeId} {s : Sl} (ht : P.underlying t = some (.slice e)) (he : P.underlying e = some (.int .u8)) (hs : P.cellsOf e = 1)
    (h : RdT P W n t [.slice s.a s.len s.cap]) : ∃ l, Bs W s l := by
  obtain ⟨h1, _, h3⟩ := rd_ints ht he hs h
  obtain ⟨a, len, cap⟩ := s
  cases a with
  | none =>
    have : len = 0 := by
      rcases Nat.eq_zero_or_pos len with h0 | h0
      · exact h0
      · obtain ⟨p, x, hp, _⟩ := h3 0 h0
        cases hp
    subst this
    exact ⟨[], rfl, by decide, fun i b h => by simp at h⟩
  | some p =>
    refine ⟨(List.range len).map fun i => UInt8.ofNat (intOf ((W.cell? (p.add i)).getD undef)).toNat, by simp, by simpa using h1, fun i b hb => ⟨p, rfl, ?_⟩⟩
    rw [List.getElem?_map] at hb
    obtain ⟨j, hj, rfl⟩ := Option.map_eq_some_iff.1 hb
    obtain ⟨hlt, rfl⟩ := List.getElem?_eq_some_iff.1 hj
    simp only [List.length_range] at hlt
    simp only [List.getElem_range]
    obtain ⟨q, x, hq, _, hc, hw⟩ := h3 i hlt
    injection hq with hq
    subst hq
    rw [hc]
    simp only [Option.getD_some, intOf]
    have hx : 0 ≤ x ∧ x < 256 := by
      have := hw
      simp only [Lit.wf, Bool.and_eq_true, decide_eq_true_eq] at this
      have h4 : IntKind.u8.min = 0 := by decide
      have h5 : IntKind.u8.max = 255 := by decide
      omega
    have : ((UInt8.ofNat x.toNat).toNat : Int) = x := by
      rw [UInt8.toNat_ofNat']
      omega
    rw [this]
end Go.Gp
set_option linter.unusedSimpArgs false
set_option linter.unusedVariables false
namespace Go.Gp
open Go
/-- Slice s is nil, or the head of a block of its own (numbered B or more), and its cells are xs. -/
def OwnS (W : World) (B : Nat) (e : TypeId) (size : Nat) (s : Sl) (xs : List Value) : Prop := W.ownsRow B e size (.slice s.a s.len s.cap) s.len xs
def sblk (s : Sl) : List Nat := match s.a with | some p => [p.block] | none => []
theorem OwnS.nil (W : World) (B : Nat) (e : TypeId) (size : Nat) : OwnS W B e size ⟨none, 0, 0⟩ [] := World.ownsRow_nil W B e size
theorem OwnS.keep {W W' : World} {B : Nat} {e : TypeId} {size : Nat} {s : Sl} {xs : List Value} (h : OwnS W B e size s xs) {S : List Nat} (hk : Keeps S W W') (hs : ∀ b ∈ sblk s, b ∉ S) : OwnS W' B e size s xs := by
  refine ⟨h.1, ?_⟩
  rcases h.2 with hn | ⟨g, cap, cur, hv, hb, hgg, rest⟩
  · exact .inl hn
  · refine .inr ⟨g, cap, cur, hv, hb, ?_, rest⟩
    injection hv with h1 h2 h3
    rw [hk.block g (Array.getElem?_eq_some_iff.1 hgg).1 (hs g (by unfold sblk; rw [h1]; simp))]
    exact hgg
theorem OwnS.lt {W : World} {B : Nat} {e : TypeId} {size : Nat} {s : Sl} {xs : List Value} (h : OwnS W B e size s xs) : ∀ b ∈ sblk s, B ≤ b ∧ b < W.heap.size := by
  intro b hb
  rcases h.2 with ⟨hn, _⟩ | ⟨g, cap, cur, hv, hg, hgg, _⟩
  · injection hn with h1
    unfold sblk at hb; rw [h1] at hb; simp at hb
  · injection hv with h1
    unfold sblk at hb; rw [h1] at hb
    simp only [List.mem_singleton] at hb
    subst hb
    exact ⟨hg, (Array.getElem?_eq_some_iff.1 hgg).1⟩
theorem OwnS.far {W W' : World} {B : Nat} {e : TypeId} {size : Nat} {s : Sl} {xs : List Value} (h : OwnS W B e size s xs) {S : List Nat} (hk : Keeps S W W') (hs : ∀ b ∈ S, b < B) : OwnS W' B e size s xs :=
  h.keep hk fun b hb hm => by have := (h.lt b hb).1; have := hs b hm; omega
theorem OwnS.fresh {W W' : World} {B : Nat} {e : TypeId} {size : Nat} {s : Sl} {xs : List Value} (h : OwnS W B e size s xs) {S : List Nat} (hk : Keeps S W W') (hs : ∀ b ∈ S, W.heap.size ≤ b) : OwnS W' B e size s xs :=
  h.keep hk fun b hb hm => by have := (h.lt b hb).2; have := hs b hm; omega
theorem OwnS.len {W : World} {B : Nat} {e : TypeId} {size : Nat} {s : Sl} {xs : List Value} (h : OwnS W B e size s xs) : xs.length = s.len * size := h.1
theorem OwnS.cell {W : World} {B : Nat} {e : TypeId} {size : Nat} {s : Sl} {xs : List Value} (h : OwnS W B e size s xs) {j : Nat} {u : Value} (hj : xs[j]? = some u) : ∃ g, s.a = some ⟨g, 0, none⟩ ∧ W.cell? ⟨g, j, none⟩ = some u := by
  rcases h.2 with ⟨hn, h0⟩ | ⟨g, cap, cur, hv, hb, hgg, _⟩
  · have := h.1
    rw [h0, Nat.zero_mul] at this
    rw [List.eq_nil_of_length_eq_zero this] at hj
    simp at hj
  · injection hv with h1
    refine ⟨g, h1, ?_⟩
    have := World.ownsRow.cells h (g := g) (by rw [h1]; rfl) j u hj
    rwa [addr_add, Nat.zero_add] at this
theorem app_own {P : Program} {W : World} {t e : TypeId} {i : TypeInfo} {z : Value} {size bytes : Nat} (ht : P.underlying t = some (.slice e)) (hi : P.info? e = some i) (hz : i.zero = some z) (hsz : i.size = size) (hby : i.bytes = bytes)
    (hzs : z.cells.size = size) (h0 : 0 < size) {B : Nat} {s : Sl} {xs : List Value} (ho : OwnS W B e size s xs) {a : Addr} {m c : Nat} (news : List Value) (hl : news.length = m * size) (hn : ∀ j u, news[j]? = some u → W.cell? (a.add j) = some u)
    (h1 : ∀ u ∈ news, u.oneCell' = true) (hb : (s.len + m) * bytes ≤ 140737488355328) (h63 : s.len + m ≤ 9223372036854775807) (hB : B ≤ W.heap.size) {K : Sl → World → Prop}
    (hk : ∀ r W', OwnS W' B e size r (xs ++ news) → Keeps (sblk s) W W' → r.len = s.len + m → K r W') :
    runG' P (.val (.one .sl)) (Builtin.append_ #[t, t] t #[.slice s.a s.len s.cap, .slice (some a) m c]) W K := by
  obtain ⟨v', w', hr, ho', hg, hnil⟩ := run_append_own (P := P) W B t t e i z size bytes ht hi hz hsz hby hzs h0 _ s.len xs ho a m c news hl hn h1 (by rw [maxLen_eq]; exact h63) hb hB
  have hks : Keeps (sblk s) W w' := ⟨hg.os, hg.tape, hg.output, hg.size, fun x hx hxs => hg.block x hx (by
    unfold sblk at hxs
    obtain ⟨p, n, c⟩ := s
    cases p with
    | none => simp [Value.ownBlock]
    | some p => simpa [Value.ownBlock] using hxs)⟩
  rcases ho'.2 with ⟨rfl, h00⟩ | ⟨g, cap, cur, rfl, rest⟩
  · refine ⟨⟨none, 0, 0⟩, w', hr, hk _ _ ?_ hks (by simp only; omega)⟩
    have h2 := ho'
    rw [h00] at h2
    exact h2
  · exact ⟨⟨some ⟨g, 0, none⟩, s.len + m, cap⟩, w', hr, hk _ _ ho' hks rfl⟩
/-- A slice's elements, each a bool. -/
theorem rd_bools {P : Program} {W : World} {n : Nat} {t e : TypeId} {s : Sl} (ht : P.underlying t = some (.slice e)) (he : P.underlying e = some .bool) (hs : P.cellsOf e = 1)
    (h : RdT P W n t [.slice s.a s.len s.cap]) : s.len ≤ 9223372036854775807 ∧ ∀ i, i < s.len → ∃ p x, s.a = some p ∧ W.cell? (p.add i) = some (.bool x) := by
  obtain ⟨a, len, cap, m, hv, hl, hm, _, hx⟩ := rd_slice ht h
  obtain ⟨rfl, rfl, rfl⟩ : s.a = a ∧ s.len = len ∧ s.cap = cap := by injection hv with h1 h2 h3; exact ⟨h1, h2, h3⟩
  rw [maxLen_eq] at hm
  refine ⟨by omega, fun i hi => ?_⟩
  obtain ⟨p, cs, hp, hc, hr⟩ := hx i hi
  rw [hs, Nat.mul_one] at hc
  cases m with
  | zero => exact hr.elim
  | succ m =>
    unfold RdT at hr
    simp only [he] at hr
    obtain ⟨x, rfl⟩ := hr
    have h0 := hc.1
    rw [show (p.add i).add 0 = p.add i from by simp [Addr.add]] at h0
    exact ⟨p, x, hp, h0⟩
end Go.Gp
namespace Go.Gp
open Go
/-- Slice s is read: its cells are xs. -/
structure Rs (W : World) (size : Nat) (s : Sl) (xs : List Value) : Prop where
  len : xs.length = s.len * size
  cap : s.len ≤ s.cap
  at_ : ∀ j u, xs[j]? = some u → ∃ p, s.a = some p ∧ W.cell? (p.add j) = some u
theorem Rs.nil (W : World) (size : Nat) : Rs W size ⟨none, 0, 0⟩ [] := ⟨by simp, Nat.le_refl _, fun j u h => by simp at h⟩
theorem Rs.keep {W W' : World} {size : Nat} {s : Sl} {xs : List Value} (h : Rs W size s xs) {S : List Nat} (hk : Keeps S W W') (hs : ∀ b ∈ sblk s, b < W.heap.size → b ∉ S) : Rs W' size s xs :=
  ⟨h.len, h.cap, fun j u hu => let ⟨p, hp, hc⟩ := h.at_ j u hu
    ⟨p, hp, hk.cell hc (by have := cell_lt hc; rw [add_block] at this ⊢; exact hs _ (by unfold sblk; rw [hp]; simp) this)⟩⟩
theorem Rs.keep0 {W W' : World} {size : Nat} {s : Sl} {xs : List Value} (h : Rs W size s xs) (hk : Keeps [] W W') : Rs W' size s xs := h.keep hk (by simp)
theorem OwnS.cap {W : World} {B : Nat} {e : TypeId} {size : Nat} {s : Sl} {xs : List Value} (h : OwnS W B e size s xs) : s.len ≤ s.cap := by
  rcases h.2 with ⟨hn, h0⟩ | ⟨g, cap, cur, hv, _, _, hc, _⟩
  · omega
  · injection hv with _ _ h3
    omega
theorem OwnS.rs {W : World} {B : Nat} {e : TypeId} {size : Nat} {s : Sl} {xs : List Value} (h : OwnS W B e size s xs) : Rs W size s xs :=
  ⟨h.len, h.cap, fun j u hu => let ⟨g, hg, hc⟩ := h.cell hu; ⟨_, hg, by rw [addr_add, Nat.zero_add]; exact hc⟩⟩
theorem OwnS.blank {W : World} {B b : Nat} {e : TypeId} {size : Nat} (h : Blk W b [] e) (hB : B ≤ b) : OwnS W B e size ⟨some ⟨b, 0, none⟩, 0, 0⟩ [] :=
  ⟨by simp, .inr ⟨b, 0, #[], rfl, hB, h, Nat.le_refl _, Nat.zero_le _, by simp, by simp⟩⟩
/-- A slice that is read, appended to a row of one's own. -/
theorem app_rs {P : Program} {W : World} {t e : TypeId} {i : TypeInfo} {z : Value} {size bytes : Nat} (ht : P.underlying t = some (.slice e)) (hi : P.info? e = some i) (hz : i.zero = some z) (hsz : i.size = size) (hby : i.bytes = bytes)
    (hzs : z.cells.size = size) (h0 : 0 < size) {B : Nat} {s u : Sl} {xs ys : List Value} (ho : OwnS W B e size s xs) (hu : Rs W size u ys) (hnone : u.a = none → u.len = 0 ∧ u.cap = 0) (h1 : ∀ u ∈ ys, u.oneCell' = true)
    (hb : (s.len + u.len) * bytes ≤ 140737488355328) (h63 : s.len + u.len ≤ 9223372036854775807) (hB : B ≤ W.heap.size) {K : Sl → World → Prop}
    (hk : ∀ r W', OwnS W' B e size r (xs ++ ys) → Keeps (sblk s) W W' → r.len = s.len + u.len → K r W') :
    runG' P (.val (.one .sl)) (Builtin.append_ #[t, t] t #[.slice s.a s.len s.cap, .slice u.a u.len u.cap]) W K := by
  obtain ⟨a, m, c⟩ := u
  cases a with
  | some p =>
    refine app_own ht hi hz hsz hby hzs h0 ho ys hu.len (fun j v hj => ?_) h1 hb h63 hB hk
    obtain ⟨q, hq, hc⟩ := hu.at_ j v hj
    injection hq with hq
    subst hq
    exact hc
  | none =>
    obtain ⟨h2, h3⟩ := hnone rfl
    simp only at h2 h3
    subst h2 h3
    have : ys = [] := List.eq_nil_of_length_eq_zero (by rw [hu.len]; simp)
    subst this
    rw [List.append_nil] at hk
    exact ⟨s, W, run_append_owned_none (P := P) W B t t e i size ht hi _ _ xs ho, hk s W ho (Keeps.refl _ _) rfl⟩
theorem addr_add_add (a : Addr) (m n : Nat) : (a.add m).add n = a.add (m + n) := by
  unfold Addr.add
  split <;> split <;> (try split) <;> simp_all <;> omega
theorem sizeOf_run {P : Program} {W : World} {e : TypeId} {i : TypeInfo} (hi : P.info? e = some i) : (sizeOf e).run P W = .ok i.size W := by
  simp [sizeOf, typeInfo, hi]
/-- s[l:] -/
theorem slice_lo {P : Program} {W : World} {t e : TypeId} {i : TypeInfo} {size : Nat} (ht : P.underlying t = some (.slice e)) (hi : P.info? e = some i) (hsz : i.size = size) {k : IntKind} {l : Int} {s : Sl} {xs : List Value} (hs : Rs W size s xs)
    (h0 : 0 ≤ l) (h1 : l ≤ s.len) {K : Sl → World → Prop} (hk : ∀ r, Rs W size r (xs.drop (l.toNat * size)) → sblk r = sblk s → r.len = s.len - l.toNat → r.cap = s.cap - l.toNat → (r.a = none ↔ s.a = none) → K r W) :
    runG' P (.val (.one .sl)) (Instr.sliceAt t (.slice s.a s.len s.cap) (some (.int k l)) none none) W K := by
  have he : P.elem t = e := by simp [Program.elem, ht]
  have ht' : P.underlying t = some (.slice (P.elem t)) := by rw [he]; exact ht
  have hc := hs.cap
  refine ⟨⟨if s.cap = l.toNat then s.a else s.a.map (·.add (l.toNat * size)), s.len - l.toNat, s.cap - l.toNat⟩, W, ?_, hk _ ⟨?_, by simp only; omega, fun j u hu => ?_⟩ ?_ rfl rfl ?_⟩
  · rw [run_sliceAt_slice W t _ _ _ _ ht', run_slice_l W t s.a s.len s.cap ht' k l h0 h1, he, sizeOf_run hi, hsz]
    rfl
  · rw [List.length_drop, hs.len, Nat.sub_mul]
  · rw [List.getElem?_drop] at hu
    obtain ⟨p, hp, hcell⟩ := hs.at_ _ u hu
    have hlt := (List.getElem?_eq_some_iff.1 hu).1
    rw [hs.len] at hlt
    have hne : ¬ s.cap = l.toNat := fun e => by
      have : s.len * size ≤ l.toNat * size := Nat.mul_le_mul_right _ (by omega)
      omega
    refine ⟨p.add (l.toNat * size), by simp only; rw [if_neg hne, hp]; rfl, ?_⟩
    rw [addr_add_add]
    exact hcell
  · unfold sblk
    simp only
    split <;> rename_i h
    all_goals
      split at h
      · rw [h]
      · cases ha : s.a <;> rw [ha] at h <;> simp at h
        try (rw [← h, add_block])
  · simp only
    split
    · rfl
    · simp
end Go.Gp
namespace Go.Gp
open Go
/-- Is t a struct of fields of these types, a cell each? -/
def cellFields (P : Program) (t : TypeId) (ts : List TypeId) : Bool :=
  P.cellsOf t == ts.length && match P.underlying t with
  | some (.struct fs) => (List.range ts.length).all fun i => match fs[i]?, ts[i]? with
    | some f, some u => f.offset == i && f.type == u && P.cellsOf u == 1
    | _, _ => false
  | _ => false
theorem rd_cells {P : Program} {W : World} {n : Nat} {t : TypeId} {ts : List TypeId} {cs : List Value} (hk : cellFields P t ts = true) (h : RdT P W n t cs) :
    ∃ m, cs.length = ts.length ∧ ∀ (i : Nat) u v, ts[i]? = some u → cs[i]? = some v → RdT P W m u [v] := by
  unfold cellFields at hk
  rw [Bool.and_eq_true, beq_iff_eq] at hk
  obtain ⟨hc, hk⟩ := hk
  split at hk
  · rename_i fs hu
    obtain ⟨m, hl, hf⟩ := rd_struct hu h
    rw [hc] at hl
    refine ⟨m, hl, fun i u v hti hv => ?_⟩
    have hi : i < ts.length := (List.getElem?_eq_some_iff.1 hti).1
    have hi' := List.all_eq_true.1 hk i (by simpa using hi)
    rw [hti] at hi'
    split at hi' <;> first | (cases hi'; done) | skip
    rename_i f u' hfi hu'
    injection hu' with hu'
    subst hu'
    simp only [Bool.and_eq_true, beq_iff_eq] at hi'
    obtain ⟨⟨h1, h2⟩, h3⟩ := hi'
    have hr := hf i f hfi
    rw [h1, h2, h3] at hr
    have hd : (cs.drop i).take 1 = [v] := by
      have hlt : i < cs.length := by omega
      rw [List.drop_eq_getElem_cons hlt]
      rw [List.getElem?_eq_getElem hlt] at hv
      injection hv with hv
      simp [hv]
    rwa [hd] at hr
  · cases hk
end Go.Gp
set_option linter.unusedSimpArgs false
set_option linter.unusedVariables false
namespace Go.Gp
open Go
abbrev Sl.val (s : Sl) : Value := .slice s.a s.len s.cap
def inA (A : Nat → Prop) (s : Sl) : Prop := s.len ≠ 0 → ∀ b ∈ sblk s, A b
theorem inA.mono {A A' : Nat → Prop} {s : Sl} (h : inA A s) (hA : ∀ b, A b → A' b) : inA A' s := fun hn b hb => hA b (h hn b hb)
theorem inA.nil (A : Nat → Prop) : inA A ⟨none, 0, 0⟩ := fun h => absurd rfl h
theorem Bs.keep' {W W' : World} {s : Sl} {l : List UInt8} (h : Bs W s l) {S : List Nat} (hk : Keeps S W W') (hs : s.len ≠ 0 → ∀ p, s.a = some p → p.block ∉ S) : Bs W' s l :=
  ⟨h.len, h.big, fun i b hb => let ⟨p, hp, hc⟩ := h.at_ i b hb
    ⟨p, hp, hk.cell hc (by rw [add_block]; exact hs (by have := (List.getElem?_eq_some_iff.1 hb).1; have := h.len; omega) p hp)⟩⟩
theorem Rs.keep' {W W' : World} {size : Nat} {s : Sl} {xs : List Value} (h : Rs W size s xs) {S : List Nat} (hk : Keeps S W W') (hs : s.len ≠ 0 → ∀ b ∈ sblk s, b ∉ S) : Rs W' size s xs :=
  ⟨h.len, h.cap, fun j u hu => let ⟨p, hp, hc⟩ := h.at_ j u hu
    ⟨p, hp, hk.cell hc (by
      rw [add_block]
      refine hs (fun h0 => ?_) _ (by unfold sblk; rw [hp]; simp)
      have := (List.getElem?_eq_some_iff.1 hu).1
      rw [h.len, h0, Nat.zero_mul] at this
      omega)⟩⟩
/-- What is new between two worlds. -/
def newA (W W' : World) : Nat → Prop := fun b => W.heap.size ≤ b ∧ b < W'.heap.size
structure BsA (A : Nat → Prop) (W : World) (s : Sl) (l : List UInt8) : Prop where
  bs : Bs W s l
  a : inA A s
theorem BsA.keep {A : Nat → Prop} {W W' : World} {s : Sl} {l : List UInt8} (h : BsA A W s l) {S : List Nat} (hk : Keeps S W W') (hs : ∀ b ∈ S, ¬ A b) : BsA A W' s l :=
  ⟨h.bs.keep' hk fun hn p hp hm => hs _ hm (h.a hn _ (by unfold sblk; rw [hp]; simp)), h.a⟩
theorem BsA.mono {A A' : Nat → Prop} {W : World} {s : Sl} {l : List UInt8} (h : BsA A W s l) (hA : ∀ b, A b → A' b) : BsA A' W s l := ⟨h.bs, h.a.mono hA⟩
theorem Rs.keepA {W W' : World} {size : Nat} {s : Sl} {xs : List Value} (h : Rs W size s xs) {A : Nat → Prop} (ha : inA A s) {S : List Nat} (hk : Keeps S W W') (hs : ∀ b ∈ S, ¬ A b) : Rs W' size s xs :=
  h.keep' hk fun hn b hb hm => hs b hm (ha hn b hb)
/-- A row whose elements stand for ps. -/
structure RowOf {α β : Type} (f : α → List Value) (k : Nat) (R : (Nat → Prop) → World → α → β → Prop) (A : Nat → Prop) (W : World) (s : Sl) (ps : List β) : Prop where
  row : ∃ xs : List α, xs.length = ps.length ∧ Rs W k s (xs.flatMap f) ∧ ∀ (i : Nat) (x : α) (p : β), xs[i]? = some x → ps[i]? = some p → R A W x p
  len : s.len = ps.length
  a : inA A s
  nil : s.a = none → s.len = 0 ∧ s.cap = 0
theorem RowOf.keep {α β : Type} {f : α → List Value} {k : Nat} {R : (Nat → Prop) → World → α → β → Prop} {A : Nat → Prop} {W W' : World} {s : Sl} {ps : List β} (h : RowOf f k R A W s ps) {S : List Nat} (hk : Keeps S W W') (hs : ∀ b ∈ S, ¬ A b)
    (hR : ∀ x p, R A W x p → R A W' x p) : RowOf f k R A W' s ps :=
  ⟨let ⟨xs, h1, h2, h3⟩ := h.row; ⟨xs, h1, h2.keepA h.a hk hs, fun i x p hx hp => hR _ _ (h3 i x p hx hp)⟩, h.len, h.a, h.nil⟩
theorem RowOf.mono {α β : Type} {f : α → List Value} {k : Nat} {R : (Nat → Prop) → World → α → β → Prop} {A A' : Nat → Prop} {W : World} {s : Sl} {ps : List β} (h : RowOf f k R A W s ps) (hA : ∀ b, A b → A' b)
    (hR : ∀ x p, R A W x p → R A' W x p) : RowOf f k R A' W s ps :=
  ⟨let ⟨xs, h1, h2, h3⟩ := h.row; ⟨xs, h1, h2, fun i x p hx hp => hR _ _ (h3 i x p hx hp)⟩, h.len, h.a.mono hA, h.nil⟩
theorem RowOf.none {α β : Type} (f : α → List Value) (k : Nat) (R : (Nat → Prop) → World → α → β → Prop) (A : Nat → Prop) (W : World) : RowOf f k R A W ⟨none, 0, 0⟩ [] :=
  ⟨⟨[], rfl, Rs.nil W k, fun i x p h => by simp at h⟩, rfl, inA.nil A, fun _ => ⟨rfl, rfl⟩⟩
/-! The elements that there are: bytes, pairs of bytes, whole numbers. -/
abbrev slC (s : Sl) : List Value := [s.val]
abbrev prC (x : Sl × Sl) : List Value := [x.1.val, x.2.val]
abbrev inC (x : Int) : List Value := [.int .i64 x]
abbrev KysA := RowOf slC 1 BsA
abbrev PrsA := RowOf prC 2 fun A W (x : Sl × Sl) (p : List UInt8 × List UInt8) => BsA A W x.1 p.1 ∧ BsA A W x.2 p.2
abbrev IntsA := RowOf inC 1 fun (_ : Nat → Prop) (_ : World) (x y : Int) => x = y
theorem KysA.kp {A : Nat → Prop} {W W' : World} {s : Sl} {l : List (List UInt8)} (h : KysA A W s l) {S : List Nat} (hk : Keeps S W W') (hs : ∀ b ∈ S, ¬ A b) : KysA A W' s l := h.keep hk hs fun _ _ h => h.keep hk hs
theorem KysA.mn {A A' : Nat → Prop} {W : World} {s : Sl} {l : List (List UInt8)} (h : KysA A W s l) (hA : ∀ b, A b → A' b) : KysA A' W s l := RowOf.mono h hA fun _ _ h => h.mono hA
theorem PrsA.kp {A : Nat → Prop} {W W' : World} {s : Sl} {l : List (List UInt8 × List UInt8)} (h : PrsA A W s l) {S : List Nat} (hk : Keeps S W W') (hs : ∀ b ∈ S, ¬ A b) : PrsA A W' s l := h.keep hk hs fun _ _ h => ⟨h.1.keep hk hs, h.2.keep hk hs⟩
theorem PrsA.mn {A A' : Nat → Prop} {W : World} {s : Sl} {l : List (List UInt8 × List UInt8)} (h : PrsA A W s l) (hA : ∀ b, A b → A' b) : PrsA A' W s l := RowOf.mono h hA fun _ _ h => ⟨h.1.mono hA, h.2.mono hA⟩
theorem IntsA.kp {A : Nat → Prop} {W W' : World} {s : Sl} {l : List Int} (h : IntsA A W s l) {S : List Nat} (hk : Keeps S W W') (hs : ∀ b ∈ S, ¬ A b) : IntsA A W' s l := h.keep hk hs fun _ _ h => h
theorem IntsA.mn {A A' : Nat → Prop} {W : World} {s : Sl} {l : List Int} (h : IntsA A W s l) (hA : ∀ b, A b → A' b) : IntsA A' W s l := RowOf.mono h hA fun _ _ h => h
theorem IntsA.rs {A : Nat → Prop} {W : World} {s : Sl} {l : List Int} (h : IntsA A W s l) : Rs W 1 s (l.map (Value.int .i64)) := by
  obtain ⟨xs, h1, h2, h3⟩ := h.row
  have : xs = l := by
    apply List.ext_getElem? 
    intro i
    by_cases hi : i < xs.length
    · rw [List.getElem?_eq_getElem hi, List.getElem?_eq_getElem (by omega)]
      rw [h3 i _ _ (List.getElem?_eq_getElem hi) (List.getElem?_eq_getElem (by omega))]
    · rw [List.getElem?_eq_none (by omega), List.getElem?_eq_none (by omega)]
  subst this
  rwa [List.map_eq_flatMap]
/-! Rows of one's own. -/
theorem OwnS.nilc {W : World} {B : Nat} {e : TypeId} {size : Nat} {s : Sl} {xs : List Value} (h : OwnS W B e size s xs) (hn : s.a = none) : s.len = 0 ∧ s.cap = 0 := by
  rcases h.2 with ⟨hv, h0⟩ | ⟨g, cap, cur, hv, _⟩
  · injection hv with _ _ h3
    exact ⟨h0, h3⟩
  · injection hv with h1
    rw [hn] at h1; cases h1
theorem OwnS.row {α β : Type} {f : α → List Value} {k : Nat} {R : (Nat → Prop) → World → α → β → Prop} {A : Nat → Prop} {W : World} {B : Nat} {e : TypeId} {s : Sl} {xs : List α} {ps : List β} (h : OwnS W B e k s (xs.flatMap f)) (hf : ∀ x, (f x).length = k) (hk : 0 < k) (hl : xs.length = ps.length)
    (ha : inA A s) (hR : ∀ (i : Nat) (x : α) (p : β), xs[i]? = some x → ps[i]? = some p → R A W x p) : RowOf f k R A W s ps :=
  ⟨⟨xs, hl, h.rs, hR⟩, by
    have := h.len
    rw [flat_len f hf] at this
    have := Nat.eq_of_mul_eq_mul_right hk this
    omega, ha, h.nilc⟩
theorem app_own' {P : Program} {W : World} {t e : TypeId} {i : TypeInfo} {z : Value} {size bytes : Nat} (ht : P.underlying t = some (.slice e)) (hi : P.info? e = some i) (hz : i.zero = some z) (hsz : i.size = size) (hby : i.bytes = bytes)
    (hzs : z.cells.size = size) (h0 : 0 < size) {B : Nat} {s : Sl} {xs : List Value} (ho : OwnS W B e size s xs) {a : Addr} {m c : Nat} (news : List Value) (hl : news.length = m * size) (hn : ∀ j u, news[j]? = some u → W.cell? (a.add j) = some u)
    (h1 : ∀ u ∈ news, u.oneCell' = true) (hb : (s.len + m) * bytes ≤ 140737488355328) (h63 : s.len + m ≤ 9223372036854775807) (hB : B ≤ W.heap.size) {K : Sl → World → Prop}
    (hk : ∀ r W', OwnS W' B e size r (xs ++ news) → Keeps (sblk s) W W' → r.len = s.len + m → (∀ b ∈ sblk r, b ∈ sblk s ∨ newA W W' b) → (r.a = none → s.a = none) → K r W') :
    runG' P (.val (.one .sl)) (Builtin.append_ #[t, t] t #[.slice s.a s.len s.cap, .slice (some a) m c]) W K := by
  obtain ⟨v', w', hr, ho', hg, hnil, hat⟩ := run_append_own_at (P := P) W B t t e i z size bytes ht hi hz hsz hby hzs h0 _ s.len xs ho a m c news hl hn h1 (by rw [maxLen_eq]; exact h63) hb hB
  have hks : Keeps (sblk s) W w' := ⟨hg.os, hg.tape, hg.output, hg.size, fun x hx hxs => hg.block x hx (by
    unfold sblk at hxs
    obtain ⟨p, n, c⟩ := s
    cases p with
    | none => simp [Value.ownBlock]
    | some p => simpa [Value.ownBlock] using hxs)⟩
  rcases ho'.2 with ⟨rfl, h00⟩ | ⟨g, cap, cur, rfl, _, hgg, _⟩
  · refine ⟨⟨none, 0, 0⟩, w', hr, hk _ _ ?_ hks (by simp only; omega) (by simp [sblk]) fun _ => by have := (hnil.1 rfl).1; injection this⟩
    have h2 := ho'
    rw [h00] at h2
    exact h2
  · refine ⟨⟨some ⟨g, 0, none⟩, s.len + m, cap⟩, w', hr, hk _ _ ho' hks rfl (fun b hb => ?_) fun h => by cases h⟩
    simp only [sblk, List.mem_singleton] at hb
    subst hb
    rcases hat with h | h
    · left
      simp only [Value.ownBlock] at h
      unfold sblk
      split at h
      · rename_i q _ _ hq
        injection h with h
        injection hq with hq
        rw [hq]; simp [← h]
      · cases h
    · right
      simp only [Value.ownBlock, Option.some.injEq] at h
      exact ⟨by omega, (Array.getElem?_eq_some_iff.1 hgg).1⟩
/-- s[:h] of a row of one's own is one's own. -/
theorem OwnS.cut {W : World} {B : Nat} {e : TypeId} {size : Nat} {s : Sl} {xs : List Value} (h : OwnS W B e size s xs) (n : Nat) (hn : n ≤ s.len) : OwnS W B e size ⟨s.a, n, s.cap⟩ (xs.take (n * size)) := by
  have hl := h.len
  have hle : n * size ≤ s.len * size := Nat.mul_le_mul_right _ hn
  refine ⟨by simp only [List.length_take]; omega, ?_⟩
  rcases h.2 with ⟨hv, h0⟩ | ⟨g, cap, cur, hv, hB, hgg, hc, hm, hcs, htk⟩
  · injection hv with h1 h2 h3
    left
    refine ⟨?_, by simp only; omega⟩
    simp only
    rw [h1, h3, show n = 0 from by omega]
  · injection hv with h1 h2 h3
    right
    refine ⟨g, cap, cur, ?_, hB, hgg, by simp only; omega, hm, hcs, ?_⟩
    · simp only; rw [h1, h3]
    · rw [← htk, List.take_take]
      simp only
      congr 1
      omega
/-- A store into a row of one's own. -/
theorem st_own {W : World} {B : Nat} {e : TypeId} {size : Nat} {s : Sl} {xs : List Value} (h : OwnS W B e size s xs) {g j : Nat} (hg : s.a = some ⟨g, 0, none⟩) (hj : j < xs.length) {v : Value} {K : World → Prop}
    (hk : ∀ W', Keeps [g] W W' → OwnS W' B e size s (xs.set j v) → K W') : st1 (Addr.mk g j none) v W K := by
  rcases h.2 with ⟨hv, h0⟩ | ⟨g', cap, cur, hv, hB, hgg, hc, hm, hcs, htk⟩
  · injection hv with h1
    rw [h1] at hg; cases hg
  · have hv' := hv
    injection hv' with h1 h2 h3
    rw [h1] at hg
    simp only [Option.some.injEq, Addr.mk.injEq, and_true] at hg
    subst hg
    have hb : Blk W g' cur.toList e := hgg
    have hlen := h.1
    have hcl : (cur.toList.take (s.len * size)).length = xs.length := by rw [htk]
    have hjc : j < cur.toList.length := by rw [List.length_take] at hcl; omega
    refine st_blk' hb hjc fun W' k b => hk W' k ⟨by simpa using h.1, .inr ⟨g', cap, ⟨cur.toList.set j v⟩, hv, hB, b, hc, hm, by simpa using hcs, ?_⟩⟩
    rw [← htk, List.take_set]
/-- s[:h] -/
theorem slc_hi {a : Option Addr} {cap size : Nat} {h : Int} {K : Sl → Prop} (h0 : 0 ≤ h) (h1 : h ≤ cap) (hk : K ⟨a, h.toNat, cap⟩) : slcG a cap size 0 h K := by
  refine ⟨Int.le_refl _, h0, h1, ?_⟩
  have : (if cap = Int.toNat 0 then a else a.map (·.add (Int.toNat 0 * size))) = a := by
    split
    · rfl
    · cases a with
      | none => rfl
      | some p => simp [Addr.add]
  rw [this]
  exact hk
/-- s[l:h] of a slice that is read. -/
theorem slc_rs {W : World} {size : Nat} {s : Sl} {xs : List Value} (hs : Rs W size s xs) {l h : Int} (h0 : 0 ≤ l) (h1 : l ≤ h) (h2 : h ≤ s.len) {K : Sl → Prop}
    (hk : ∀ r, Rs W size r ((xs.drop (l.toNat * size)).take ((h.toNat - l.toNat) * size)) → sblk r = sblk s → r.len = h.toNat - l.toNat → r.cap = s.cap - l.toNat → (r.a = none ↔ s.a = none) → K r) : slcG s.a s.cap size l h K := by
  have hc := hs.cap
  have hlen := hs.len
  refine ⟨h0, h1, by omega, hk _ ⟨?_, by simp only; omega, fun j u hu => ?_⟩ ?_ rfl rfl ?_⟩
  · simp only [List.length_take, List.length_drop, hlen]
    rw [← Nat.sub_mul]
    have : (h.toNat - l.toNat) * size ≤ (s.len - l.toNat) * size := Nat.mul_le_mul_right _ (by omega)
    omega
  · rw [List.getElem?_take] at hu
    split at hu <;> first | (cases hu; done) | skip
    rename_i hj
    rw [List.getElem?_drop] at hu
    obtain ⟨p, hp, hcell⟩ := hs.at_ _ u hu
    have hne : ¬ s.cap = l.toNat := fun e => by
      have : (h.toNat - l.toNat) = 0 := by omega
      rw [this, Nat.zero_mul] at hj
      omega
    refine ⟨p.add (l.toNat * size), by simp only; rw [if_neg hne, hp]; rfl, ?_⟩
    rw [addr_add_add]
    exact hcell
  · unfold sblk
    simp only
    split <;> rename_i h
    all_goals
      split at h
      · rw [h]
      · cases ha : s.a <;> rw [ha] at h <;> simp at h
        try (rw [← h, add_block])
  · simp only
    split
    · rfl
    · simp
end Go.Gp
set_option linter.unusedSimpArgs false
set_option linter.unusedVariables false
namespace Go.Gp
open Go
/-- Old blocks. -/
abbrev oldA (W : World) : Nat → Prop := fun b => b < W.heap.size
theorem bsA_of {P : Program} {W : World} {n : Nat} {t e : TypeId} {v : Value} (ht : P.underlying t = some (.slice e)) (he : P.underlying e = some (.int .u8)) (hs : P.cellsOf e = 1) (h : RdT P W n t [v]) : ∃ (s : Sl) (l : List UInt8), v = s.val ∧ BsA (oldA W) W s l := by
  obtain ⟨a, len, cap, m, rfl, hl, hm, hn, hx⟩ := rd_slice ht h
  obtain ⟨l, hl'⟩ := bs_of (s := ⟨a, len, cap⟩) ht he hs h
  refine ⟨⟨a, len, cap⟩, l, rfl, hl', fun h0 b hb => ?_⟩
  obtain ⟨p, cs, hp, hc, hr⟩ := hx 0 (by simp only at h0; omega)
  unfold sblk at hb
  simp only [hp, List.mem_singleton] at hb
  subst hb
  rw [hs, Nat.zero_mul] at hc
  cases m with
  | zero => exact hr.elim
  | succ m =>
    unfold RdT at hr
    simp only [he] at hr
    obtain ⟨x, rfl, _⟩ := hr
    have := cell_lt hc.1
    rwa [add_block, add_block] at this
theorem rowOf_of {P : Program} {W : World} {n : Nat} {t e : TypeId} {v : Value} {α β : Type} (f : α → List Value) {k : Nat} {R : (Nat → Prop) → World → α → β → Prop} (ht : P.underlying t = some (.slice e)) (hs : P.cellsOf e = k) (hk : 0 < k) (hf : ∀ x, (f x).length = k)
    (he : ∀ m cs, RdT P W m e cs → ∃ x p, cs = f x ∧ R (oldA W) W x p) (h : RdT P W n t [v]) : ∃ (s : Sl) (ps : List β), v = s.val ∧ s.len ≤ 9223372036854775807 ∧ RowOf f k R (oldA W) W s ps := by
  obtain ⟨a, len, cap, m, rfl, hl, hm, hn, hx⟩ := rd_slice ht h
  rw [maxLen_eq] at hm
  have go : ∀ j, j ≤ len → ∃ (xs : List α) (ps : List β), xs.length = j ∧ ps.length = j ∧ (∀ (i : Nat) (x : α), xs[i]? = some x → ∃ p, a = some p ∧ cellsAt W (p.add (i * k)) 0 (f x)) ∧ ∀ (i : Nat) (x : α) (p : β), xs[i]? = some x → ps[i]? = some p → R (oldA W) W x p := by
    intro j
    induction j with
    | zero => exact fun _ => ⟨[], [], rfl, rfl, by simp, by simp⟩
    | succ j ih =>
      intro hj
      obtain ⟨xs, ps, h1, h2, h3, h4⟩ := ih (by omega)
      obtain ⟨p, cs, hp, hc, hr⟩ := hx j (by omega)
      obtain ⟨x, q, rfl, hR⟩ := he m cs hr
      rw [hs] at hc
      refine ⟨xs ++ [x], ps ++ [q], by simp [h1], by simp [h2], fun i y hy => ?_, fun i y z hy hz => ?_⟩
      · rcases (by have := (List.getElem?_eq_some_iff.1 hy).1; simp at this; omega : i < xs.length ∨ i = xs.length) with hi | rfl
        · rw [List.getElem?_append_left hi] at hy
          exact h3 i y hy
        · rw [List.getElem?_append_right (Nat.le_refl _)] at hy
          simp only [Nat.sub_self, List.getElem?_cons_zero, Option.some.injEq] at hy
          subst hy
          exact ⟨p, hp, by rw [h1]; exact hc⟩
      · rcases (by have := (List.getElem?_eq_some_iff.1 hy).1; simp at this; omega : i < xs.length ∨ i = xs.length) with hi | rfl
        · rw [List.getElem?_append_left hi] at hy
          rw [List.getElem?_append_left (by omega)] at hz
          exact h4 i y z hy hz
        · rw [List.getElem?_append_right (Nat.le_refl _)] at hy
          rw [List.getElem?_append_right (by omega), show xs.length - ps.length = 0 from by omega] at hz
          simp only [Nat.sub_self, List.getElem?_cons_zero, Option.some.injEq] at hy hz
          subst hy; subst hz
          exact hR
  obtain ⟨xs, ps, h1, h2, h3, h4⟩ := go len (Nat.le_refl _)
  have hat : ∀ j u, (xs.flatMap f)[j]? = some u → ∃ p, a = some p ∧ W.cell? (p.add j) = some u := fun j u hu => by
    obtain ⟨q, r, hr, rfl⟩ : ∃ q r, r < k ∧ j = q * k + r := ⟨j / k, j % k, Nat.mod_lt _ hk, by rw [Nat.mul_comm]; exact (Nat.div_add_mod j k).symm⟩
    rw [flat_get (k := k) f hf _ _ _ hr] at hu
    obtain ⟨x, hx', hu⟩ := Option.bind_eq_some_iff.1 hu
    obtain ⟨p, hp, hc⟩ := h3 q x hx'
    refine ⟨p, hp, ?_⟩
    have := cellsAt_get _ 0 hc r u hu
    rwa [Nat.zero_add, addr_add_add] at this
  refine ⟨⟨a, len, cap⟩, ps, rfl, by simp only; omega, ⟨xs, by omega, ⟨by simp only; rw [flat_len f hf, h1], hl, hat⟩, h4⟩, by simp only; omega, fun h0 b hb => ?_, hn⟩
  simp only at h0
  have hx0 : 0 < xs.length := by omega
  obtain ⟨p, hp, hc⟩ := hat 0 ((xs.flatMap f)[0]'(by rw [flat_len f hf]; exact Nat.mul_pos hx0 hk)) (List.getElem?_eq_getElem _)
  unfold sblk at hb
  simp only [hp, List.mem_singleton] at hb
  subst hb
  have := cell_lt hc
  rwa [add_block] at this
/-- Keys, pairs, whole numbers of an argument. -/
theorem kysA_of {P : Program} {W : World} {n : Nat} {t b e : TypeId} {v : Value} (ht : P.underlying t = some (.slice b)) (hb : P.underlying b = some (.slice e)) (he : P.underlying e = some (.int .u8)) (hs : P.cellsOf e = 1) (hc : P.cellsOf b = 1) (hl : ∀ m cs, RdT P W m b cs → cs.length = 1) (h : RdT P W n t [v]) :
    ∃ (s : Sl) (l : List (List UInt8)), v = s.val ∧ s.len ≤ 9223372036854775807 ∧ KysA (oldA W) W s l :=
  rowOf_of slC ht hc (by decide) (fun _ => rfl) (fun m cs hr => by
    obtain ⟨v, rfl⟩ := len1 (hl m cs hr)
    obtain ⟨s, l, rfl, h⟩ := bsA_of hb he hs hr
    exact ⟨s, l, rfl, h⟩) h
theorem prsA_of {P : Program} {W : World} {n : Nat} {t q b e : TypeId} {v : Value} (ht : P.underlying t = some (.slice q)) (hq : cellFields P q [b, b] = true) (hc : P.cellsOf q = 2) (hb : P.underlying b = some (.slice e)) (he : P.underlying e = some (.int .u8)) (hs : P.cellsOf e = 1) (h : RdT P W n t [v]) :
    ∃ (s : Sl) (l : List (List UInt8 × List UInt8)), v = s.val ∧ s.len ≤ 9223372036854775807 ∧ PrsA (oldA W) W s l :=
  rowOf_of prC ht hc (by decide) (fun _ => rfl) (fun m cs hr => by
    obtain ⟨m', hlen, hall⟩ := rd_cells hq hr
    obtain ⟨v0, v1, rfl⟩ := len2 hlen
    obtain ⟨s0, l0, rfl, h0⟩ := bsA_of hb he hs (hall 0 b v0 rfl rfl)
    obtain ⟨s1, l1, rfl, h1⟩ := bsA_of hb he hs (hall 1 b v1 rfl rfl)
    exact ⟨(s0, s1), (l0, l1), rfl, h0, h1⟩) h
theorem rd_slice_len {P : Program} {W : World} {n : Nat} {t e : TypeId} {cs : List Value} (ht : P.underlying t = some (.slice e)) (h : RdT P W n t cs) : cs.length = 1 := by
  cases n with
  | zero => exact h.elim
  | succ n =>
    unfold RdT at h
    simp only [ht] at h
    rcases h with rfl | ⟨a, len, cap, rfl, _⟩ <;> rfl
theorem intsA_of {P : Program} {W : World} {n : Nat} {t e : TypeId} {v : Value} (ht : P.underlying t = some (.slice e)) (he : P.underlying e = some (.int .i64)) (hc : P.cellsOf e = 1) (h : RdT P W n t [v]) : ∃ (s : Sl) (l : List Int), v = s.val ∧ s.len ≤ 9223372036854775807 ∧ IntsA (oldA W) W s l :=
  rowOf_of inC ht hc (by decide) (fun _ => rfl) (fun m cs hr => by
    cases m with
    | zero => exact hr.elim
    | succ m =>
      unfold RdT at hr
      simp only [he] at hr
      obtain ⟨x, rfl, _⟩ := hr
      exact ⟨x, x, rfl, rfl⟩) h
end Go.Gp
