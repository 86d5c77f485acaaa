/- Pa: texts of ours, one behind the other, in short writing (spaces and names cut by a program of ours): Kk. -/
import Derived.Tactics2
import Derived.OrdersHeld
import Derived.Laws.Entries
import Derived.Laws.MakeOwn
import Derived.Laws.World
import Derived.KernelRfl
import Derived.Laws.Slices
import Derived.LaidEql
import Derived.Below
import Derived.Deep.Draws
import Derived.Deep.Slices
import Derived.Carry
import Derived.ProofKit
import Derived.SizedLaws
import Derived.Laws.BytesString
import Derived.Laws.Cells
import Derived.Laws.AppendOwn
import Derived.Lib.SlBytesConst
import Derived.Maps.AppendAt
set_option linter.unusedSimpArgs false
set_option linter.unusedVariables false
namespace Go.Gp
open Go
structure Sl where
 a:Option Addr
 len:Nat
 cap:Nat
inductive K1 where
 |int (k:IntKind)|bool|str|ptr|sl|Er (k:FloatKind)|any|LG
@[reducible] def K1.T:K1→Type
 |.int _=>Int
 |.bool=>Bool
 |.str=>ByteArray
 |.ptr=>Option Addr
 |.sl=>Sl
 |.Er _=>Nat
 |.any=>Value
 |.LG=>Addr
def K1.enc:(k:K1)→k.T→Value
 |.int k,n=>.int k n
 |.bool,b=>.bool b
 |.str,s=>.string s
 |.ptr,a=>.pointer a
 |.sl,s=>.slice s.a s.len s.cap
 |.Er k,n=>.float k n
 |.any,v=>v
 |.LG,a=>.pointer (some a)
def K1.dec:(k:K1)→Value→Option k.T
 |.int k,v=>match v with
  |.int k' n=>if k'=k then some n else none
  |_=>none
 |.bool,v=>match v with
  |.bool b=>some b
  |_=>none
 |.str,v=>match v with
  |.string s=>some s
  |_=>none
 |.ptr,v=>match v with
  |.pointer a=>some a
  |_=>none
 |.sl,v=>match v with
  |.slice a n c=>some ⟨a,n,c⟩
  |_=>none
 |.Er k,v=>match v with
  |.float k' n=>if k'=k then some n else none
  |_=>none
 |.any,v=>some v
 |.LG,v=>match v with
  |.pointer (some a)=>some a
  |_=>none
theorem K1.iR {k:K1} {v:Value} {x:k.T} (h:k.dec v=some x):k.enc x=v:=by
 cases k with
 |int k=>
  cases v<;>simp only[K1.dec] at h<;>first|(simp at h;done)|skip
  split at h
  ·rename_i hk;injection h with h;subst h;subst hk;rfl
  simp_all
 |Er k=>
  cases v<;>simp only[K1.dec] at h<;>first|(simp at h;done)|skip
  split at h
  ·rename_i hk;injection h with h;subst h;subst hk;rfl
  simp_all
 |any=>simp only[K1.dec] at h;injection h with h;subst h;rfl
 |LG=>
  cases v<;>simp only[K1.dec] at h<;>first|simp_all|skip
  rename_i a
  cases a with
  |none=>grind
  |some a=>injection h with h;subst h;rfl
 |bool=>cases v<;>simp only[K1.dec] at h<;>first|(injection h with h;subst h;rfl)|grind
 |str=>cases v<;>simp only[K1.dec] at h<;>first|(injection h with h;subst h;rfl)|grind
 |ptr=>cases v<;>simp only[K1.dec] at h<;>first|(injection h with h;subst h;rfl)|grind
 |sl=>cases v<;>simp only[K1.dec] at h<;>first|(injection h with h;subst h;rfl)|grind
@[reducible] def HL:List K1→Type
 |[]=>Unit
 |k::ks=>k.T×HL ks
def HL.enc:(ks:List K1)→HL ks→List Value
 |[],_=>[]
 |k::ks,x=>k.enc x.1::HL.enc ks x.2
inductive Ty where
 |one (k:K1)
 |agg (ks:List K1)
@[reducible] def Ty.T:Ty→Type
 |.one k=>k.T
 |.agg ks=>HL ks
def Ty.enc:(t:Ty)→t.T→Value
 |.one k,x=>k.enc x
 |.agg ks,x=>.agg ⟨HL.enc ks x⟩
@[reducible] def TL:List Ty→Type
 |[]=>Unit
 |t::ts=>t.T×TL ts
def TL.enc:(ts:List Ty)→TL ts→List Value
 |[],_=>[]
 |t::ts,x=>t.enc x.1::TL.enc ts x.2
def ma:List Value→Value
 |[v]=>v
 |vs=>.tuple ⟨vs⟩
def RT.enc (ts:List Ty) (x:TL ts):Value:=ma (TL.enc ts x)
def kV:TypeDesc→Bool
 |.struct _=>true
 |.array _ _=>true
 |_=>false
def VA:TypeDesc→Option K1
 |.int k=>some (.int k)
 |.bool=>some .bool
 |.string=>some .str
 |.pointer _=>some .ptr
 |.slice _=>some .sl
 |.float k=>some (.Er k)
 |.interface _=>some .any
 |.map _ _=>some .any
 |.func _ _ _=>some .any
 |_=>none
def flat (P:Program):Nat→TypeId→Option (List K1)
 |0,_=>none
 |n+1,t=>match P.underlying t with
  |some (.struct fs)=>fs.toList.foldr (fun f acc=>match flat P n f.type with
   |some a=>(match acc with|some b=>some (a++b)|none=>none)
   |none=>none) (some [])
  |some (.array m e)=>match flat P n e with
   |some a=>some (List.replicate m a).flatten
   |none=>none
  |some d=>(match VA d with|some k=>some [k]|none=>none)
  |none=>none
def alh (P:Program) (t:TypeId):Option Ty:=
 match P.underlying t with
 |none=>none
 |some d=>match kV d with
  |true=>(match flat P 8 t with|some ks=>some (.agg ks)|none=>none)
  |false=>(match VA d with|some k=>some (.one k)|none=>none)
def Km (P:Program):List TypeId→Option (List Ty)
 |[]=>some []
 |t::ts=>match alh P t with
  |none=>none
  |some x=>(match Km P ts with|some xs=>some (x::xs)|none=>none)
abbrev Fr:=List Value
def dM:List Value→Nat→Value
 |[],_=>undef
 |v::_,0=>v
 |_::l,n+1=>dM l n
def jJ:List Value→Nat→Value→List Value
 |[],_,_=>[]
 |_::l,0,v=>v::l
 |x::l,n+1,v=>x::jJ l n v
def iF (l:Fr) (d:Option Tmp) (v:Value):Fr:=
 match d with
 |some t=>jJ l t v
 |none=>l
def ev (l:Fr):Operand→Value
 |.tmp t=>dM l t
 |.const v=>v
 |.global g=>.pointer (some ⟨g,0,none⟩)
 |.func f=>.func (.func f) #[] #[]
def az (l:Fr):Act:={tmps:=⟨l⟩,defers:=[]}
theorem nY (l:List Value) (t:Nat):dM l t=l.getD t undef:=by
 induction l generalizing t with
 |nil=>rfl
 |cons v l ih=>cases t with
  |zero=>rfl
  |succ t=>simp[dM,ih]
theorem DY (l:List Value) (t:Nat) (v:Value):jJ l t v=l.set t v:=by
 induction l generalizing t with
 |nil=>rfl
 |cons x l ih=>cases t with
  |zero=>rfl
  |succ t=>simp[jJ,ih]
theorem Iy (l:List Value) (t:Nat) (v:Value):(jJ l t v).length=l.length:=by simp[DY]
theorem CP (l:List Value) (t:Nat):jJ l t (dM l t)=l:=by
 induction l generalizing t with
 |nil=>rfl
 |cons x l ih=>cases t with
  |zero=>rfl
  |succ t=>simp[jJ,dM,ih]
theorem kf (l:Fr):(az l).eval=ev l:=by
 funext x
 cases x with
 |tmp t=>simp[az,Act.eval,ev,nY]
 |const v=>rfl
 |global g=>rfl
 |func f=>rfl
theorem fq (l:Fr) (d:Option Tmp) (v:Value):(az l).put d v=az (iF l d v):=by
 cases d with
 |none=>rfl
 |some t=>simp[az,Act.put,iF,DY]
theorem qv (ops:Array Oper) (l:Fr) (j:Nat) {o:Oper} {d:Tmp} (hj:ops[j]?=some o) (hd:o.dst=some d):
 yielded ops (az l).tmps j=match dM l d with|.bool b=>some b|_=>none:=by
 unfold yielded
 simp only[hj,Option.bind_some,hd,az]
 rw[nY]
 simp only[List.getElem?_toArray,List.getD_eq_getElem?_getD]
 cases h:l[d]? with
 |none=>rfl
 |some v=>grind
def af (b:Bool) (A B:Prop):Prop:=match b with|true=>A|false=>B
def amL (a:Option Addr) (K:Addr→Prop):Prop:=match a with|some p=>K p|none=>False
def idx (a:Option Addr) (len:Nat) (n:Int) (K:Addr→Prop):Prop:=∃p,a=some p∧0≤n∧n<len∧K p
def ld1 (k:K1) (a:Addr) (W:World) (K:k.T→Prop):Prop:=∃x:k.T,W.cell? a=some (k.enc x)∧K x
def dS (W:World) (a:Addr):Nat→List Value→Prop
 |_,[]=>True
 |i,v::vs=>W.cell? (a.add i)=some v∧dS W a (i+1) vs
def ldN (ks:List K1) (a:Addr) (W:World) (K:HL ks→Prop):Prop:=∃x:HL ks,dS W a 0 (HL.enc ks x)∧K x
def VB (v:Value) (A:Prop):Prop:=match v.oneCell' with|true=>A|false=>False
def st1 (p:Addr) (v:Value) (W:World) (K:World→Prop):Prop:=(∃u,W.cell? p=some u)∧W.frozen? p=false∧K (W.setCell p v)
def stN (a:Addr):Nat→List Value→World→(World→Prop)→Prop
 |_,[],W,K=>K W
 |i,v::vs,W,K=>VB v (st1 (a.add i) v W fun W'=>stN a (i+1) vs W' K)
def Fx (o:Obj) (W:World) (K:Nat→World→Prop):Prop:=K W.heap.size (W.alloc o)
def mkG (e:TypeId) (z:Array Value) (size bytes:Nat) (n c:Int) (W:World) (K:Nat→World→Prop):Prop:=
 0≤n∧n≤c∧(bytes:Int)*c≤281474976710656∧c≤9223372036854775807∧K W.heap.size (W.alloc (.cells (madeCells z (c.toNat*size)) e))
def fL (P:Program) (f:FuncId) (args:List Value) (ts:List Ty) (W:World) (K:TL ts→World→Prop):Prop:=
 Calls P f ⟨args⟩ W fun e W'=>∃x:TL ts,e=.returned (RT.enc ts x)∧K x W'
def bj:Value→Bool
 |.nilIface=>true
 |_=>false
def cB:Value→Bool
 |.nilIface=>true
 |.iface _ _=>true
 |_=>false
def aax (P:Program) (x y:Value) (b:Bool):Prop:=
 (∃t k n m i,x=.iface t (.int k n)∧y=.iface t (.int k m)∧P.underlying t=some (.int k)∧P.info? t=some i∧i.comparable=true∧b=(n==m))∨
 (∃t v,x=.iface t v∧y=.nilIface∧b=false)∨(∃t v,x=.nilIface∧y=.iface t v∧b=false)∨
 (∃t v u v',x=.iface t v∧y=.iface u v'∧t≠u∧b=false)
def Qz (P:Program) (x y:Value) (K:Bool→Prop):Prop:=∃b,aax P x y b∧K b
def gA (k:IntKind) (a b:Int):Int:=a.fdiv (2^(min b.toNat k.bits))
def xZ (op:BinOp) (k:IntKind) (a b:Int) (K:Value→Prop):Prop:=
 match op with
 |.add=>K (.int k (k.wrap (a+b)))
 |.sub=>K (.int k (k.wrap (a - b)))
 |.mul=>K (.int k (k.wrap (a*b)))
 |.quo=>b≠0∧K (.int k (k.wrap (a.tdiv b)))
 |.rem=>b≠0∧K (.int k (a.tmod b))
 |.shr=>0≤b∧K (.int k (gA k a b))
 |.eql=>K (.bool (a==b))
 |.neq=>K (.bool (a !=b))
 |.lss=>K (.bool (decide (a<b)))
 |.leq=>K (.bool (decide (a≤b)))
 |.gtr=>K (.bool (decide (a>b)))
 |.geq=>K (.bool (decide (a≥b)))
 |_=>False
def x_ (op:BinOp) (a b:ByteArray) (K:Value→Prop):Prop:=
 match op with
 |.eql=>K (.bool (a.toList==b.toList))
 |.neq=>K (.bool (!(a.toList==b.toList)))
 |.lss=>K (.bool (Op.bytesLess a.toList b.toList))
 |_=>False
def fEq (k:FloatKind) (a b:Nat):Bool:=k.format.order a b==some .eq
def fLt (k:FloatKind) (a b:Nat):Bool:=k.format.order a b==some .lt
def fGt (k:FloatKind) (a b:Nat):Bool:=k.format.order a b==some .gt
def fLe (k:FloatKind) (a b:Nat):Bool:=k.format.order a b==some .lt||k.format.order a b==some .eq
def fGe (k:FloatKind) (a b:Nat):Bool:=k.format.order a b==some .gt||k.format.order a b==some .eq
def alj (k:FloatKind) (a:Nat):Nat:=Op.negFloat k a
def alk (k:FloatKind) (n:Int):Nat:=k.nearest n
def ya (op:BinOp) (k:FloatKind) (a b:Nat) (K:Value→Prop):Prop:=
 match op with
 |.eql=>K (.bool (fEq k a b))
 |.neq=>K (.bool (!fEq k a b))
 |.lss=>K (.bool (fLt k a b))
 |.leq=>K (.bool (fLe k a b))
 |.gtr=>K (.bool (fGt k a b))
 |.geq=>K (.bool (fGe k a b))
 |_=>False
def Jl (op:BinOp) (b:Bool) (K:Value→Prop):Prop:=
 match op with
 |.eql=>K (.bool b)
 |.neq=>K (.bool (!b))
 |_=>False
def o9:Operand→Bool
 |.const .nilIface=>true
 |_=>false
def Pd (P:Program) (op:BinOp) (t:TypeId) (x y:Operand) (vx vy:Value) (K:Value→Prop):Prop:=
 match P.underlying t with
 |some (.interface _)=>
  (match o9 y with
  |true=>cB vx=true∧Jl op (bj vx) K
  |false=>match o9 x with
   |true=>cB vy=true∧Jl op (bj vy) K
   |false=>Qz P vx vy fun b=>Jl op b K)
 |some (.pointer _)=>(match vx with
  |.pointer a=>(match vy with
   |.pointer none=>Jl op a.isNone K
   |.pointer (some _)=>(match a with|none=>Jl op false K|some _=>False)
   |_=>False)
  |_=>False)
 |some (.slice _)=>(match vx with
  |.slice a _ _=>(match vy with
   |.slice none _ _=>Jl op a.isNone K
   |_=>False)
  |_=>False)
 |some .bool=>(match vx with
  |.bool a=>(match vy with
   |.bool b=>Jl op (a==b) K
   |_=>False)
  |_=>False)
 |some (.int _)=>(match vx with
  |.int k a=>(match vy with
   |.int k' b=>if k'=k then xZ op k a b K else False
   |_=>False)
  |_=>False)
 |some .string=>(match vx with
  |.string a=>(match vy with
   |.string b=>x_ op a b K
   |_=>False)
  |_=>False)
 |some (.float _)=>(match vx with
  |.float k a=>(match vy with
   |.float k' b=>if k'=k then ya op k a b K else False
   |_=>False)
  |_=>False)
 |_=>False
def EJ (P:Program) (s d:TypeId) (v:Value) (K:Value→Prop):Prop:=
 match P.underlying s with
 |none=>False
 |some _=>match P.underlying d with
  |some (.int k)=>(match v with|.int _ n=>K (.int k (k.wrap n))|_=>False)
  |some .string=>(match v with|.string s=>K (.string s)|_=>False)
  |some (.float k)=>(match v with|.int _ n=>K (.float k (alk k n))|_=>False)
  |_=>False
def Y1 (op:BinOp) (d:Option TypeDesc):Bool:=
 match d with
 |some (.interface _)=>true
 |some (.pointer _)=>true
 |some (.slice _)=>true
 |some .bool=>true
 |some (.int _)=>(match op with|.shl=>false|.and=>false|.or=>false|.xor=>false|.andNot=>false|_=>true)
 |some .string=>(match op with|.add=>false|_=>true)
 |some (.float _)=>(match op with|.add=>false|.sub=>false|.mul=>false|.quo=>false|_=>true)
 |_=>false
def gI (P:Program):Op→Bool
 |.move _=>true
 |.assign _=>true
 |.pick _ _ _=>true
 |.nilCheck _=>true
 |.fieldAddr _ _ _=>true
 |.indexAddr _ _ _=>true
 |.binOp op t _ _ _=>Y1 op (P.underlying t)
 |.unOp .not _ _=>true
 |.unOp .neg t _=>(match P.underlying t with|some (.int _)=>true|some (.float _)=>true|_=>false)
 |.makeInterface _ _=>true
 |.extract _ _=>true
 |.convert s d _=>(match P.underlying s with
  |some (.int _)=>(match P.underlying d with|some (.int _)=>true|some (.float _)=>true|_=>false)
  |some .string=>(match P.underlying d with|some .string=>true|_=>false)
  |_=>false)
 |.call c=>(match c.callee with
  |.builtin .len=>(match c.argTypes.toList with
   |[t]=>(match P.underlying t with|some (.slice _)=>true|some .string=>true|_=>false)
   |_=>false)
  |_=>false)
 |.build t _=>(match P.underlying t with|some (.struct _)=>true|_=>false)
 |.makeFunc _ _ _=>true
 |.field t _ _=>(match P.underlying t with|some (.struct _)=>true|_=>false)
 |.slice t _ _ _ none=>(match P.underlying t with|some (.slice _)=>true|_=>false)
 |_=>false
def cj (a:Option Addr) (cap size:Nat) (l h:Int) (K:Sl→Prop):Prop:=
 0≤l∧l≤h∧h≤cap∧K ⟨if cap=l.toNat then a else a.map (·.add (l.toNat*size)),h.toNat - l.toNat,cap - l.toNat⟩
def p7 (o:Option Value) (d:Int):Option Int:=
 match o with
 |none=>some d
 |some (.int _ n)=>some n
 |_=>none
def aay (fs:Array Field) (P:Program) (z:Array Value) (ps:List (Nat×Value)) (K:Value→Prop):Prop:=
 match fs.toList.mapM fun f=>(P.info? f.type).map fun i=>(f.offset,i.size) with
 |none=>False
 |some pl=>match Instr.fill (fun i=>pl[i]?) z ps with
  |none=>False
  |some cs=>K (.agg cs)
def jq (P:Program) (op:Op) (ρ:Operand→Value) (K:Value→Prop):Prop:=
 match op with
 |.move x=>K (ρ x)
 |.assign x=>K (ρ x)
 |.pick c a b=>(match ρ c with
  |.bool b'=>af b' (K (ρ a)) (K (ρ b))
  |_=>False)
 |.nilCheck x=>(match ρ x with
  |.pointer a=>amL a fun p=>K (.pointer (some p))
  |_=>False)
 |.fieldAddr s x f=>(match ρ x with
  |.pointer (some a)=>(match P.underlying s with
   |some (.struct fs)=>(match fs[f]? with
    |some fd=>(match P.info? fd.type with
     |some i=>if i.size=0 then False else K (.pointer (some (a.add fd.offset)))
     |none=>False)
    |none=>False)
   |_=>False)
  |_=>False)
 |.indexAddr t x ix=>(match P.underlying t with
  |some (.slice e)=>(match P.info? e with
   |some i=>(match ρ x with
    |.slice a len _=>(match ρ ix with
     |.int _ n=>idx a len n fun p=>K (.pointer (some (p.add (n.toNat*i.size))))
     |_=>False)
    |_=>False)
   |none=>False)
  |_=>False)
 |.binOp op t x y _=>Pd P op t x y (ρ x) (ρ y) K
 |.unOp .not _ x=>(match ρ x with|.bool b=>K (.bool (!b))|_=>False)
 |.unOp .neg _ x=>(match ρ x with|.int k n=>K (.int k (k.wrap (0 - n)))|.float k n=>K (.float k (alj k n))|_=>False)
 |.makeInterface t x=>(match P.underlying t with
  |some (.interface _)=>False
  |some _=>K (.iface t (ρ x))
  |none=>False)
 |.extract x i=>(match ρ x with
  |.tuple vs=>(match vs[i]? with|some v=>K v|none=>False)
  |_=>False)
 |.convert s d x=>EJ P s d (ρ x) K
 |.call c=>(match c.callee with
  |.builtin .len=>(match c.argTypes.toList with
   |[t]=>(match c.args.toList with
    |[x]=>(match P.underlying t with
     |some (.slice _)=>(match ρ x with|.slice _ n _=>K (.int .i64 n)|_=>False)
     |some .string=>(match ρ x with|.string s=>K (.int .i64 s.size)|_=>False)
     |_=>False)
    |_=>False)
   |_=>False)
  |_=>False)
 |.build t ps=>(match P.underlying t with
  |some (.struct fs)=>(match P.info? t with
   |some i=>(match i.zero with
    |some z=>aay fs P z.cells (ps.toList.map fun p=>(p.1,ρ p.2)) K
    |none=>False)
   |none=>False)
  |_=>False)
 |.makeFunc fn a b=>K (.func fn (a.map ρ) (b.map ρ))
 |.field t x f=>(match P.underlying t with
  |some (.struct fs)=>(match fs[f]? with
   |some fd=>(match ρ x with
    |.agg cs=>(match P.underlying fd.type with
     |some d=>(match kV d with
      |true=>(match P.info? fd.type with
       |some i=>K (.agg (cs.extract fd.offset (fd.offset+i.size)))
       |none=>False)
      |false=>(match cs[fd.offset]? with
       |some v=>K v
       |none=>False))
     |none=>False)
    |_=>False)
   |none=>False)
  |_=>False)
 |.slice t x lo hi none=>(match P.underlying t with
  |some (.slice e)=>(match P.info? e with
   |some i=>(match ρ x with
    |.slice a len cap=>(match p7 (lo.map ρ) 0 with
     |some l=>(match p7 (hi.map ρ) len with
      |some h=>cj a cap i.size l h fun r=>K (.slice r.a r.len r.cap)
      |none=>False)
     |none=>False)
    |_=>False)
   |none=>False)
  |_=>False)
 |_=>False
theorem aT {P:Program} {t:TypeId} {d:TypeDesc} (h:P.underlying t=some d) (w:World):(underlying t).run P w=.ok d w:=by
 simp[underlying,h]
theorem j9 {P:Program} {t:TypeId} {i:TypeInfo} (h:P.info? t=some i) (w:World):(typeInfo t).run P w=.ok i w:=by
 simp[typeInfo,h]
theorem cD {P:Program} {t:TypeId} {i:TypeInfo} (h:P.info? t=some i) (w:World):(sizeOf t).run P w=.ok i.size w:=by
 simp[sizeOf,j9 h]
def wS (P:Program) (s:Sem Value) (v:Value):Prop:=∀W,s.run P W=.ok v W
theorem ES {P:Program} {op:BinOp} {k:IntKind} {a b:Int} {t:TypeId} {K:Value→Prop} (h:xZ op k a b K):
 ∃v,wS P (binOp op t (.int k a) (.int k b)) v∧K v:=by
 by_cases fH:op=.shr
 ·subst fH
  exact⟨_,fun W=>by
   show(Op.shift .shr k a k b).run P W=_
   unfold Op.shift
   rw[if_neg (Int.not_lt.2 h.1)]
   rfl,h.2⟩
 cases op<;>simp only[xZ] at h<;>first
  |exact absurd rfl fH
  |exact h.elim
  |exact⟨_,fun W=>by simp[binOp,Op.intArith,Op.intCmp],h⟩
  |exact⟨_,fun W=>by simp[binOp,Op.intDiv,h.1],h.2⟩
theorem ET {P:Program} {op:BinOp} {k:FloatKind} {a b:Nat} {t:TypeId} {K:Value→Prop} (h:ya op k a b K):
 ∃v,wS P (binOp op t (.float k a) (.float k b)) v∧K v:=by
 cases op<;>simp only[ya] at h<;>first
  |exact h.elim
  |exact⟨_,fun W=>by simp[binOp,Op.floatCmp,fEq,fLt,fGt,fLe,fGe,bne],h⟩
theorem EU {P:Program} {op:BinOp} {a b:ByteArray} {t:TypeId} {K:Value→Prop} (h:x_ op a b K):
 ∃v,wS P (binOp op t (.string a) (.string b)) v∧K v:=by
 cases op<;>simp only[x_] at h<;>first
  |exact h.elim
  |exact⟨_,fun W=>by rfl,h⟩
theorem jN {P:Program} {op:BinOp} {b:Bool} {t:TypeId} {x y:Value} {K:Value→Prop} (h:Jl op b K)
 (he:∀W,(Op.equal t x y).run P W=.ok b W) (hx:binOp .eql t x y=(do pure (.bool (←Op.equal t x y)))) (hy:binOp .neq t x y=(do pure (.bool (!(←Op.equal t x y))))):
 ∃v,wS P (binOp op t x y) v∧K v:=by
 cases op<;>simp only[Jl] at h<;>first
  |exact h.elim
  |exact⟨_,fun W=>by simp_all,h⟩
  |exact⟨_,fun W=>by simp_all,h⟩
section
variable {P:Program} (W:World) (d:Nat) {t:TypeId}
theorem jr {e:TypeId} (ht:P.underlying t=some (.pointer e)) (a:Option Addr):(Op.equalIn (d+1) t (.pointer a) (.pointer none)).run P W=.ok a.isNone W:=by
 cases a<;>simp[Op.equalIn,aT ht]
theorem EV {e:TypeId} (ht:P.underlying t=some (.pointer e)) (b:Addr):(Op.equalIn (d+1) t (.pointer none) (.pointer (some b))).run P W=.ok false W:=by
 simp[Op.equalIn,aT ht]
theorem v8 {e:TypeId} (ht:P.underlying t=some (.slice e)) (a:Option Addr) (n c n' c':Nat):(Op.equalIn (d+1) t (.slice a n c) (.slice none n' c')).run P W=.ok a.isNone W:=by
 cases a<;>simp[Op.equalIn,aT ht]
theorem PJ (ht:P.underlying t=some .bool) (a b:Bool):(Op.equalIn (d+1) t (.bool a) (.bool b)).run P W=.ok (a==b) W:=by
 simp[Op.equalIn,aT ht]
theorem ux {ms:Array (String×TypeId)} (ht:P.underlying t=some (.interface ms)) (x:Value) (hx:cB x=true):(Op.equalIn (d+1) t x .nilIface).run P W=.ok (bj x) W:=by
 cases x<;>simp[cB] at hx<;>simp[Op.equalIn,aT ht,bj]
theorem uy {ms:Array (String×TypeId)} (ht:P.underlying t=some (.interface ms)) (x:Value) (hx:cB x=true):(Op.equalIn (d+1) t .nilIface x).run P W=.ok (bj x) W:=by
 cases x<;>simp[cB] at hx<;>simp[Op.equalIn,aT ht,bj]
theorem IE {ms:Array (String×TypeId)} (ht:P.underlying t=some (.interface ms)) (u u':TypeId) (v v':Value) (bb:u≠u'):(Op.equalIn (d+1) t (.iface u v) (.iface u' v')).run P W=.ok false W:=by
 simp[Op.equalIn,aT ht,bb]
theorem EW {ms:Array (String×TypeId)} (ht:P.underlying t=some (.interface ms)) (u:TypeId) (k:IntKind) (n m:Int) {i:TypeInfo} (hu:P.underlying u=some (.int k)) (hi:P.info? u=some i) (hc:i.comparable=true):
 (Op.equalIn (d+2) t (.iface u (.int k n)) (.iface u (.int k m))).run P W=.ok (n==m) W:=by
 simp[Op.equalIn,aT ht,aT hu,j9 hi,hc]
end
theorem IF {P:Program} {t:TypeId} {ms:Array (String×TypeId)} (ht:P.underlying t=some (.interface ms)) {x y:Value} {b:Bool} (h:aax P x y b):
 (∀W,(Op.equal t x y).run P W=.ok b W)∧(binOp .eql t x y=(do pure (.bool (←Op.equal t x y))))∧(binOp .neq t x y=(do pure (.bool (!(←Op.equal t x y)))))∧
 ∀op u v W,(eqGuard op t u v x y).run P W=.ok () W:=by
 rcases h with⟨u,k,n,m,i,rfl,rfl,hu,hi,hc,rfl⟩|⟨u,v,rfl,rfl,rfl⟩|⟨u,v,rfl,rfl,rfl⟩|⟨u,v,u',v',rfl,rfl,bb,rfl⟩
 ·refine⟨fun W=>?_,rfl,rfl,fun op u v W=>by unfold eqGuard;simp⟩
  exact EW W 9998 ht u k n m hu hi hc
 ·refine⟨fun W=>?_,rfl,rfl,fun op u v W=>by unfold eqGuard;simp⟩
  exact ux W 9999 ht _ rfl
 ·refine⟨fun W=>?_,rfl,rfl,fun op u v W=>by unfold eqGuard;simp⟩
  exact uy W 9999 ht _ rfl
 ·refine⟨fun W=>?_,rfl,rfl,fun op u v W=>by unfold eqGuard;simp⟩
  exact IE W 9999 ht _ _ _ _ bb
theorem dE {P:Program} {op:BinOp} {t:TypeId} {x y:Operand} {a b:Value} (W:World)
 (h1:a=.nilIface→b=.nilIface→o9 x=true∨o9 y=true) (h2:∀cs,a≠.agg cs):(eqGuard op t x y a b).run P W=.ok () W:=by
 unfold eqGuard
 cases op<;>first|rfl|skip
 all_goals
  simp only[]
  split
  ·rfl
  ·split
   ·rcases h1 rfl rfl with h|h
    ·cases x<;>simp_all[o9]
    ·cases y<;>simp_all[o9]
   all_goals simp_all
theorem K5 {P:Program} {op:BinOp} {t:TypeId} {x y:Operand} {ρ:Operand→Value} {K:Value→Prop} (cL:∀v,ρ (.const v)=v) (h:Pd P op t x y (ρ x) (ρ y) K):
 ∃v,wS P (do eqGuard op t x y (ρ x) (ρ y);binOp op t (ρ x) (ρ y)) v∧K v:=by
 unfold Pd at h
 split at h
 ·rename_i ms ht
  split at h
  ·rename_i hy
   have ey:ρ y=.nilIface:=by
    cases y<;>simp only[o9] at hy<;>first|simp_all|skip
    grind
   obtain⟨h1,h2⟩:=h
   rw[ey]
   generalize ρ x=vx at*
   have hg:∀W,(eqGuard op t x y vx .nilIface).run P W=.ok () W:=fun W=>dE W (fun _ _=>.inr hy) (fun cs hc=>by subst hc;simp[cB] at h1)
   have he:∀W,(Op.equal t vx .nilIface).run P W=.ok (bj vx) W:=fun W=>ux W 9999 ht _ h1
   obtain⟨v,hv,hk⟩:=jN (P:=P) h2 he (by cases vx<;>simp[cB] at h1<;>rfl) (by cases vx<;>simp[cB] at h1<;>rfl)
   exact⟨v,fun W=>by simp[hg,hv W],hk⟩
  ·split at h
   ·rename_i hx
    have ex:ρ x=.nilIface:=by
     cases x<;>simp only[o9] at hx<;>first|simp_all|skip
     grind
    obtain⟨h1,h2⟩:=h
    rw[ex]
    generalize ρ y=vy at*
    have hg:∀W,(eqGuard op t x y .nilIface vy).run P W=.ok () W:=fun W=>dE W (fun _ _=>.inl hx) (fun cs hc=>by grind)
    have he:∀W,(Op.equal t .nilIface vy).run P W=.ok (bj vy) W:=fun W=>uy W 9999 ht _ h1
    obtain⟨v,hv,hk⟩:=jN (P:=P) h2 he (by rfl) (by rfl)
    exact⟨v,fun W=>by simp[hg,hv W],hk⟩
   ·obtain⟨b,hb,h2⟩:=h
    obtain⟨e1,e2,e3,e4⟩:=IF ht hb
    obtain⟨v,hv,hk⟩:=jN (P:=P) h2 e1 e2 e3
    exact⟨v,fun W=>by simp[e4,hv W],hk⟩
 ·rename_i e ht
  split at h<;>first|exact h.elim|skip
  rename_i a hx
  rw[hx]
  split at h<;>first|exact h.elim|skip
  ·rename_i hy
   rw[hy]
   have hg:∀W,(eqGuard op t x y (.pointer a) (.pointer none)).run P W=.ok () W:=fun W=>dE W (fun h=>by simp) (fun cs hc=>by grind)
   have he:∀W,(Op.equal t (.pointer a) (.pointer none)).run P W=.ok a.isNone W:=fun W=>jr W 9999 ht _
   obtain⟨v,hv,hk⟩:=jN (P:=P) h he rfl rfl
   exact⟨v,fun W=>by simp[hg,hv W],hk⟩
  ·rename_i b hy
   rw[hy]
   split at h<;>first|exact h.elim|skip
   have hg:∀W,(eqGuard op t x y (.pointer none) (.pointer (some b))).run P W=.ok () W:=fun W=>dE W (fun h=>by simp) (fun cs hc=>by grind)
   have he:∀W,(Op.equal t (.pointer none) (.pointer (some b))).run P W=.ok false W:=fun W=>EV W 9999 ht _
   obtain⟨v,hv,hk⟩:=jN (P:=P) h he rfl rfl
   exact⟨v,fun W=>by simp[hg,hv W],hk⟩
 ·rename_i e ht
  split at h<;>first|exact h.elim|skip
  rename_i a n c hx
  rw[hx]
  split at h<;>first|exact h.elim|skip
  rename_i n' c' hy
  rw[hy]
  have hg:∀W,(eqGuard op t x y (.slice a n c) (.slice none n' c')).run P W=.ok () W:=fun W=>dE W (fun h=>by simp) (fun cs hc=>by grind)
  have he:∀W,(Op.equal t (.slice a n c) (.slice none n' c')).run P W=.ok a.isNone W:=fun W=>v8 W 9999 ht _ _ _ _ _
  obtain⟨v,hv,hk⟩:=jN (P:=P) h he rfl rfl
  exact⟨v,fun W=>by simp[hg,hv W],hk⟩
 ·rename_i ht
  split at h<;>first|exact h.elim|skip
  rename_i a hx
  rw[hx]
  split at h<;>first|exact h.elim|skip
  rename_i b hy
  rw[hy]
  have hg:∀W,(eqGuard op t x y (.bool a) (.bool b)).run P W=.ok () W:=fun W=>dE W (fun h=>by simp) (fun cs hc=>by grind)
  have he:∀W,(Op.equal t (.bool a) (.bool b)).run P W=.ok (a==b) W:=fun W=>PJ W 9999 ht _ _
  obtain⟨v,hv,hk⟩:=jN (P:=P) h he rfl rfl
  exact⟨v,fun W=>by simp[hg,hv W],hk⟩
 ·rename_i k ht
  split at h<;>first|exact h.elim|skip
  rename_i k1 a hx
  rw[hx]
  split at h<;>first|exact h.elim|skip
  rename_i k2 b hy
  rw[hy]
  split at h<;>first|exact h.elim|skip
  rename_i hk
  subst hk
  obtain⟨v,hv,hk⟩:=ES (P:=P) (t:=t) h
  exact⟨v,fun W=>by simp[dE (P:=P) (op:=op) (t:=t) (x:=x) (y:=y) (a:=.int k2 a) (b:=.int k2 b) W (fun h=>by simp) (fun cs hc=>by grind),hv W],hk⟩
 ·rename_i ht
  split at h<;>first|exact h.elim|skip
  rename_i a hx
  rw[hx]
  split at h<;>first|exact h.elim|skip
  rename_i b hy
  rw[hy]
  obtain⟨v,hv,hk⟩:=EU (P:=P) (t:=t) h
  exact⟨v,fun W=>by simp[dE (P:=P) (op:=op) (t:=t) (x:=x) (y:=y) (a:=.string a) (b:=.string b) W (fun h=>by simp) (fun cs hc=>by grind),hv W],hk⟩
 ·rename_i k ht
  split at h<;>first|exact h.elim|skip
  rename_i k1 a hx
  rw[hx]
  split at h<;>first|exact h.elim|skip
  rename_i k2 b hy
  rw[hy]
  split at h<;>first|exact h.elim|skip
  rename_i hk
  subst hk
  obtain⟨v,hv,hk⟩:=ET (P:=P) (t:=t) h
  exact⟨v,fun W=>by simp[dE (P:=P) (op:=op) (t:=t) (x:=x) (y:=y) (a:=.float k2 a) (b:=.float k2 b) W (fun h=>by simp) (fun cs hc=>by grind),hv W],hk⟩
 simp_all
theorem IG {P:Program} {s d:TypeId} {v:Value} {K:Value→Prop} (h:EJ P s d v K):∃u,wS P (convert s d v) u∧K u:=by
 unfold EJ at h
 split at h
 ·simp_all
 ·rename_i ds hs
  split at h
  ·rename_i k hd
   split at h<;>first|exact h.elim|skip
   exact⟨_,fun W=>by simp[convert,aT hs,aT hd,Conv.intToInt],h⟩
  ·rename_i hd
   split at h<;>first|exact h.elim|skip
   exact⟨_,fun W=>by simp[convert,aT hs,aT hd],h⟩
  ·rename_i k hd
   split at h<;>first|exact h.elim|skip
   exact⟨_,fun W=>by cases ds<;>simp[convert,aT hs,aT hd,Conv.intToFloat,alk],h⟩
  simp_all
theorem ml {P:Program} (W:World):∀(l:List Field) (pl:List (Nat×Nat)),(l.mapM fun f=>(P.info? f.type).map fun i=>(f.offset,i.size))=some pl→
 (l.mapM (m:=Sem) fun f=>do pure (f.offset,←sizeOf f.type)).run P W=.ok pl W
 |[],pl,h=>by simp_all
 |f::l,pl,h=>by
  simp only[List.mapM_cons,Option.bind_eq_bind,Option.pure_def] at h
  cases hi:P.info? f.type with
  |none=>simp_all
  |some i=>
   simp only[hi,Option.map_some,Option.bind_some] at h
   cases hm:(l.mapM fun f=>(P.info? f.type).map fun i=>(f.offset,i.size)) with
   |none=>simp_all
   |some pl'=>
    simp only[hm,Option.bind_some,Option.some.injEq] at h
    subst h
    simp only[List.mapM_cons,Sem.run_bind,cD hi,Result.andThen_ok,Sem.run_pure,ml W l pl' hm]
theorem mu {P:Program} {W:World} {len cap:Nat} {lo hi:Option Value} {l u:Int} (hl:p7 lo 0=some l) (hu:p7 hi len=some u) (h0:0≤l) (h1:l≤u) (h2:u≤cap):
 (Instr.sliceBounds true len cap lo hi none).run P W=.ok (l.toNat,u.toNat,cap) W:=by
 have eu:(u.toNat:Int)=u:=Int.toNat_of_nonneg (by omega)
 unfold p7 at hl hu
 split at hu
 ·injection hu with hu;subst hu
  split at hl
  ·injection hl with hl;subst hl
   rfl
  ·injection hl with hl;subst hl
   simp[Instr.sliceBounds,run_sliceBound W _ _ len _ h0 h1]
  simp_all
 ·injection hu with hu;subst hu
  rename_i k n
  have h3:0≤n:=by omega
  split at hl
  ·injection hl with hl;subst hl
   simp[Instr.sliceBounds,run_sliceBound W _ n cap _ h3 h2]
  ·injection hl with hl;subst hl
   rename_i k2 m
   simp[Instr.sliceBounds,run_sliceBound W _ n cap _ h3 h2,run_sliceBound W k2 m n.toNat _ h0 (by omega)]
  simp_all
 simp_all
theorem qp {P:Program} {op:Op} {ρ:Operand→Value} {K:Value→Prop} (cL:∀v,ρ (.const v)=v) (hp:gI P op=true) (h:jq P op ρ K)
 (dst:Option Tmp) (type:TypeId) (pos:String) (after:Array Edge) (guard:Option (Nat×Bool)):
 ∃v,(∀W,(execOp ρ ⟨dst,op,type,pos,after,guard⟩).run P W=.ok (.value v) W)∧K v:=by
 have conv:∀{s:Sem Value} {v:Value},wS P s v→∀W,(do pure (.value (←s)):Sem Next).run P W=.ok (.value v) W:=fun{s v} hv W=>by simp[hv W]
 cases op<;>simp only[gI] at hp<;>first|(cases hp;done)|skip
 case move x=>exact⟨_,fun W=>rfl,h⟩
 case assign x=>exact⟨_,fun W=>rfl,h⟩
 case pick c a b=>
  simp only[jq] at h
  split at h<;>first|exact h.elim|skip
  rename_i b' hb
  cases b' with
  |true=>exact⟨_,fun W=>by simp[execOp,hb,asBool],h⟩
  |false=>exact⟨_,fun W=>by simp[execOp,hb,asBool],h⟩
 case nilCheck x=>
  simp only[jq] at h
  split at h<;>first|exact h.elim|skip
  rename_i a ha
  cases a with
  |none=>exact h.elim
  |some p=>exact⟨_,fun W=>by simp[execOp,ha],h⟩
 case fieldAddr s x f=>
  simp only[jq] at h
  split at h<;>first|exact h.elim|skip
  rename_i a ha
  split at h<;>first|exact h.elim|skip
  rename_i fs hs
  split at h<;>first|exact h.elim|skip
  rename_i fd hf
  split at h<;>first|exact h.elim|skip
  rename_i i hi
  split at h<;>first|exact h.elim|skip
  rename_i hz
  exact⟨_,conv (s:=Instr.fieldAt s (ρ x) f) fun W=>by simp[Instr.fieldAt,aT hs,hf,ha,Instr.sureAddr,fieldPlace,cD hi,hz],h⟩
 case indexAddr t x ix=>
  simp only[jq] at h
  split at h<;>first|exact h.elim|skip
  rename_i e ht
  split at h<;>first|exact h.elim|skip
  rename_i i hi
  split at h<;>first|exact h.elim|skip
  rename_i a n c ha
  split at h<;>first|exact h.elim|skip
  rename_i k m hix
  obtain⟨p,rfl,h0,h1,hk⟩:=h
  exact⟨_,conv (s:=Instr.indexAt t (ρ x) (ρ ix)) fun W=>by simp[Instr.indexAt,aT ht,ha,hix,asIntOf,cD hi,h0,h1],hk⟩
 case binOp op t x y yt=>
  obtain⟨v,hv,hk⟩:=K5 (P:=P) cL h
  exact⟨v,conv hv,hk⟩
 case unOp op t x=>
  cases op<;>first|(simp at hp;done)|skip
  all_goals
   simp only[jq] at h
   split at h<;>first|exact h.elim|skip
   all_goals
    rename_i hx
    refine⟨_,conv (s:=Op.unary _ (ρ x)) fun W=>?_,h⟩
    simp[hx,Op.unary,Op.intArith,alj]
    try rfl
 case makeInterface t x=>
  simp only[jq] at h
  split at h<;>first|exact h.elim|skip
  rename_i d hn ht
  refine⟨_,conv (s:=Instr.makeInterface t (ρ x)) fun W=>?_,h⟩
  simp only[Instr.makeInterface,Sem.run_bind,aT ht,Result.andThen_ok]
  rfl
 case extract x i=>
  simp only[jq] at h
  split at h<;>first|exact h.elim|skip
  rename_i vs hx
  split at h<;>first|exact h.elim|skip
  rename_i v hv
  exact⟨_,conv (s:=Instr.extract (ρ x) i) fun W=>by simp[Instr.extract,hx,hv],h⟩
 case convert s d x=>
  obtain⟨v,hv,hk⟩:=IG h
  exact⟨v,conv hv,hk⟩
 case call c=>
  obtain⟨callee,args,argTypes⟩:=c
  simp only[jq] at h
  split at h<;>first|exact h.elim|skip
  split at h<;>first|exact h.elim|skip
  rename_i t ht
  split at h<;>first|exact h.elim|skip
  rename_i x hx
  obtain rfl:argTypes=#[t]:=by grind
  obtain rfl:args=#[x]:=by grind
  split at h<;>first|exact h.elim|skip
  ·rename_i e hu
   split at h<;>first|exact h.elim|skip
   rename_i a n cc ha
   exact⟨_,fun W=>by simp[execOp,resolve,invoke,builtin,Builtin.len_,aT hu,ha,goInt],h⟩
  ·rename_i hu
   split at h<;>first|exact h.elim|skip
   rename_i s ha
   exact⟨_,fun W=>by simp[execOp,resolve,invoke,builtin,Builtin.len_,aT hu,ha,goInt],h⟩
 case build t ps=>
  simp only[jq] at h
  split at h<;>first|exact h.elim|skip
  rename_i fs hs
  split at h<;>first|exact h.elim|skip
  rename_i i hi
  split at h<;>first|exact h.elim|skip
  rename_i z hz
  unfold aay at h
  split at h<;>first|simp_all|skip
  rename_i pl o7
  split at h<;>first|simp_all|skip
  rename_i cs gU
  refine⟨.agg cs,fun W=>?_,h⟩
  have hm:((fs.mapM (m:=Sem) fun f=>do pure (f.offset,←sizeOf f.type))).run P W=.ok ⟨pl⟩ W:=by
   rw[Array.mapM_eq_mapM_toList]
   simp only[Sem.run_map,ml W _ _ o7,Result.andThen_ok]
  simp only[execOp,Array.toList_map,Instr.build,Sem.run_bind,zeroValue,j9 hi,Result.andThen_ok,hz,aT hs,Sem.run_pure,hm]
  simp_all
 case slice t x lo hi mx=>
  cases mx with
  |some m=>simp_all
  |none=>
   simp only[jq] at h
   split at h<;>first|exact h.elim|skip
   rename_i e ht
   split at h<;>first|exact h.elim|skip
   rename_i i jc
   split at h<;>first|exact h.elim|skip
   rename_i a len cap ha
   split at h<;>first|exact h.elim|skip
   rename_i l hl
   split at h<;>first|exact h.elim|skip
   rename_i u hu
   obtain⟨h0,h1,h2,hk⟩:=h
   refine⟨_,conv (s:=Instr.sliceAt t (ρ x) (lo.map ρ) (hi.map ρ) none) fun W=>?_,hk⟩
   have eu:(u.toNat:Int)=u:=Int.toNat_of_nonneg (by omega)
   have hb:=mu (P:=P) (W:=W) hl hu h0 h1 h2
   have hz:=cD (w:=W) jc
   simp only[Instr.sliceAt,Sem.run_bind,aT ht,Result.andThen_ok,ha,Instr.slice,hb,hz,Sem.run_pure]
 case makeFunc fn a b=>exact⟨_,fun W=>by rfl,h⟩
 case field t x f=>
  simp only[jq] at h
  split at h<;>first|exact h.elim|skip
  rename_i fs hs
  split at h<;>first|exact h.elim|skip
  rename_i fd hf
  split at h<;>first|exact h.elim|skip
  rename_i cs hx
  split at h<;>first|exact h.elim|skip
  rename_i d hd
  have ha:∀W,(isAgg fd.type).run P W=.ok (kV d) W:=fun W=>by
   simp only[isAgg,Sem.run_bind,aT hd,Result.andThen_ok];cases d<;>rfl
  split at h
  ·rename_i u6
   split at h<;>first|exact h.elim|skip
   rename_i i hi
   exact⟨_,conv (s:=Instr.field t (ρ x) f) fun W=>by simp[Instr.field,aT hs,hf,hx,asAgg,part,ha,u6,cD hi],h⟩
  ·rename_i u6
   split at h<;>first|exact h.elim|skip
   rename_i v hv
   exact⟨_,conv (s:=Instr.field t (ρ x) f) fun W=>by simp[Instr.field,aT hs,hf,hx,asAgg,part,ha,u6,hv],h⟩
def ldG (P:Program) (t:TypeId) (a:Addr) (W:World) (K:Value→Prop):Prop:=
 match P.underlying t with
 |none=>False
 |some d=>match kV d with
  |true=>(match flat P 8 t with
   |some ks=>(match P.info? t with
    |some i=>if i.size=ks.length then ldN ks a W fun x=>K (.agg ⟨HL.enc ks x⟩) else False
    |none=>False)
   |none=>False)
  |false=>(match VA d with
   |some k=>ld1 k a W fun x=>K (k.enc x)
   |none=>False)
def CQ (P:Program) (t:TypeId) (v:Value) (K:List Value→Prop):Prop:=
 match P.underlying t with
 |none=>False
 |some d=>match kV d with
  |true=>(match v with
   |.agg cs=>K cs.toList
   |_=>False)
  |false=>VB v (K [v])
def stG (P:Program) (t:TypeId) (a:Addr) (v:Value) (W:World) (K:World→Prop):Prop:=
 match P.info? t with
 |none=>False
 |some i=>CQ P t v fun cs=>if cs.length=i.size then stN a 0 cs W K else False
def aaz (size:Nat) (z:Array Value) (n:Nat) (ps:List (Nat×Value)) (K:Array Value→Prop):Prop:=
 match Instr.fill (fun i=>some (i*size,size)) ((Array.range n).map (z[·%z.size]!)) ps with
 |none=>False
 |some cs=>K cs
def EX (o:Oper) (ρ:Operand→Value):Option (Sem Value):=
 match o.op with
 |.binOp op t x y _=>some (do eqGuard op t x y (ρ x) (ρ y);binOp op t (ρ x) (ρ y))
 |.unOp op _ x=>some (Op.unary op (ρ x))
 |.convert s d x=>some (convert s d (ρ x))
 |.slice t x lo hi mx=>some (Instr.sliceAt t (ρ x) (lo.map ρ) (hi.map ρ) (mx.map ρ))
 |.index t x i=>some (Instr.index t (ρ x) (ρ i))
 |.indexAddr t x ix=>some (Instr.indexAt t (ρ x) (ρ ix))
 |.build t ps=>some (Instr.build t (ps.map fun(i,x)=>(i,ρ x)))
 |.field t x f=>some (Instr.field t (ρ x) f)
 |.makeMap t r=>some (Instr.makeMap t (r.map ρ))
 |.lookup t x i ok=>some (Instr.lookup t (ρ x) (ρ i) ok)
 |.mapEntry t m k=>some (Instr.mapEntry t (ρ m) (ρ k))
 |.range t x=>some (Instr.range t (ρ x))
 |.next it s=>some (Instr.next (ρ it) s o.type)
 |.entry it=>some (Instr.entry (ρ it))
 |.typeAssert x t u ok=>some (Instr.typeAssert (ρ x) t u ok)
 |.call c=>(match c.callee with
  |.builtin .append=>some (Builtin.append_ c.argTypes o.type (c.args.map ρ))
  |.builtin .copy=>some (Builtin.copy_ c.argTypes o.type (c.args.map ρ))
  |.builtin .cap=>some (Builtin.cap_ c.argTypes o.type (c.args.map ρ))
  |.builtin .len=>some (Builtin.len_ c.argTypes o.type (c.args.map ρ))
  |.builtin .min=>some (Builtin.min_ c.argTypes o.type (c.args.map ρ))
  |.builtin .max=>some (Builtin.max_ c.argTypes o.type (c.args.map ρ))
  |.builtin .delete=>some (Builtin.delete_ c.argTypes o.type (c.args.map ρ))
  |.builtin .clear=>some (Builtin.clear_ c.argTypes o.type (c.args.map ρ))
  |_=>none)
 |_=>none
def Fy (P:Program) (g:FuncId) (args:List Value) (ts:List Ty) (W:World) (K:TL ts→World→Prop):Prop:=
 ∃x:TL ts,∃W',(callFunc g ⟨args⟩).run P W=.ok (.value (RT.enc ts x)) W'∧K x W'
inductive WH where
 |val (t:Ty)
 |ma (ts:List Ty)
@[reducible] def WH.T:WH→Type
 |.val t=>t.T
 |.ma ts=>TL ts
def WH.enc:(t:WH)→t.T→Value
 |.val t,x=>t.enc x
 |.ma ts,x=>.tuple ⟨TL.enc ts x⟩
def QK (P:Program) (t:TypeId):Option WH:=
 match P.underlying t with
 |some (.tuple ts)=>(match Km P ts.toList with|some ts=>some (.ma ts)|none=>none)
 |_=>match alh P t with|some t=>some (.val t)|none=>none
def bG (P:Program) (t:WH) (s:Sem Value) (W:World) (K:t.T→World→Prop):Prop:=
 ∃x:t.T,∃W',s.run P W=.ok (t.enc x) W'∧K x W'
def acV (P:Program) (o:Oper) (ρ:Operand→Value) (W:World) (K:Value→World→Prop):Prop:=
 match o.op with
 |.load t a=>(match ρ a with
  |.pointer (some p)=>ldG P t p W fun v=>K v W
  |_=>False)
 |.store t a x=>(match ρ a with
  |.pointer (some p)=>stG P t p (ρ x) W fun W'=>K undef W'
  |_=>False)
 |.alloc t=>(match P.info? t with
  |some i=>(match i.zero with
   |some z=>Fx (.cells z.cells t) W fun b W'=>K (.pointer (some ⟨b,0,none⟩)) W'
   |none=>False)
  |none=>False)
 |.box t x=>CQ P t (ρ x) fun cs=>Fx (.cells ⟨cs⟩ t) W fun b W'=>K (.pointer (some ⟨b,0,none⟩)) W'
 |.buildSlice t len ps=>(match P.underlying t with
  |some (.slice e)=>(match P.info? e with
   |some i=>(match i.zero with
    |some z=>if len*i.size>2^24 then False else if len*i.size=0 then(match ps.toList with|[]=>Fx (.cells #[] e) W fun b W'=>K (.slice (some ⟨b,0,none⟩) len len) W'|_::_=>False) else
     aaz i.size z.cells (len*i.size) (ps.toList.map fun p=>(p.1,ρ p.2)) fun cs=>
      Fx (.cells cs e) W fun b W'=>K (.slice (some ⟨b,0,none⟩) len len) W'
    |none=>False)
   |none=>False)
  |_=>False)
 |.makeSlice t l c=>(match P.underlying t with
  |some (.slice e)=>(match P.info? e with
   |some i=>(match i.zero with
    |some z=>(match ρ l with
     |.int _ n=>(match ρ c with
      |.int _ m=>mkG e z.cells i.size i.bytes n m W fun b W'=>K (.slice (some ⟨b,0,none⟩) n.toNat m.toNat) W'
      |_=>False)
     |_=>False)
    |none=>False)
   |none=>False)
  |_=>False)
 |.mapUpdate t m k x=>(∃W',(Instr.mapUpdate t (ρ m) (ρ k) (ρ x)).run P W=.ok () W'∧K undef W')
 |.insert t m k x=>(∃W',(Instr.mapUpdate t (ρ m) (ρ k) (ρ x)).run P W=.ok () W'∧K undef W')
 |.entryStore t m s x=>(∃W',(Instr.entryStore t (ρ m) (ρ s) (ρ x)).run P W=.ok () W'∧K undef W')
 |.call c=>(match c.callee with
  |.value f=>(match ρ f with
   |.func (.func g) first cap=>(match P.funcs[g]? with
    |some fn=>(match fn.body with
     |some _=>if fn.name== "runtime.NumGoroutine" then False else(match Km P fn.resultTypes.toList with
      |some ts=>fL P g (first.toList++(c.args.toList.map ρ++cap.toList)) ts W fun x W'=>K (RT.enc ts x) W'
      |none=>False)
     |none=>(match Km P fn.resultTypes.toList with
      |some ts=>Fy P g (first.toList++(c.args.toList.map ρ++cap.toList)) ts W fun x W'=>K (RT.enc ts x) W'
      |none=>False))
    |none=>False)
   |_=>False)
  |_=>match QK P o.type with
   |some t=>(match EX o ρ with
    |some s=>bG P t s W fun x W'=>K (t.enc x) W'
    |none=>False)
   |none=>False)
 |_=>match QK P o.type with
  |some t=>(match EX o ρ with
   |some s=>bG P t s W fun x W'=>K (t.enc x) W'
   |none=>False)
  |none=>False
def cOp (P:Program) (o:Oper) (ρ:Operand→Value) (W:World) (K:Value→World→Prop):Prop:=
 match gI P o.op with
 |true=>jq P o.op ρ fun v=>K v W
 |false=>acV P o ρ W K
theorem kD {W:World} {a:Addr}:∀(vs:List Value) (i:Nat),dS W a i vs→∀j v,vs[j]?=some v→W.cell? (a.add (i+j))=some v
 |[],_,_,_,_,h=>by grind
 |u::vs,i,h,j,v,hj=>by
  cases j with
  |zero=>simp at hj;subst hj;exact h.1
  |succ j=>have:=kD vs (i+1) h.2 j v (by simp_all);grind
theorem jG {P:Program} {t:TypeId} {d:TypeDesc} (h:P.underlying t=some d) (W:World):(isAgg t).run P W=.ok (kV d) W:=by
 simp only[isAgg,Sem.run_bind,aT h,Result.andThen_ok];cases d<;>rfl
theorem HL.sI:∀(ks:List K1) (x:HL ks),(HL.enc ks x).length=ks.length
 |[],_=>rfl
 |_::ks,x=>by simp[HL.enc,HL.sI ks x.2]
theorem CR {P:Program} {t:TypeId} {a:Addr} {W:World} {K:Value→Prop} (h:ldG P t a W K):
 ∃v,(Instr.loadAt t (.pointer (some a))).run P W=.ok v W∧K v:=by
 unfold ldG at h
 split at h<;>first|exact h.elim|skip
 rename_i d hd
 split at h
 ·rename_i u6
  split at h<;>first|exact h.elim|skip
  rename_i ks pN
  split at h<;>first|exact h.elim|skip
  rename_i i hi
  split at h<;>first|exact h.elim|skip
  rename_i ed
  obtain⟨x,hx,hk⟩:=h
  refine⟨_,?_,hk⟩
  have hl:=run_loadCells_list (P:=P) (w:=W) a (HL.enc ks x) (fun j v hj=>by have:=kD _ 0 hx j v hj;simp_all)
  rw[HL.sI] at hl
  simp[Instr.loadAt,Instr.sureAddr,loadVar,jG hd,u6,cD hi,ed,hl]
 ·rename_i u6
  split at h<;>first|exact h.elim|skip
  rename_i k hk
  obtain⟨x,hx,hk⟩:=h
  exact⟨_,by simp[Instr.loadAt,Instr.sureAddr,loadVar,jG hd,u6,hx],hk⟩
theorem CS {P:Program} {a:Addr} {K:World→Prop}:∀(vs:List Value) (i:Nat) (W:World),stN a i vs W K→∃W',(storeCells a vs i).run P W=.ok () W'∧K W'
 |[],i,W,h=>⟨W,rfl,h⟩
 |v::vs,i,W,h=>by
  simp only[stN,VB] at h
  split at h<;>first|exact h.elim|skip
  rename_i hv
  obtain⟨⟨u,hu⟩,hf,h⟩:=h
  obtain⟨W',hr,hk⟩:=CS (P:=P) vs (i+1) _ h
  exact⟨W',by simp[storeCells,run_store P W _ v .plain hv,hu,hf,hr],hk⟩
theorem uz {P:Program} {t:TypeId} {v:Value} {K:List Value→Prop} (h:CQ P t v K):K v.cells.toList:=by
 unfold CQ at h
 split at h<;>first|simp_all|skip
 split at h
 ·split at h<;>first|exact h.elim|skip
  exact h
 ·unfold VB at h
  split at h<;>first|exact h.elim|skip
  rename_i hv
  cases v<;>first|exact h|simp[Value.oneCell'] at hv
theorem PK {P:Program} {t:TypeId} {a:Addr} {v:Value} {W:World} {K:World→Prop} (h:stG P t a v W K):
 ∃W',(Instr.storeAt t (.pointer (some a)) v).run P W=.ok () W'∧K W':=by
 unfold stG at h
 split at h<;>first|exact h.elim|skip
 rename_i i hi
 have h:=uz h
 split at h<;>first|exact h.elim|skip
 rename_i ed
 obtain⟨W',hr,hk⟩:=CS (P:=P) _ _ _ h
 have atZ:v.cells.size=i.size:=by omega
 exact⟨W',by simp[Instr.storeAt,Instr.sureAddr,storeVar,cD hi,atZ,hr],hk⟩
theorem upon_value {P:Program} {s:Sem Value} {v:Value} {W W':World} (h:s.run P W=.ok v W'):(do pure (.value (←s)):Sem Next).run P W=.ok (.value v) W':=by simp[h]
theorem qW {P:Program} {s:Sem Unit} {W W':World} (h:s.run P W=.ok () W'):(do s;pure .skip:Sem Next).run P W=.ok .skip W':=by simp[h]
theorem IH {P:Program} {o:Oper} {ρ:Operand→Value} {s:Sem Value} (h:EX o ρ=some s) (W:World):
 (execOp ρ o).run P W=(do pure (.value (←s)):Sem Next).run P W:=by
 obtain⟨dst,op,type,pos,after,guard⟩:=o
 cases op<;>simp only[EX] at h<;>first|(cases h;done)|(injection h with h;subst h;rfl)|skip
 case call c=>
  obtain⟨callee,args,argTypes⟩:=c
  cases callee with
  |value f=>grind
  |invoke r m=>grind
  |builtin b=>cases b<;>simp only[] at h<;>first|(cases h;done)|(injection h with h;subst h;rfl)
theorem K6 {P:Program} {o:Oper} {a:Act} {W:World} {K:Value→World→Prop} {Q:Exit→Act→World→Prop} {next:Act→World→Prop}
 (h:acV P o a.eval W K) (hk:∀v W',K v W'→next (a.put o.dst v) W'):o.wp P a W next Q:=by
 have gen:(match QK P o.type with
  |some t=>(match EX o a.eval with
   |some s=>bG P t s W fun x W'=>K (t.enc x) W'
   |none=>False)
  |none=>False)→o.wp P a W next Q:=fun h=>by
  split at h<;>first|exact h.elim|skip
  split at h<;>first|exact h.elim|skip
  rename_i s hs
  obtain⟨x,W',hr,hx⟩:=h
  unfold Oper.wp
  rw[IH hs,upon_value hr]
  exact hk _ _ hx
 obtain⟨dst,op,type,pos,after,guard⟩:=o
 unfold acV at h
 simp only at h
 split at h<;>first|exact gen h|skip
 ·
  split at h<;>first|exact h.elim|skip
  rename_i p hp
  obtain⟨v,hr,hx⟩:=CR h
  rw[←hp] at hr
  unfold Oper.wp execOp
  simp only
  rw[upon_value hr]
  exact hk _ _ hx
 ·split at h<;>first|exact h.elim|skip
  rename_i p hp
  obtain⟨W',hr,hx⟩:=PK h
  rw[←hp] at hr
  unfold Oper.wp execOp
  simp only
  rw[qW hr]
  exact hk _ _ hx
 ·rename_i t0
  split at h<;>first|exact h.elim|skip
  rename_i i hi
  split at h<;>first|exact h.elim|skip
  rename_i z hz
  unfold Oper.wp execOp
  simp only
  rw[upon_value (v:=.pointer (some ⟨W.heap.size,0,none⟩)) (W':=W.alloc (.cells z.cells t0)) (by simp[Instr.alloc,zeroValue,j9 hi,hz,newVar,newRow])]
  exact hk _ _ h
 ·rename_i t0 x0
  have h:=uz h
  unfold Oper.wp execOp
  simp only
  rw[upon_value (v:=.pointer (some ⟨W.heap.size,0,none⟩)) (W':=W.alloc (.cells (a.eval x0).cells t0)) (by rfl)]
  exact hk _ _ h
 ·split at h<;>first|exact h.elim|skip
  rename_i e ht
  split at h<;>first|exact h.elim|skip
  rename_i i hi
  split at h<;>first|exact h.elim|skip
  rename_i z hz
  split at h<;>first|exact h.elim|skip
  rename_i kv
  split at h
  ·rename_i Rw
   split at h<;>first|exact h.elim|skip
   rename_i AW
   unfold Oper.wp execOp
   simp only
   refine Eq.mpr (congrArg _ (upon_value (v:=.slice (some ⟨W.heap.size,0,none⟩) _ _) (W':=W.alloc (.cells #[] e)) ?_)) (hk _ _ h)
   simp only[Instr.buildSlice,Sem.run_bind,aT ht,Result.andThen_ok,cD hi,Rw,if_true,Sem.run_pure,Array.toList_map,Sem.run_ite,AW,List.map_nil]
   simp[newRow,Instr.fill]
   grind
  rename_i hnz
  unfold aaz at h
  split at h<;>first|exact h.elim|skip
  rename_i cs gU
  unfold Oper.wp execOp
  simp only
  refine Eq.mpr (congrArg _ (upon_value (v:=.slice (some ⟨W.heap.size,0,none⟩) _ _) (W':=W.alloc (.cells cs e)) ?_)) (hk _ _ h)
  simp only[Instr.buildSlice,Sem.run_bind,aT ht,Result.andThen_ok,cD hi,kv,if_false,hnz,zeroValue,j9 hi,hz,Sem.run_pure,Array.toList_map,Sem.run_ite]
  simp[gU,newRow]
 ·split at h<;>first|exact h.elim|skip
  rename_i e ht
  split at h<;>first|exact h.elim|skip
  rename_i i hi
  split at h<;>first|exact h.elim|skip
  rename_i z hz
  split at h<;>first|exact h.elim|skip
  rename_i k n hn
  split at h<;>first|exact h.elim|skip
  rename_i k' m hm
  obtain⟨h0,h1,h2,h3,h⟩:=h
  have hr:=run_make (P:=P) W _ e i z ht hi hz k k' n m h0 h1 h2 h3
  rw[←hn,←hm] at hr
  unfold Oper.wp execOp
  simp only
  rw[upon_value hr]
  exact hk _ _ h
 ·obtain⟨W',hr,hx⟩:=h
  unfold Oper.wp execOp
  simp only
  rw[qW hr]
  exact hk _ _ hx
 ·obtain⟨W',hr,hx⟩:=h
  unfold Oper.wp execOp
  simp only
  rw[qW hr]
  exact hk _ _ hx
 ·obtain⟨W',hr,hx⟩:=h
  unfold Oper.wp execOp
  simp only
  rw[qW hr]
  exact hk _ _ hx
 ·rename_i c
  obtain⟨callee,args,argTypes⟩:=c
  simp only at h
  split at h
  ·rename_i f
   split at h<;>first|exact h.elim|skip
   rename_i g first cap hf
   split at h<;>first|exact h.elim|skip
   rename_i fn Ep
   split at h
   rotate_left
   ·split at h<;>first|exact h.elim|skip
    rename_i ts RF
    obtain⟨x,W',hr,hx⟩:=h
    unfold Oper.wp
    have mw:(execOp a.eval {dst:=dst,op:=.call {callee:=.value f,args:=args,argTypes:=argTypes},type:=type,pos:=pos,after:=after,guard:=guard}).run P W=
     (callFunc g ⟨first.toList++(args.toList.map a.eval++cap.toList)⟩).run P W:=by
     simp only[execOp,resolve,hf,Deferred.ofValue,pure_bind,invoke]
     congr 2
     simp
    rw[mw,hr]
    exact hk _ _ hx
   rename_i b hb
   split at h<;>first|simp_all|skip
   rename_i AY
   split at h<;>first|exact h.elim|skip
   rename_i ts RF
   unfold Oper.wp
   have hr:(execOp a.eval {dst:=dst,op:=.call {callee:=.value f,args:=args,argTypes:=argTypes},type:=type,pos:=pos,after:=after,guard:=guard}).run P W=
    .ok (.enter g ⟨first.toList++(args.toList.map a.eval++cap.toList)⟩) W:=by
    have aua:¬fn.name= "runtime.NumGoroutine" :=by simp_all
    simp[execOp,resolve,hf,Deferred.ofValue,invoke,callFunc,Ep,hb,aua]
   rw[hr]
   refine Calls.mono h fun e W' he=>?_
   grind
  simp_all
theorem vK {P:Program} {o:Oper} {l:Fr} {W:World} {K:Value→World→Prop} {Q:Exit→Act→World→Prop} {next:Act→World→Prop}
 (h:cOp P o (ev l) W K) (hk:∀v W',K v W'→next (az (iF l o.dst v)) W'):o.wp P (az l) W next Q:=by
 unfold cOp at h
 split at h
 ·rename_i hp
  obtain⟨dst,op,type,pos,after,guard⟩:=o
  obtain⟨v,hv,hx⟩:=qp (P:=P) (ρ:=ev l) (fun _=>rfl) hp h dst type pos after guard
  unfold Oper.wp
  rw[kf,hv W]
  show next ((az l).put dst v) W
  rw[fq]
  simp_all
 ·rw[←kf] at h
  exact K6 h fun v W' hv=>by rw[fq];simp_all
def CT (P:Program) (ops:Array Oper) (o:Oper) (l:Fr) (W:World) (K:Fr→World→Prop):Prop:=
 match o.guard with
 |none=>cOp P o (ev l) W fun v W'=>K (iF l o.dst v) W'
 |some g=>match ops[g.1]? with
  |none=>False
  |some oj=>match oj.dst with
   |none=>False
   |some d=>match dM l d with
    |.bool b=>af b
     (match g.2 with
      |true=>cOp P o (ev (jJ l d (.bool true))) W fun v W'=>K (iF (jJ l d (.bool true)) o.dst v) W'
      |false=>K (iF (jJ l d (.bool true)) o.dst undef) W)
     (match g.2 with
      |true=>K (iF (jJ l d (.bool false)) o.dst undef) W
      |false=>cOp P o (ev (jJ l d (.bool false))) W fun v W'=>K (iF (jJ l d (.bool false)) o.dst v) W')
    |.tuple _=>K (iF l o.dst undef) W
    |_=>False
def Kn (P:Program) (ops:Array Oper) (K:Fr→World→Prop):List Oper→Fr→World→Prop
 |[],l,W=>K l W
 |o::rest,l,W=>CT P ops o l W fun l' W'=>Kn P ops K rest l' W'
theorem CU {l:Fr} {d:Nat} {v:Value} (h:dM l d=v):jJ l d v=l:=by rw[←h,CP]
theorem uA {P:Program} {ops:Array Oper} {o:Oper} {l:Fr} {W:World} {K:Fr→World→Prop} {Q:Exit→Act→World→Prop} {next:Act→World→Prop}
 (h:CT P ops o l W K) (hk:∀l' W',K l' W'→next (az l') W'):
 if Region.wanted o (yielded ops (az l).tmps) then o.wp P (az l) W next Q else next ((az l).put o.dst undef) W:=by
 unfold CT at h
 split at h
 ·rename_i hg
  rw[if_pos (by simp[Region.wanted,hg])]
  exact vK h fun v W' hv=>hk _ _ hv
 ·rename_i g hg
  split at h<;>first|simp_all|skip
  rename_i oj hj
  split at h<;>first|simp_all|skip
  rename_i d hd
  have hy:=qv ops l g.1 hj hd
  split at h
  ·rename_i b hb
   rw[hb] at hy
   have hw:Region.wanted o (yielded ops (az l).tmps)=(b==g.2):=by simp[Region.wanted,hg,hy]
   obtain⟨j,want⟩:=g
   rw[hw]
   cases b<;>cases want<;>simp only[af] at h<;>rw[CU hb] at h
   ·exact vK h fun v W' hv=>hk _ _ hv
   ·show next ((az l).put o.dst undef) W;rw[fq];simp_all
   ·show next ((az l).put o.dst undef) W;rw[fq];simp_all
   ·exact vK h fun v W' hv=>hk _ _ hv
  ·rename_i hb
   rw[hb] at hy
   have hw:Region.wanted o (yielded ops (az l).tmps)=false:=by simp[Region.wanted,hg,hy]
   rw[if_neg (by grind),fq]
   simp_all
  simp_all
theorem wv {P:Program} {ops:Array Oper} {K:Fr→World→Prop} {Q:Exit→Act→World→Prop} (hk:∀l W,K l W→Q .normal (az l) W):
 ∀(os:List Oper) (l:Fr) (W:World),Kn P ops K os l W→wpList P ops Q os (az l) W
 |[],l,W,h=>wpList_nil (hk l W h)
 |o::rest,l,W,h=>by
  unfold wpList
  have:=uA (Q:=Q) (next:=wpList P ops Q rest) h fun l' W' h'=>wv hk rest l' W' h'
  grind
def Ko (P:Program):Op→Bool
 |.load t _=>(match P.underlying t with|some _=>true|none=>false)
 |.convert s d _=>(match P.underlying s with
  |some (.slice e)=>(match P.underlying e with
   |some (.int .u8)=>(match P.underlying d with|some .string=>true|_=>false)
   |_=>false)
  |_=>false)
 |_=>false
def cvS (P:Program) (S:World→Prop) (s d:TypeId) (v:Value) (K:ByteArray→Prop):Prop:=∃x:ByteArray,(∀W,S W→(convert s d v).run P W=.ok (.string x) W)∧K x
def ldS (S:World→Prop) (k:K1) (a:Addr) (K:k.T→Prop):Prop:=∃x:k.T,(∀W,S W→W.cell? a=some (k.enc x))∧K x
def aub (S:World→Prop) (ks:List K1) (a:Addr) (K:HL ks→Prop):Prop:=∃x:HL ks,(∀W,S W→dS W a 0 (HL.enc ks x))∧K x
def AD (P:Program) (S:World→Prop) (o:Oper) (ρ:Operand→Value) (K:Value→Prop):Prop:=
 match gI P o.op with
 |true=>jq P o.op ρ K
 |false=>match o.op with
  |.load t a=>(match ρ a with
   |.pointer (some p)=>(match P.underlying t with
    |some d=>(match kV d with
     |true=>(match flat P 8 t with
      |some ks=>(match P.info? t with
       |some i=>if i.size=ks.length then aub S ks p fun x=>K (.agg ⟨HL.enc ks x⟩) else False
       |none=>False)
      |none=>False)
     |false=>(match VA d with|some k=>ldS S k p fun x=>K (k.enc x)|none=>False))
    |none=>False)
   |_=>False)
  |.convert s d x=>cvS P S s d (ρ x) fun b=>K (.string b)
  |_=>False
theorem II {P:Program} {S:World→Prop} {o:Oper} {ρ:Operand→Value} {K:Value→Prop} (cL:∀v,ρ (.const v)=v) (h:AD P S o ρ K):
 ∃v,(∀W,S W→(execOp ρ o).run P W=.ok (.value v) W)∧(gI P o.op=true→∀W,(execOp ρ o).run P W=.ok (.value v) W)∧K v:=by
 obtain⟨dst,op,type,pos,after,guard⟩:=o
 unfold AD at h
 split at h
 ·rename_i hp
  obtain⟨v,hv,hk⟩:=qp cL hp h dst type pos after guard
  grind
 ·rename_i hnp
  simp only at h
  split at h<;>first|exact h.elim|skip
  ·rename_i t a
   split at h<;>first|exact h.elim|skip
   rename_i p hp
   split at h<;>first|exact h.elim|skip
   rename_i d hd
   split at h
   ·rename_i u6
    split at h<;>first|exact h.elim|skip
    rename_i ks pN
    split at h<;>first|exact h.elim|skip
    rename_i i hi
    split at h<;>first|exact h.elim|skip
    rename_i ed
    obtain⟨x,hx,hk⟩:=h
    refine⟨_,fun W hS=>?_,fun PL=>absurd PL (by simp_all),hk⟩
    show(do pure (.value (←Instr.loadAt t (ρ a))):Sem Next).run P W=_
    have hl:=run_loadCells_list (P:=P) (w:=W) p (HL.enc ks x) (fun j v hj=>by have:=kD _ 0 (hx W hS) j v hj;simp_all)
    rw[HL.sI] at hl
    exact upon_value (by simp[hp,Instr.loadAt,Instr.sureAddr,loadVar,jG hd,u6,cD hi,ed,hl])
   ·rename_i u6
    split at h<;>first|exact h.elim|skip
    rename_i k hk
    obtain⟨x,hx,hk⟩:=h
    refine⟨_,fun W hS=>?_,fun PL=>absurd PL (by simp_all),hk⟩
    show(do pure (.value (←Instr.loadAt t (ρ a))):Sem Next).run P W=_
    exact upon_value (by simp[hp,Instr.loadAt,Instr.sureAddr,loadVar,jG hd,u6,hx W hS])
  ·rename_i s d x
   obtain⟨b,hb,hk⟩:=h
   exact⟨_,fun W hS=>upon_value (s:=convert s d (ρ x)) (hb W hS),fun PL=>absurd PL (by simp_all),hk⟩
def ye (P:Program) (S:World→Prop) (ops:Array Oper) (o:Oper) (l:Fr) (K:Fr→Prop):Prop:=
 match o.guard with
 |none=>AD P S o (ev l) fun v=>K (iF l o.dst v)
 |some g=>match ops[g.1]? with
  |none=>False
  |some oj=>match oj.dst with
   |none=>False
   |some d=>match dM l d with
    |.bool b=>af b
     (match g.2 with
      |true=>AD P S o (ev (jJ l d (.bool true))) fun v=>K (iF (jJ l d (.bool true)) o.dst v)
      |false=>K (iF (jJ l d (.bool true)) o.dst undef))
     (match g.2 with
      |true=>K (iF (jJ l d (.bool false)) o.dst undef)
      |false=>AD P S o (ev (jJ l d (.bool false))) fun v=>K (iF (jJ l d (.bool false)) o.dst v))
    |.tuple _=>K (iF l o.dst undef)
    |_=>False
theorem EY {P:Program} {S:World→Prop} {ops:Array Oper} {o:Oper} {l:Fr} {K:Fr→Prop} (h:ye P S ops o l K):
 ∃v,YieldsIf P ops S o v (az l)∧(gI P o.op=true→YieldsIf P ops (fun _=>True) o v (az l))∧K (iF l o.dst v):=by
 unfold ye at h
 have tk:∀{K':Value→Prop},Region.wanted o (yielded ops (az l).tmps)=true→AD P S o (ev l) K'→∃v,YieldsIf P ops S o v (az l)∧(gI P o.op=true→YieldsIf P ops (fun _=>True) o v (az l))∧K' v:=fun hw h=>by
  obtain⟨v,hv,hv',hk⟩:=II (fun _=>rfl) h
  exact⟨v,.inl ⟨hw,fun w hS=>by rw[kf];simp_all⟩,fun PL=>.inl ⟨hw,fun w _=>by rw[kf];simp_all⟩,hk⟩
 split at h
 ·rename_i hg
  exact tk (by simp[Region.wanted,hg]) h
 ·rename_i g hg
  split at h<;>first|simp_all|skip
  rename_i oj hj
  split at h<;>first|simp_all|skip
  rename_i d hd
  have hy:=qv ops l g.1 hj hd
  split at h
  ·rename_i b hb
   rw[hb] at hy
   have hw:Region.wanted o (yielded ops (az l).tmps)=(b==g.2):=by simp[Region.wanted,hg,hy]
   obtain⟨j,want⟩:=g
   cases b<;>cases want<;>simp only[af] at h<;>rw[CU hb] at h
   ·simp_all
   ·exact⟨_,.inr ⟨hw,rfl⟩,fun _=>.inr ⟨hw,rfl⟩,h⟩
   ·exact⟨_,.inr ⟨hw,rfl⟩,fun _=>.inr ⟨hw,rfl⟩,h⟩
   simp_all
  ·rename_i hb
   rw[hb] at hy
   have hw:Region.wanted o (yielded ops (az l).tmps)=false:=by simp[Region.wanted,hg,hy]
   exact⟨_,.inr ⟨hw,rfl⟩,fun _=>.inr ⟨hw,rfl⟩,h⟩
  simp_all
def pre (ops:Array Oper) (j i:Nat):Bool:=((Region.before ops).getD j 0).testBit i
def rV (ops:Array Oper):Bool:=
 (List.range ops.size).all fun j=>match ops[j]? with
  |none=>true
  |some o=>(List.range ops.size).all fun i=> !pre ops j i||o.after.any fun e=>Region.binds .any e&&decide (e.on<j)&&(e.on==i||pre ops e.on i)
def uB (P:Program) (ops:Array Oper) (aA:Array Bool) (j:Nat):Bool:=
 (List.range ops.size).any fun i=>aA.getD i false&&(match ops[i]? with|some o=>Ko P o.op&& !gI P o.op|none=>false)&& !pre ops j i
def kg (ops:Array Oper) (aA:Array Bool):Prop:=
 ∀j o,ops[j]?=some o→aA.getD j false=true→∀e∈o.after,Region.binds .any e=true→aA.getD e.on false=true
theorem b9 {ops:Array Oper} {i:Nat} {o:Oper} (h:ops[i]?=some o):i<ops.size:=(Array.getElem?_eq_some_iff.1 h).1
theorem zQ {ops:Array Oper} (hp:rV ops=true) {aA:Array Bool} (hc:kg ops aA) {i:Nat} (hi:i<ops.size):∀(n j:Nat) (o:Oper),j<n→ops[j]?=some o→
 (∀e∈o.after,Region.binds .any e=true→aA.getD e.on false=true)→pre ops j i=true→aA.getD i false=true
 |0,_,_,h,_,_,_=>absurd h (Nat.not_lt_zero _)
 |n+1,j,o,hj,ho,hd,BD=>by
  have h1:=List.all_eq_true.1 hp j (by grind)
  rw[ho] at h1
  have h2:=List.all_eq_true.1 h1 i (by simp_all)
  rw[BD] at h2
  simp only[Bool.not_true,Bool.false_or,Array.any_eq_true'] at h2
  obtain⟨e,he,h3⟩:=h2
  simp only[Bool.and_eq_true,decide_eq_true_eq,Bool.or_eq_true,beq_iff_eq] at h3
  obtain⟨⟨hb,aY⟩,h4⟩:=h3
  have hl:=hd e he hb
  rcases h4 with h4|h4
  ·simp_all
  ·have hes:e.on<ops.size:=Nat.lt_trans aY (b9 ho)
   have heo:ops[e.on]?=some ops[e.on]:=Array.getElem?_eq_getElem hes
   exact zQ hp hc hi n e.on _ (by omega) heo (fun e' RI ir=>hc _ _ heo hl e' RI ir) h4
def mB (P:Program) (ops:Array Oper) (Q:Exit→Act→World→Prop) (S:World→Prop):Nat→Array Bool→Act→World→Prop
 |0,aA,a,w=>Region.ready .any ops aA=[]∧Q .normal a w
 |fuel+1,aA,a,w=>
  (Region.ready .any ops aA=[]→Q .normal a w)∧
  ∀i∈Region.ready .any ops aA,wpOp P ops Q i (fun a' w'=>(uB P ops aA i=true→S w→S w')∧mB P ops Q S fuel (aA.setIfInBounds i true) a' w') a w
theorem sJ {P:Program} {ops:Array Oper} {Q:Exit→Act→World→Prop} {S:World→Prop}:∀(fuel:Nat) (aA:Array Bool) (a:Act) (w:World),mB P ops Q S fuel aA a w→wpAny P .any ops Q fuel aA a w
 |0,_,_,_,h=>h
 |fuel+1,_,_,_,h=>⟨h.1,fun i hi=>wpOp_mono (fun a' w' h'=>sJ fuel _ a' w' h'.2) (h.2 i hi)⟩
theorem ft {ops:Array Oper} {aA:Array Bool} (hc:kg ops aA) {i:Nat} (hi:i∈Region.ready .any ops aA):kg ops (aA.setIfInBounds i true):=by
 obtain⟨h0,o,ho,bF⟩:=mem_ready.1 hi
 intro j oj hj hl e he hb
 by_cases G5:i=j
 ·subst G5
  rw[ho] at hj
  injection hj with hj
  subst hj
  exact getD_set_true (bF e he hb)
 ·rw[getD_set_ne false G5] at hl
  exact getD_set_true (hc j oj hj hl e he hb)
def Kp (P:Program) (o:Oper):Bool:=Ko P o.op&& !gI P o.op
theorem K7 {P:Program} {ops:Array Oper} {aA:Array Bool} {i j:Nat} (h:uB P ops aA j=true):uB P ops (aA.setIfInBounds i true) j=true:=by
 unfold uB at*
 obtain⟨k,hk,h⟩:=List.any_eq_true.1 h
 refine List.any_eq_true.2 ⟨k,hk,?_⟩
 simp only[Bool.and_eq_true] at h⊢
 exact⟨⟨getD_set_true h.1.1,h.1.2⟩,h.2⟩
theorem T' {P:Program} {ops:Array Oper} {aA:Array Bool} {i j:Nat} {oi:Oper} (hi:ops[i]?=some oi) (ed:aA.size=ops.size) (hl:Kp P oi=true) (hp:pre ops j i=false):uB P ops (aA.setIfInBounds i true) j=true:=by
 unfold uB
 refine List.any_eq_true.2 ⟨i,by grind,?_⟩
 have aY:=b9 hi
 have h1:(aA.setIfInBounds i true).getD i false=true:=by simp_all
 rw[h1,hi,hp]
 simpa[Kp] using hl
theorem EZ {P:Program} {ops:Array Oper} {Q:Exit→Act→World→Prop} {S:World→Prop} (hp:rV ops=true) {i:Nat} {oi:Oper} {v:Value} (hi:ops[i]?=some oi) (VC:∀(j:Nat) (o:Oper) cs b,ops[j]?=some o→o.op≠.select cs b)
 (hQ:∀c a w,Q (.panic c) (a.put oi.dst v) w→Q (.panic c) a w):
 ∀(fuel:Nat) (aA:Array Bool) (a:Act) (w:World),aA.size=ops.size→kg ops aA→
  (∀j oj,ops[j]?=some oj→j≠i→aA.getD j true=false→(∀e∈oj.after,Region.binds .any e=true→e.on≠i)→oi.apart ops oj=true)→
  i∈Region.ready .any ops aA→(S w∧YieldsIf P ops S oi v a∧Kp P oi=true)∨YieldsIf P ops (fun _=>True) oi v a→
  mB P ops Q S fuel (aA.setIfInBounds i true) (a.put oi.dst v) w→mB P ops Q S (fuel+1) aA a w:=by
 have one:∀{K:Act→World→Prop} {a:Act} {w:World},(S w∧YieldsIf P ops S oi v a∧Kp P oi=true)∨YieldsIf P ops (fun _=>True) oi v a→K (a.put oi.dst v) w→wpOp P ops Q i K a w:=fun{K a w} hy hk=>by
  rcases hy with⟨hS,hy,_⟩|hy
  ·exact hy.wpOp hi hS hk
  ·exact hy.wpOp hi trivial hk
 intro fuel
 induction fuel with
 |zero=>
  intro aA a w ed hc _ hr hy H
  refine⟨fun h=>(by simp_all),fun j hj=>?_⟩
  by_cases G5:j=i
  ·simp_all
  ·have:=ready_mono hj G5
   rw[H.1] at this
   simp_all
 |succ fuel ih=>
  intro aA a w ed hc fk hr hy H
  refine⟨fun h=>(by simp_all),fun j hj=>?_⟩
  by_cases G5:j=i
  ·simp_all
  ·have h1:=H.2 j (ready_mono hj G5)
   obtain⟨aln,oj,zI,bF⟩:=mem_ready.1 hj
   have hun:=(mem_ready.1 hr).1
   have aDX:aA.getD i false=false:=by
    grind
   have alo:∀e∈oj.after,Region.binds .any e=true→e.on≠i:=fun e he hb heq=>by
    grind
   have agM:∀k ok,ops[k]?=some ok→k≠i→(aA.setIfInBounds j true).getD k true=false→
    (∀e∈ok.after,Region.binds .any e=true→e.on≠i)→oi.apart ops ok=true:=fun k ok hk Ba hun dz=>by
    refine fk k ok hk Ba ?_ dz
    by_cases hjk:j=k
    all_goals simp_all
   have BD:pre ops j i=false:=by
    cases hpj:pre ops j i with
    |false=>rfl
    |true=>
     have:=zQ hp hc (b9 hi) (j+1) j oj (Nat.lt_succ_self j) zI bF hpj
     simp_all
   have fin:∀(a':Act) (w':World),((S w'∧YieldsIf P ops S oi v a'∧Kp P oi=true)∨YieldsIf P ops (fun _=>True) oi v a')→
    mB P ops Q S fuel ((aA.setIfInBounds i true).setIfInBounds j true) (a'.put oi.dst v) w'→mB P ops Q S (fuel+1) (aA.setIfInBounds j true) a' w':=fun a' w' hy' h3=>
    ih (aA.setIfInBounds j true) a' w' (by simp_all) (ft hc hj) agM (ready_mono hr (Ne.symm G5)) hy' (by rw[Array.setIfInBounds_comm _ _ G5];omega)
   rcases hy with⟨hS,hy,hld⟩|hy
   ·have h2:=wpOp_putIf zI (fk j oj zI G5 aln alo) (fun cs b=>VC i oi cs b hi) (fun cs b=>VC j oj cs b zI) hQ hy h1
    refine wpOp_mono (fun a' w' h3=>?_) h2
    obtain⟨h3,h4,h5⟩:=h3
    have hS':=h4 (T' hi ed hld BD) hS
    simp_all
   ·have h2:=wpOp_putIf zI (fk j oj zI G5 aln alo) (fun cs b=>VC i oi cs b hi) (fun cs b=>VC j oj cs b zI) hQ hy h1
    exact wpOp_mono (fun a' w' h3=>⟨fun hn hS=>h3.2.1 (K7 hn) hS,fin a' w' (.inr h3.1) h3.2.2⟩) h2
theorem wx {P:Program} {ops:Array Oper} {Q:Exit→Act→World→Prop} {S:World→Prop} {aA:Array Bool} {a:Act} {w:World} (hr:Region.ready .any ops aA=[]) (h:Q .normal a w):∀fuel,mB P ops Q S fuel aA a w
 |0=>⟨hr,h⟩
 |_+1=>⟨fun _=>h,by simp_all⟩
def yV (P:Program) (ops:Array Oper) (aA:Array Bool) (i:Nat):Bool:=
 match ops[i]? with
 |none=>false
 |some o=>(gI P o.op||Ko P o.op)&&Region.free .any ops aA i
def BP (F:Nat→Prop):List Nat→Prop
 |[]=>True
 |[i]=>F i
 |i::is=>F i∧BP F is
theorem sE {F:Nat→Prop}:∀{is:List Nat},BP F is→∀i∈is,F i
 |[],_,_,h=>by grind
 |[j],h,i,hi=>by simp at hi;subst hi;exact h
 |j::k::is,h,i,hi=>by
  rcases List.mem_cons.1 hi with rfl|hi
  ·exact h.1
  ·exact sE h.2 i hi
def ni (P:Program) (ops:Array Oper) (S:World→Prop) (K:Fr→World→Prop):Nat→Bool→Array Bool→Fr→World→Prop
 |0,_,aA,l,W=>(match Region.ready .any ops aA with|[]=>K l W|_::_=>False)
 |n+1,kn,aA,l,W=>(match Region.ready .any ops aA with
  |[]=>K l W
  |r::rs=>(match(r::rs).find? (yV P ops aA) with
   |some i=>(match ops[i]? with
    |some o=>(match gI P o.op||kn with
     |true=>ye P S ops o l fun l'=>ni P ops S K n kn (aA.setIfInBounds i true) l' W
     |false=>S W∧ye P S ops o l fun l'=>ni P ops S K n true (aA.setIfInBounds i true) l' W)
    |none=>False)
   |none=>BP (fun i=>(match ops[i]? with
    |some o=>CT P ops o l W fun l' W'=>(match uB P ops aA i with
     |true=>S W'∧ni P ops S K n true (aA.setIfInBounds i true) l' W'
     |false=>ni P ops S K n false (aA.setIfInBounds i true) l' W')
    |none=>False)) (r::rs)))
theorem kH {P:Program} {ops:Array Oper} {S:World→Prop} {K:Fr→World→Prop} {Q:Exit→Act→World→Prop} (hp:rV ops=true) (hs:Region.noSelect ops=true) (hk:∀l W,K l W→Q .normal (az l) W)
 (hQ:∀c a w,¬Q (.panic c) a w):∀(n:Nat) (kn:Bool) (aA:Array Bool) (l:Fr) (W:World),aA.size=ops.size→kg ops aA→(kn=true→S W)→ni P ops S K n kn aA l W→mB P ops Q S n aA (az l) W
 |0,kn,aA,l,W,_,_,_,h=>by
  unfold ni at h
  split at h<;>first|exact h.elim|skip
  rename_i hr
  exact wx hr (hk _ _ h) 0
 |n+1,kn,aA,l,W,ed,hc,hS,h=>by
  unfold ni at h
  split at h
  ·rename_i hr
   exact wx hr (hk _ _ h) _
  ·rename_i r rs hr
   split at h
   ·rename_i i hi
    split at h<;>first|exact h.elim|skip
    rename_i o ho
    have Cw:i∈Region.ready .any ops aA:=by grind
    have yd:yV P ops aA i=true:=List.find?_some hi
    unfold yV at yd
    rw[ho] at yd
    rw[Bool.and_eq_true] at yd
    have go:∀(kn':Bool),(kn'=true→S W)→(gI P o.op=true∨kn'=true)→(ye P S ops o l fun l'=>ni P ops S K n kn' (aA.setIfInBounds i true) l' W)→mB P ops Q S (n+1) aA (az l) W:=fun kn' hS' hor h=>by
     obtain⟨v,hy,hy',h⟩:=EY h
     have ih:=kH hp hs hk hQ n kn' (aA.setIfInBounds i true) _ W (by simp_all) (ft hc Cw) hS' h
     rw[←fq] at ih
     refine EZ hp ho (Region.noSelect_spec hs) (fun c a w hc=>(hQ _ _ _ hc).elim) n aA (az l) W ed hc (Region.free_spec ho yd.2) Cw ?_ ih
     cases PL:gI P o.op with
     |true=>simp_all
     |false=>
      rcases hor with h'|h'
      ·simp_all
      ·refine .inl ⟨hS' h',hy,?_⟩
       have:=yd.1
       rw[PL,Bool.false_or] at this
       simp[Kp,this,PL]
    split at h
    ·rename_i hb
     rw[Bool.or_eq_true] at hb
     exact go kn hS hb h
    simp_all
   ·refine⟨fun h0=>(by simp_all),fun i hi=>?_⟩
    have jc:=hi
    rw[hr] at jc
    have h:=sE h i jc
    unfold wpOp
    split at h<;>first|exact h.elim|skip
    rename_i o ho
    rw[ho]
    have:=uA (Q:=Q) (next:=fun a' w'=>(uB P ops aA i=true→S W→S w')∧mB P ops Q S n (aA.setIfInBounds i true) a' w') h
     fun l' W' h'=>by
      split at h'
      ·exact⟨fun _ _=>h'.1,kH hp hs hk hQ n true _ l' W' (by simp_all) (ft hc hi) (fun _=>h'.1) h'.2⟩
      ·rename_i hn
       exact⟨fun mC=>absurd mC (by simp_all),kH hp hs hk hQ n false _ l' W' (by simp_all) (ft hc hi) (fun h=>absurd h Bool.false_ne_true) h'⟩
    grind
def Hr (P:Program) (ops:Array Oper):Bool:=ops.toList.all fun o=>gI P o.op||Ko P o.op
def mP (W:World) (K:World→Prop):Prop:=K W.drew
def jh (W:World) (F:(World→Prop)→Prop):Prop:=∃S:World→Prop,S W∧F S
@[reducible] def LV:List (Nat×K1)→Type
 |[]=>Unit
 |x::r=>x.2.T×LV r
def Am:(live:List (Nat×K1))→Fr→Option (LV live)
 |[],_=>some ()
 |x::r,l=>match x.2.dec (dM l x.1) with
  |none=>none
  |some y=>(match Am r l with|some z=>some (y,z)|none=>none)
def PM:Nat→Nat→(Nat→Value)→List Value
 |0,_,_=>[]
 |n+1,i,j=>j i::PM n (i+1) j
def xy:(live:List (Nat×K1))→LV live→Fr→Fr
 |[],_,l=>l
 |x::r,y,l=>xy r y.2 (jJ l x.1 (x.2.enc y.1))
theorem CV:∀(l:Fr) (p:Fr),PM l.length p.length (dM (p++l))=l
 |[],p=>rfl
 |v::l,p=>by
  simp only[List.length_cons,PM]
  have h:=CV l (p++[v])
  rw[List.length_append,List.length_singleton,List.append_assoc,List.singleton_append] at h
  rw[h,nY]
  simp
theorem wy:∀(live:List (Nat×K1)) (l:Fr) (x:LV live),Am live l=some x→xy live x l=l
 |[],_,_,_=>rfl
 |y::r,l,x,h=>by
  simp only[Am] at h
  split at h<;>first|simp_all|skip
  rename_i u hu
  split at h<;>first|(cases h;done)|skip
  rename_i z hz
  injection h with h
  subst h
  simp only[xy]
  rw[K1.iR hu,CP]
  exact wy r l z hz
def VD (n:Nat) (live:List (Nat×K1)) (x:LV live) (j:Nat→Value):Fr:=xy live x (PM n 0 j)
theorem Hs {n:Nat} {live:List (Nat×K1)} {l:Fr} {x:LV live} (hn:l.length=n) (h:Am live l=some x):VD n live x (dM l)=l:=by
 unfold VD
 subst hn
 rw[show PM l.length 0 (dM l)=l from CV l []]
 exact wy live l x h
def amM {V:Type} (x:V) (W:World) (body:V→World→(V→World→Prop)→Prop):Prop:=
 ∃(I:V→World→Prop) (m:V→World→Nat),I x W∧∀x W,I x W→body x W fun x' W'=>I x' W'∧m x' W'<m x W
def aaA {V:Type} (B:V→World→Prop) (A:(V→World→Prop)→Prop):Prop:=A B
inductive PN where
 |n
 |seq (a b:PN)
 |join (n:Nat) (live:List (Nat×K1)) (a b:PN)
 |cond (a b:PN)
 |aC (a:PN)
 |loop (n:Nat) (live:List (Nat×K1)) (a:PN)
def mL (P:Program):PN→Code→(Exit→Fr→World→Prop)→Fr→World→Prop
 |_,.skip,Q,l,W=>Q .normal l W
 |_,.label _,Q,l,W=>Q .normal l W
 |_,.exit id,Q,l,W=>Q (.exit id) l W
 |_,.ret,Q,l,W=>Q .ret l W
 |_,.region _ ops false,Q,l,W=>Kn P ops (Q .normal) ops.toList l W
 |_,.region _ ops true,Q,l,W=>mP W fun W'=>(match Region.noSelect ops&&rV ops with
  |true=>(match Hr P ops with
   |true=>ni P ops (fun w=>w=W') (Q .normal) ops.size true (Array.replicate ops.size false) l W'
   |false=>jh W' fun S=>ni P ops S (Q .normal) ops.size true (Array.replicate ops.size false) l W')
  |false=>False)
 |.seq a b,.seq x y,Q,l,W=>mL P a x (fun e l' W'=>(match e with
  |.normal=>mL P b y Q l' W'
  |e=>Q e l' W')) l W
 |.join n live a b,.seq x y,Q,l,W=>aaA (V:=LV live) (fun v W'=>∀j:Nat→Value,mL P b y Q (VD n live v j) W') fun B=>
  mL P a x (fun e l' W'=>(match e with
   |.normal=>(match Am live l' with
    |some v=>if l'.length=n then B v W' else False
    |none=>False)
   |e=>Q e l' W')) l W
 |.cond a b,.cond c x y,Q,l,W=>(match ev l c with
  |.bool t=>af t (mL P a x Q l W) (mL P b y Q l W)
  |_=>False)
 |.aC a,.block id x,Q,l,W=>mL P a x (fun e l' W'=>(match e with
  |.exit I_=>if I_=id then Q .normal l' W' else Q (.exit I_) l' W'
  |e=>Q e l' W')) l W
 |.loop n live a,.loop x,Q,l,W=>(match Am live l with
  |some v=>if l.length=n then amM v W (fun v W' C=>∀j:Nat→Value,mL P a x (fun e l' gZ=>(match e with
   |.normal=>(match Am live l' with
    |some v'=>if l'.length=n then C v' gZ else False
    |none=>False)
   |e=>Q e l' gZ)) (VD n live v j) W') else False
  |none=>False)
 |_,_,_,_,_=>False
def E0 (Q:Exit→Fr→World→Prop) (e:Exit) (a:Act) (W:World):Prop:=
 match e with
 |.panic _=>False
 |.outgrown=>False
 |e=>∃l,a=az l∧Q e l W
theorem CW {P:Program} {a:Code} {Q:Exit→Fr→World→Prop} {B:Fr→World→Prop} {e:Exit} {b:Act} {W:World}
 (h:E0 (fun e l' W'=>match e with|.normal=>B l' W'|e=>Q e l' W') e b W) (hb:∀l W,B l W→a.wp P (E0 Q) (az l) W):
 Exit.then (a.wp P (E0 Q)) (E0 Q) e b W:=by
 cases e with
 |normal=>obtain⟨l,rfl,h⟩:=h;exact hb _ _ h
 |exit id=>exact h
 |goto l=>exact h
 |ret=>exact h
 |panic c=>exact h
 |outgrown=>exact h
theorem IJ {P:Program} (hm:P.follows .mixedOrders=true):∀(an:PN) (c:Code) (Q:Exit→Fr→World→Prop) (l:Fr) (W:World),mL P an c Q l W→c.wp P (E0 Q) (az l) W:=by
 intro an c
 induction c generalizing an with
 |skip=>intro Q l W h;cases an<;>exact wp_skip ⟨l,rfl,h⟩
 |label _=>intro Q l W h;cases an<;>exact wp_label ⟨l,rfl,h⟩
 |exit id=>intro Q l W h;cases an<;>exact wp_exit ⟨l,rfl,h⟩
 |ret=>intro Q l W h;cases an<;>exact wp_ret ⟨l,rfl,h⟩
 |region id ops draw=>
  intro Q l W h
  cases draw with
  |false=>
   have h:Kn P ops (Q .normal) ops.toList l W:=by cases an<;>exact h
   exact wp_region_list (wv (fun l W hq=>⟨l,rfl,hq⟩) _ _ _ h)
  |true=>
   have h:mP W fun W'=>(match Region.noSelect ops&&rV ops with
    |true=>(match Hr P ops with
     |true=>ni P ops (fun w=>w=W') (Q .normal) ops.size true (Array.replicate ops.size false) l W'
     |false=>jh W' fun S=>ni P ops S (Q .normal) ops.size true (Array.replicate ops.size false) l W')
    |false=>False):=by cases an<;>exact h
   unfold mP at h
   split at h<;>first|exact h.elim|skip
   rename_i hs
   rw[Bool.and_eq_true] at hs
   have hc:kg ops (Array.replicate ops.size false):=fun j o hj hl=>by
    have aY:=b9 hj
    simp_all
   split at h
   ·exact wp_region_any hm (sJ _ _ _ _ (kH (S:=fun w=>w=W.drew) hs.2 hs.1 (fun l W hq=>⟨l,rfl,hq⟩) (fun _ _ _ hp=>hp) _ _ _ _ _ (by simp) hc (fun _=>rfl) h))
   ·obtain⟨S,hS,h⟩:=h
    exact wp_region_any hm (sJ _ _ _ _ (kH (S:=S) hs.2 hs.1 (fun l W hq=>⟨l,rfl,hq⟩) (fun _ _ _ hp=>hp) _ _ _ _ _ (by simp) hc (fun _=>hS) h))
 |seq x y ihx ihy=>
  intro Q l W h
  cases an with
  |seq a b=>
   exact wp_seq (wp_mono (ihx a _ l W h) fun e b' W' hq=>CW hq fun l' gZ h'=>ihy b Q l' gZ h')
  |join n live a b=>
   simp only[mL,aaA] at h
   refine wp_seq (wp_mono (ihx a _ l W h) fun e b' W' hq=>CW hq fun l' gZ h'=>?_)
   split at h'<;>first|exact h'.elim|skip
   rename_i v hv
   split at h'<;>first|exact h'.elim|skip
   rename_i hn
   have:=ihy b Q _ _ (h' (dM l'))
   rwa [Hs hn hv] at this
  |n=>exact h.elim
  |cond a b=>exact h.elim
  |aC a=>exact h.elim
  |loop n lv a=>exact h.elim
 |cond c x y ihx ihy=>
  intro Q l W h
  cases an with
  |cond a b=>
   simp only[mL] at h
   split at h<;>first|exact h.elim|skip
   rename_i t ht
   cases t with
   |true=>exact wp_cond_true (by rw[kf];omega) (ihx a Q l W h)
   |false=>exact wp_cond_false (by rw[kf];omega) (ihy b Q l W h)
  |n=>exact h.elim
  |seq a b=>exact h.elim
  |join n lv a b=>exact h.elim
  |aC a=>exact h.elim
  |loop n lv a=>exact h.elim
 |block id x ih=>
  intro Q l W h
  cases an with
  |aC a=>
   refine wp_block (wp_mono (ih a _ l W h) fun e b' W' hq=>?_)
   cases e with
   |normal=>exact hq
   |exit I_=>
    obtain⟨l',rfl,hq⟩:=hq
    simp only[Exit.inBlock]
    replace hq:if I_=id then Q .normal l' W' else Q (.exit I_) l' W':=hq
    split at hq
    ·rename_i he;rw[if_pos he];exact⟨l',rfl,hq⟩
    ·rename_i he;rw[if_neg he];exact⟨l',rfl,hq⟩
   |goto l=>exact hq
   |ret=>exact hq
   |panic c=>exact hq
   |outgrown=>exact hq
  |n=>exact h.elim
  |seq a b=>exact h.elim
  |join n lv a b=>exact h.elim
  |cond a b=>exact h.elim
  |loop n lv a=>exact h.elim
 |loop x ih=>
  intro Q l W h
  cases an with
  |loop n live a=>
   simp only[mL] at h
   split at h<;>first|exact h.elim|skip
   rename_i v hv
   split at h<;>first|exact h.elim|skip
   rename_i hn
   obtain⟨I,m,h0,Az⟩:=h
   refine wp_loop (fun b W'=>∃l' v',b=az l'∧l'.length=n∧Am live l'=some v'∧I v' W')
    (fun b W'=>match Am live b.tmps.toList with|some v'=>m v' W'|none=>0) ⟨l,v,rfl,hn,hv,h0⟩ ?_
   rintro b W' ⟨l',v',rfl,mC,hv',hI⟩
   have hb:=Az v' W' hI (dM l')
   rw[Hs mC hv'] at hb
   have ir:=ih a _ l' W' hb
   refine wp_mono ir fun e b' gZ hq=>?_
   cases e with
   |normal=>
    obtain⟨BH,rfl,hq⟩:=hq
    simp only at hq
    split at hq<;>first|exact hq.elim|skip
    rename_i RP Vy
    split at hq<;>first|exact hq.elim|skip
    rename_i auc
    refine⟨⟨BH,RP,rfl,auc,Vy,hq.1⟩,?_⟩
    simp only[az,Vy,hv']
    omega
   |exit id=>exact hq
   |goto l=>exact hq
   |ret=>exact hq
   |panic c=>exact hq
   |outgrown=>exact hq
  |n=>exact h.elim
  |seq a b=>exact h.elim
  |join n lv a b=>exact h.elim
  |cond a b=>exact h.elim
  |aC a=>exact h.elim
 |rangeFunc _ _ _ _ _ _=>intro Q l W h;cases an<;>exact h.elim
 |scope _ _=>intro Q l W h;cases an<;>exact h.elim
 |goto _=>intro Q l W h;cases an<;>exact h.elim
 |refuse _=>intro Q l W h;cases an<;>exact h.elim
def HL.dec:(ks:List K1)→List Value→Option (HL ks)
 |[],[]=>some ()
 |[],_::_=>none
 |_::_,[]=>none
 |k::ks,v::vs=>match k.dec v with
  |none=>none
  |some x=>(match HL.dec ks vs with|some y=>some (x,y)|none=>none)
def Ty.dec:(t:Ty)→Value→Option t.T
 |.one k,v=>k.dec v
 |.agg ks,v=>match v with
  |.agg cs=>HL.dec ks cs.toList
  |_=>none
def TL.dec:(ts:List Ty)→List Value→Option (TL ts)
 |[],[]=>some ()
 |[],_::_=>none
 |_::_,[]=>none
 |t::ts,v::vs=>match t.dec v with
  |none=>none
  |some x=>(match TL.dec ts vs with|some y=>some (x,y)|none=>none)
theorem HL.iR:∀{ks:List K1} {vs:List Value} {x:HL ks},HL.dec ks vs=some x→HL.enc ks x=vs
 |[],[],_,_=>rfl
 |[],_::_,_,h=>by cases h
 |_::_,[],_,h=>by cases h
 |k::ks,v::vs,x,h=>by
  simp only[HL.dec] at h
  split at h<;>first|simp_all|skip
  rename_i u hu
  split at h<;>first|(cases h;done)|skip
  rename_i z hz
  injection h with h
  subst h
  simp only[HL.enc]
  rw[K1.iR hu,HL.iR hz]
theorem Ty.iR {t:Ty} {v:Value} {x:t.T} (h:t.dec v=some x):t.enc x=v:=by
 cases t with
 |one k=>exact K1.iR h
 |agg ks=>
  cases v with
  |agg cs=>
   have h':HL.dec ks cs.toList=some x:=h
   simp only[Ty.enc,HL.iR h']
  |_=>cases h
theorem TL.iR:∀{ts:List Ty} {vs:List Value} {x:TL ts},TL.dec ts vs=some x→TL.enc ts x=vs
 |[],[],_,_=>rfl
 |[],_::_,_,h=>by cases h
 |_::_,[],_,h=>by cases h
 |k::ks,v::vs,x,h=>by
  simp only[TL.dec] at h
  split at h<;>first|simp_all|skip
  rename_i u hu
  split at h<;>first|(cases h;done)|skip
  rename_i z hz
  injection h with h
  subst h
  simp only[TL.enc]
  rw[Ty.iR hu,TL.iR hz]
def FQ (P:Program) (W:World) (l:Fr):List ResultVar→(List Value→Prop)→Prop
 |[],K=>K []
 |.tmp t::rs,K=>FQ P W l rs fun vs=>K (dM l t::vs)
 |.cell a t::rs,K=>(match dM l a with
  |.pointer (some p)=>ldG P t p W fun v=>FQ P W l rs fun vs=>K (v::vs)
  |_=>False)
def nK:Nat→List Value
 |0=>[]
 |n+1=>undef::nK n
def VE {ts:List Ty} (K:TL ts→World→Prop) (vs:List Value) (W:World):Prop:=
 match TL.dec ts vs with
 |some x=>K x W
 |none=>False
def F9 (P:Program) (an:PN) (fn:Func) (args:List Value) (ts:List Ty) (W:World) (K:TL ts→World→Prop):Prop:=
 match fn.body with
 |none=>False
 |some c=>mL P an c (fun e l W'=>match e with
  |.normal=>FQ P W' l fn.results.toList fun vs=>VE K vs W'
  |.ret=>FQ P W' l fn.results.toList fun vs=>VE K vs W'
  |_=>False) (args++nK (fn.ntmps - args.length)) W
theorem sK {P:Program} {W:World} {l:Fr}:∀(rs:List ResultVar) (K:List Value→Prop),FQ P W l rs K→
 ∃vs,(rs.mapM (m:=Sem) fun|.tmp t=>pure ((az l).tmps.getD t undef)|.cell a t=>do loadVar t (←asAddr ((az l).tmps.getD a undef))).run P W=.ok vs W∧K vs
 |[],K,h=>⟨[],rfl,h⟩
 |.tmp t::rs,K,h=>by
  obtain⟨vs,hv,hk⟩:=sK rs _ h
  have ht:(az l).tmps.getD t undef=dM l t:=congrFun (kf l) (.tmp t)
  simp_all
 |.cell a t::rs,K,h=>by
  simp only[FQ] at h
  split at h<;>first|exact h.elim|skip
  rename_i p hp
  obtain⟨v,hr,h⟩:=CR h
  obtain⟨vs,hv,hk⟩:=sK rs _ h
  have ht:(az l).tmps.getD a undef=.pointer (some p):=(congrFun (kf l) (.tmp a)).trans hp
  have mw:(loadVar t p).run P W=.ok v W:=by simpa[Instr.loadAt,Instr.sureAddr] using hr
  exact⟨_,by simp only[List.mapM_cons,Sem.run_bind,Sem.run_pure,Result.andThen_ok,hv,ht,show(asAddr (.pointer (some p))).run P W=.ok p W from rfl,mw],hk⟩
theorem vF (n:Nat):nK n=List.replicate n undef:=by
 induction n with
 |zero=>rfl
 |succ n ih=>simp[nK,ih,List.replicate_succ]
theorem wo {P:Program} {fn:Func} {l:Fr} {W:World} {vs:List Value}
 (hr:(fn.results.toList.mapM (m:=Sem) fun|.tmp t=>pure ((az l).tmps.getD t undef)|.cell a t=>do loadVar t (←asAddr ((az l).tmps.getD a undef))).run P W=.ok vs W):
 (results fn (az l).tmps).run P W=.ok (ma vs) W:=by
 unfold results
 simp only[Sem.run_bind,Array.mapM_eq_mapM_toList,Sem.run_map]
 refine Eq.trans (congrArg (fun r=>(Result.andThen (Result.andThen r _) _)) hr) ?_
 simp only[Result.andThen_ok,Sem.run_pure]
 match vs with
 |[]=>rfl
 |[v]=>rfl
 |_::_::_=>rfl
theorem Ht {P:Program} {fn:Func} {l:Fr} {W:World} {ts:List Ty} {K:TL ts→World→Prop} (h:FQ P W l fn.results.toList fun vs=>VE K vs W):
 ∃v,(results fn (az l).tmps).run P W=.ok v W∧∃x:TL ts,Ending.returned v=.returned (RT.enc ts x)∧K x W:=by
 obtain⟨vs,hr,hk⟩:=sK _ _ h
 unfold VE at hk
 split at hk<;>first|exact hk.elim|skip
 rename_i x hx
 refine⟨ma vs,wo hr,x,?_,hk⟩
 unfold RT.enc
 rw[TL.iR hx]
theorem fY {P:Program} (hm:P.follows .mixedOrders=true) {an:PN} {f:FuncId} {fn:Func} {args:List Value} {ts:List Ty} {W:World} {K:TL ts→World→Prop}
 (hf:P.funcs[f]?=some fn) (h:F9 P an fn args ts W K):fL P f args ts W K:=by
 unfold F9 at h
 split at h<;>first|simp_all|skip
 rename_i c hc
 refine calls_of_wp hf hc ?_
 have hw:=IJ hm an c _ _ W h
 have ha:({tmps:=(⟨args⟩:Array Value)++Array.replicate (fn.ntmps - (⟨args⟩:Array Value).size) undef,defers:=[]}:Act)=az (args++nK (fn.ntmps - args.length)):=by
  unfold az
  congr 1
  rw[←Array.toList_inj]
  simp[vF]
 rw[ha]
 refine wp_mono hw fun e b W' hq=>?_
 cases e with
 |normal=>
  obtain⟨l,rfl,hq⟩:=hq
  obtain⟨v,hr,hk⟩:=Ht hq
  exact⟨rfl,v,hr,hk⟩
 |ret=>
  obtain⟨l,rfl,hq⟩:=hq
  obtain⟨v,hr,hk⟩:=Ht hq
  exact⟨rfl,v,hr,hk⟩
 |exit id=>obtain⟨l,rfl,hq⟩:=hq;simp_all
 |goto g=>obtain⟨l,rfl,hq⟩:=hq;simp_all
 |panic c=>exact hq.elim
 |outgrown=>exact hq.elim
open Go Go.RowKit
def kU (W:World) (b:Nat) (cs:List Value) (t:TypeId):Prop:=W.heap[b]?=some (.cells ⟨cs⟩ t (0,0))
structure aV (S:List Nat) (W W':World):Prop where
 os:W'.os=W.os
 tape:W'.tape=W.tape
 output:W'.output=W.output
 size:W.heap.size≤W'.heap.size
 block:∀b,b<W.heap.size→b∉S→W'.heap[b]?=W.heap[b]?
theorem aV.refl (S:List Nat) (W:World):aV S W W:=⟨rfl,rfl,rfl,Nat.le_refl _,fun _ _ _=>rfl⟩
theorem aV.trans {S:List Nat} {W W' gZ:World} (h:aV S W W') (k:aV S W' gZ):aV S W gZ:=
 ⟨k.os.trans h.os,k.tape.trans h.tape,k.output.trans h.output,Nat.le_trans h.size k.size,
  fun b hb hs=>(k.block b (Nat.lt_of_lt_of_le hb h.size) hs).trans (h.block b hb hs)⟩
theorem aV.trans' {S T:List Nat} {W W' gZ:World} (h:aV S W W') (k:aV T W' gZ) (ht:∀b∈T,b∈S∨W.heap.size≤b):aV S W gZ:=
 ⟨k.os.trans h.os,k.tape.trans h.tape,k.output.trans h.output,Nat.le_trans h.size k.size,
  fun b hb hs=>(k.block b (Nat.lt_of_lt_of_le hb h.size) (fun hm=>by
   grind)).trans (h.block b hb hs)⟩
theorem aV.mono {S T:List Nat} {W W':World} (h:aV S W W') (uv:∀b∈S,b∈T):aV T W W':=
 ⟨h.os,h.tape,h.output,h.size,fun b hb ht=>h.block b hb (fun hs=>ht (uv b hs))⟩
theorem aV.below {S:List Nat} {W W':World} (h:aV S W W') {n:Nat} (hn:n≤W.heap.size) (hs:∀b∈S,n≤b):Below n W W':=
 ⟨h.os,h.tape,h.output,h.size,fun b hb=>h.block b (Nat.lt_of_lt_of_le hb hn) (fun hm=>Nat.not_le.2 hb (hs b hm))⟩
theorem kU.lt {W:World} {b:Nat} {cs:List Value} {t:TypeId} (h:kU W b cs t):b<W.heap.size:=by
 unfold kU at h
 grind
theorem kU.bk {S:List Nat} {W W':World} {b:Nat} {cs:List Value} {t:TypeId} (h:kU W b cs t) (hk:aV S W W') (hb:b∉S):kU W' b cs t:=by
 have:=hk.block b h.lt hb
 unfold kU at*
 simp_all
theorem kU.cell {W:World} {b:Nat} {cs:List Value} {t:TypeId} (h:kU W b cs t) (i:Nat):W.cell? (Addr.mk b i none)=cs[i]?:=by
 unfold kU at h
 simp[World.cell?,h]
theorem kU.jC {W:World} {b:Nat} {cs:List Value} {t:TypeId} (h:kU W b cs t) (i:Nat) (s:Option Nat):W.frozen? (Addr.mk b i s)=false:=by
 unfold kU at h
 simp[World.frozen?,h]
theorem kU.set {W:World} {b:Nat} {cs:List Value} {t:TypeId} (h:kU W b cs t) (i:Nat) (v:Value):kU (W.setCell (Addr.mk b i none) v) b (cs.set i v) t:=by
 unfold kU at*
 simp[World.setCell,Array.getElem?_modify,h]
theorem wq (W:World) (o:Obj) (S:List Nat):aV S W (W.alloc o):=
 ⟨rfl,rfl,rfl,by simp,fun b hb _=>by show(W.heap.push o)[b]?=_;grind⟩
theorem PO (W:World) (cs:Array Value) (t:TypeId):kU (W.alloc (.cells cs t)) W.heap.size cs.toList t:=by
 show(W.heap.push _)[W.heap.size]?=_
 simp
theorem oB (W:World) (S:List Nat):aV S W W.drew:=⟨rfl,rfl,rfl,Nat.le_refl _,fun _ _ _=>rfl⟩
theorem kU.drew {W:World} {b:Nat} {cs:List Value} {t:TypeId} (h:kU W b cs t):kU W.drew b cs t:=h
theorem bw (b o n:Nat):(Addr.mk b o none).add n=Addr.mk b (o+n) none:=by
 unfold Addr.add
 simp
section
variable {W:World}
theorem vL {A B:Prop}:af false A B=B:=rfl
theorem Y2 {c:Prop} [Decidable c] {A B:Prop}:af (decide c) A B↔(c→A)∧(¬c→B):=by
 by_cases h:c<;>simp[af,h]
theorem D9 {cs:Array Value} {t:TypeId} {K:Nat→World→Prop} (hk:∀b W',b=W.heap.size→aV [] W W'→kU W' b cs.toList t→K b W'):Fx (.cells cs t) W K:=
 hk _ _ rfl (wq _ _ _) (PO _ _ _)
end
theorem jd {x:Int} (h1: -9223372036854775808≤x) (h2:x≤9223372036854775807):IntKind.i64.wrap x=x:=by
 rw[IntKind.wrap_i64];omega
theorem aV.cell {S:List Nat} {W W':World} (h:aV S W W') {a:Addr} {v:Value} (hc:W.cell? a=some v) (hs:a.block∉S):W'.cell? a=some v:=by
 have hb:a.block<W.heap.size:=by
  unfold World.cell? at hc
  grind
 unfold World.cell? at*
 rw[h.block _ hb hs]
 omega
theorem aV.cells {S:List Nat} {W W':World} (h:aV S W W') {a:Addr} (hs:a.block∉S):∀(vs:List Value) (i:Nat),dS W a i vs→dS W' a i vs
 |[],_,_=>trivial
 |v::vs,i,hc=>⟨h.cell hc.1 (by unfold Addr.add;grind),aV.cells h hs vs (i+1) hc.2⟩
theorem aV.nil {S:List Nat} {W W':World} (h:aV [] W W'):aV S W W':=h.mono (by simp)
theorem aV.push {S:List Nat} {W W' gZ:World} (h:aV [] W W') (k:aV S W' gZ) (ht:∀b∈S,W.heap.size≤b):aV [] W gZ:=
 h.trans' k fun b hb=>.inr (ht b hb)
theorem cM {b:Bool} {A B:Prop} (h1:b=true→A) (h2:b=false→B):af b A B:=
 match b,h1,h2 with|true,h1,_=>h1 rfl|false,_,h2=>h2 rfl
theorem fW {c:Prop} [Decidable c] {A B:Prop} (h1:c→A) (h2:¬c→B):af (decide c) A B:=Y2.2 ⟨h1,h2⟩
theorem oK {a b:Int} {A B:Prop} (h1:a=b→A) (h2:a≠b→B):af (a==b) A B:=cM (fun h=>h1 (by simp_all)) fun h=>h2 (by simp_all)
theorem WI {a b:Int} {A B:Prop} (h1:a≠b→A) (h2:a=b→B):af (a !=b) A B:=cM (fun h=>h1 (by simp_all)) fun h=>h2 (by simp_all)
theorem bN {b:Bool} {A B:Prop} (h1:b=false→A) (h2:b=true→B):af (!b) A B:=
 match b,h1,h2 with|true,_,h2=>h2 rfl|false,h1,_=>h1 rfl
open Go Go.RowKit Go.Deep Go.ChangeShapes Go.WideShapes
def EP (P:Program) (W:World):Nat→TypeId→List Value→Prop
 |0,_,_=>False
 |n+1,t,cs=>match P.underlying t with
  |some (.int k)=>∃x,cs=[.int k x]∧(Lit.int k x).wf=true
  |some .bool=>∃b,cs=[.bool b]
  |some .string=>∃s:ByteArray,cs=[.string s]∧s.size≤maxLen
  |some (.slice e)=>cs=[.slice none 0 0]∨∃a len cap,cs=[.slice (some a) len cap]∧len≤cap∧cap≤maxLen∧
   ∀i,i<len→∃sf,dS W (a.add (i*P.cellsOf e)) 0 sf∧EP P W n e sf
  |some (.struct fs)=>cs.length=P.cellsOf t∧∀(i:Nat) (f:Field),fs[i]?=some f→EP P W n f.type ((cs.drop f.offset).take (P.cellsOf f.type))
  |_=>True
theorem oh {W:World} {a:Addr}:∀(cs:List Value) (i:Nat),(∀j v,cs[j]?=some v→W.cell? (a.add (i+j))=some v)→dS W a i cs
 |[],_,_=>trivial
 |v::vs,i,h=>⟨by have:=h 0 v rfl;omega,oh vs (i+1) fun j u hu=>by have:=h (j+1) u (by simp_all);grind⟩
theorem yf {H:Type} {enc:TypeId×Value→H} {P:Program} {W:World} {base:Nat} {spare:Nat→Bool} {held:Bool}:∀(fuel:Nat) (t:TypeId) (cs:List Value) (x:DataW H×List MemPlace),
 DataW.trod enc P W base spare held fuel t cs=some x→EP P W fuel t cs
 |0,t,cs,x,h=>by simp[DataW.trod] at h
 |n+1,t,cs,x,h=>by
  unfold EP
  split
  ·rename_i k ht
   obtain⟨y,h1,_,h2⟩:=DataW.trod_int ht h
   simp_all
  ·rename_i ht
   obtain⟨y,h1,_⟩:=DataW.trod_bool ht h
   simp_all
  ·rename_i ht
   obtain⟨y,h1,_,h2⟩:=DataW.trod_string ht h
   simp_all
  ·rename_i e ht
   rcases DataW.trod_slice ht h with⟨h1,_⟩|⟨a,len,cap,elems,rest,n',mC,h1,_,_,hl,hm,hlen,hel,_,_⟩
   ·simp_all
   ·obtain rfl:n'=n:=by omega
    refine .inr ⟨a,len,cap,h1,hl,hm,fun i hi=>?_⟩
    have he:=hel i hi
    rw[List.getElem?_eq_getElem (by omega)] at he
    obtain⟨sf,hc,vG⟩:=Option.bind_eq_some_iff.1 he
    obtain⟨_,kT,dZ⟩:=World.cells?_some hc
    refine⟨sf,oh sf 0 fun j v hj=>?_,yf n' _ _ _ vG⟩
    grind
  ·rename_i fs ht
   obtain⟨xs,n',mC,_,hl,ED,hf⟩:=DataW.trod_struct ht h
   obtain rfl:n'=n:=by omega
   refine⟨hl,fun i f hi=>?_⟩
   have h1:=hf i f hi
   have h2:i<xs.length:=by grind
   rw[List.getElem?_eq_getElem h2] at h1
   exact yf n' _ _ _ h1
  simp
section
variable {P:Program} {W:World} {n:Nat} {t:TypeId}
end
theorem xe {W:World} {a:Addr} {v:Value} (h:W.cell? a=some v):a.block<W.heap.size:=by
 unfold World.cell? at h
 grind
theorem cO (a:Addr) (n:Nat):(a.add n).block=a.block:=by unfold Addr.add;grind
theorem cW:maxLen=9223372036854775807:=rfl
theorem OV {α:Type} {l:List α} (h:l.length=1):∃a,l=[a]:=by match l,h with|[a],_=>simp
theorem VF {α:Type} {l:List α} (h:l.length=2):∃a b,l=[a,b]:=by match l,h with|[a,b],_=>simp
section
variable {α:Type} (f:α→List Value) {k:Nat}
theorem nj (hk:∀x,(f x).length=k):∀l:List α,(l.flatMap f).length=l.length*k
 |[]=>by simp
 |x::l=>by rw[List.flatMap_cons,List.length_append,nj hk l,hk,List.length_cons,Nat.succ_mul,Nat.add_comm]
end
structure Bs (W:World) (s:Sl) (l:List UInt8):Prop where
 len:s.len=l.length
 pE:l.length≤9223372036854775807
 at_:∀i b,l[i]?=some b→∃p,s.a=some p∧W.cell? (p.add i)=some (.int .u8 b.toNat)
theorem Bs.bk {W W':World} {s:Sl} {l:List UInt8} (h:Bs W s l) {S:List Nat} (hk:aV S W W') (hs:∀p,s.a=some p→p.block<W.heap.size→p.block∉S):Bs W' s l:=
 ⟨h.len,h.pE,fun i b hb=>let⟨p,hp,hc⟩:=h.at_ i b hb
  ⟨p,hp,hk.cell hc (by have:=xe hc;rw[cO] at this⊢;simp_all)⟩⟩
theorem Bs.Kq {W W':World} {s:Sl} {l:List UInt8} (h:Bs W s l) (hk:aV [] W W'):Bs W' s l:=h.bk hk (by simp)
def kL (l:List UInt8):ByteArray:=⟨l.toArray⟩
theorem Bs.cells {W:World} {p:Addr} {n c:Nat} {l:List UInt8} (h:Bs W ⟨some p,n,c⟩ l):∀i b,l[i]?=some b→W.cell? (p.add i)=some (.int .u8 b.toNat):=fun i b hb=>by
 obtain⟨q,hq,hc⟩:=h.at_ i b hb
 simp_all
theorem Bs.nil {W:World} {n c:Nat} {l:List UInt8} (h:Bs W ⟨none,n,c⟩ l):l=[]:=by
 cases l with
 |nil=>rfl
 |cons b l=>obtain⟨p,hp,_⟩:=h.at_ 0 b rfl;grind
theorem foldl_push (l:List UInt8):∀(acc:ByteArray),(l.map fun b=>((b.toNat:Nat):Int)).foldl (fun r n=>r.push (UInt8.ofNat n.toNat)) acc=⟨acc.data++l.toArray⟩:=by
 induction l with
 |nil=>simp
 |cons b l ih=>
  simp_all
theorem yz {P:Program} {W:World} {s d e:TypeId} (hs:P.underlying s=some (.slice e)) (he:P.underlying e=some (.int .u8)) (hd:P.underlying d=some .string) {x:Sl} {l:List UInt8} (h:Bs W x l)
 {K:ByteArray→World→Prop} (hk:K (kL l) W):bG P (.val (.one .str)) (convert s d (.slice x.a x.len x.cap)) W K:=by
 refine⟨kL l,W,?_,hk⟩
 obtain⟨a,n,c⟩:=x
 rw[run_convert_bytes_string W s d e a n c hs he hd]
 cases a with
 |none=>rw[h.nil];rfl
 |some p=>
  have hl:n=l.length:=h.len
  have hc:=run_loadCells_list (P:=P) (w:=W) p (l.map fun b=>Value.int .u8 b.toNat) (fun j v hj=>by
   rw[List.getElem?_map] at hj
   obtain⟨b,hb,rfl⟩:=Option.map_eq_some_iff.1 hj
   exact h.cells j b hb)
  rw[List.length_map,←hl] at hc
  rw[run_bytesToString W p n c (l.map fun b=>((b.toNat:Nat):Int)) (by simp_all),foldl_push]
  simp[kL,WH.enc,Ty.enc,K1.enc]
def al:List UInt8→List UInt8→Bool
 |_,[]=>false
 |[],_::_=>true
 |a::x,b::y=>if a=b then al x y else decide (a<b)
theorem oC:∀(i:Nat) (x y:List UInt8) (a b:UInt8),(∀j,j<i→x[j]?=y[j]?)→x[i]?=some a→y[i]?=some b→a≠b→al x y=decide (a<b)
 |0,x,y,a,b,_,hx,hy,bb=>by
  cases x with
  |nil=>simp_all
  |cons u x=>cases y with
   |nil=>simp_all
   |cons v y=>
    simp only[List.getElem?_cons_zero,Option.some.injEq] at hx hy
    subst hx;subst hy
    simp[al,bb]
 |i+1,x,y,a,b,h,hx,hy,bb=>by
  cases x with
  |nil=>simp_all
  |cons u x=>cases y with
   |nil=>simp_all
   |cons v y=>
    have h0:=h 0 (by omega)
    simp only[List.getElem?_cons_zero,Option.some.injEq] at h0
    subst h0
    simp only[al,if_true]
    exact oC i x y a b (fun j hj=>by grind) (by simp_all) (by simp_all) bb
theorem qX:∀(x y:List UInt8),(∀j,j<x.length→j<y.length→x[j]?=y[j]?)→al x y=decide (x.length<y.length)
 |x,[],_=>by simp[al]
 |[],v::y,_=>by rfl
 |u::x,v::y,h=>by
  have h0:=h 0 (by simp) (by simp)
  simp only[List.getElem?_cons_zero,Option.some.injEq] at h0
  subst h0
  simp only[al,if_true]
  rw[qX x y fun j h1 h2=>by have:=h (j+1) (by simp_all) (by simp_all);grind]
  simp
theorem amN {a b:UInt8}:decide ((a.toNat:Int)<(b.toNat:Int))=decide (a<b):=by
 rw[decide_eq_decide,UInt8.lt_iff_toNat_lt];omega
theorem amO {a b:UInt8}:((a.toNat:Int)≠(b.toNat:Int))↔a≠b:=by
 constructor
 ·grind
 ·intro h e;exact h (UInt8.toNat_inj.1 (by omega))
def lJ (x y:List UInt8):Int:=if al x y then -1 else if al y x then 1 else 0
theorem acW (l:List UInt8) (i:Nat):(kL l)[i]! =l[i]?.getD default:=by
 by_cases h:i<l.length
 ·have hs:i<(kL l).size:=by simpa[kL,ByteArray.size] using h
  rw[getElem!_pos (kL l) i hs,List.getElem?_eq_getElem h]
  rfl
 ·have hs:¬i<(kL l).size:=by simpa[kL,ByteArray.size] using h
  simp_all
theorem K8 {i:Nat} {x y:List UInt8} {a b:UInt8} (h:∀j,j<i→x[j]?=y[j]?) (hx:x[i]?=some a) (hy:y[i]?=some b) (bb:a≠b):al y x=decide (b<a):=
 oC i y x b a (fun j hj=>(h j hj).symm) hy hx (Ne.symm bb)
theorem agO (x y:List UInt8):Extern.BytealgCompare.cmp (kL x) (kL y)=lJ x y:=by
 unfold Extern.BytealgCompare.cmp lJ
 have hsx:(kL x).size=x.length:=by rfl
 have hsy:(kL y).size=y.length:=by rfl
 rw[hsx,hsy]
 split
 ·rename_i i hi
  have hp:=List.find?_some hi
  have hm:=List.mem_of_find?_eq_some hi
  rw[List.mem_range] at hm
  have aY:∀j,j<i→x[j]?=y[j]?:=fun j hj=>by
   have:=List.find?_range_eq_some.1 hi
   have h2:=this.2.2 j hj
   simp only[acW,bne_iff_ne,Bool.not_eq_true',bne_eq_false_iff_eq] at h2
   grind
  have hx:i<x.length:=by omega
  have hy:i<y.length:=by omega
  simp only[acW,List.getElem?_eq_getElem hx,List.getElem?_eq_getElem hy,Option.getD_some,bne_iff_ne] at hp⊢
  rw[oC i x y _ _ aY (List.getElem?_eq_getElem hx) (List.getElem?_eq_getElem hy) hp,K8 aY (List.getElem?_eq_getElem hx) (List.getElem?_eq_getElem hy) hp]
  grind
 ·rename_i hn
  have bF:∀j,j<x.length→j<y.length→x[j]?=y[j]?:=fun j hx hy=>by
   have:=List.find?_eq_none.1 hn j (by grind)
   simp only[acW,bne_iff_ne,ne_eq,Decidable.not_not,List.getElem?_eq_getElem hx,List.getElem?_eq_getElem hy,Option.getD_some] at this
   simp_all
  rw[qX x y bF,qX y x fun j h1 h2=>(bF j h2 h1).symm]
  simp
theorem sk {P:Program} {W:World}:∀(l:List UInt8) (p:Addr) (acc:ByteArray),(∀i b,l[i]?=some b→W.cell? (p.add i)=some (.int .u8 b.toNat))→
 (Extern.Bytes.loadBytes p l.length acc).run P W=.ok ⟨acc.data++l.toArray⟩ W
 |[],p,acc,_=>by rfl
 |b::l,p,acc,h=>by
  have h0:=h 0 b rfl
  rw[show p.add 0=p from by rfl] at h0
  have ih:=sk (P:=P) (W:=W) l (p.add 1) (acc.push b) fun i c hi=>by
   have:=h (i+1) c (by simp_all)
   rw[show(p.add 1).add i=p.add (i+1) from ?_]
   ·omega
   ·unfold Addr.add
    grind
  simp only[List.length_cons,Extern.Bytes.loadBytes,Sem.run_bind,run_load,h0,Result.andThen_ok]
  simp_all
theorem wA {P:Program} {W:World} {x:Sl} {l:List UInt8} (h:Bs W x l):(Extern.Bytes.bytesOf (.slice x.a x.len x.cap)).run P W=.ok (kL l) W:=by
 obtain⟨a,n,c⟩:=x
 cases a with
 |none=>rw[h.nil];rfl
 |some p=>
  have hl:n=l.length:=h.len
  simp only[Extern.Bytes.bytesOf]
  rw[hl,sk l p _ h.cells]
  simp[kL]
theorem wB (bs:ByteArray):∀(n i:Nat) (r:List UInt8),bs.size - i=n→ByteArray.toList.loop bs i r=r.reverse++bs.data.toList.drop i
 |0,i,r,h=>by
  rw[ByteArray.toList.loop,if_neg (by omega),List.drop_eq_nil_of_le (by simp only[Array.length_toList];have:bs.size=bs.data.size:=rfl;omega),List.append_nil]
 |n+1,i,r,h=>by
  have hi:i<bs.data.toList.length:=by simp only[Array.length_toList];have:bs.size=bs.data.size:=rfl;omega
  rw[ByteArray.toList.loop,if_pos (by omega),wB bs n (i+1) _ (by omega),List.drop_eq_getElem_cons hi,List.reverse_cons,List.append_assoc]
  congr 2
  have:i<bs.data.size:=by omega
  show[bs.get! i]++_=_
  simp only[ByteArray.get!,List.singleton_append,List.cons.injEq,and_true]
  simp_all
theorem zR (l:List UInt8):ByteArray.toList (kL l)=l:=by
 rw[ByteArray.toList,wB _ _ 0 [] rfl];rfl
theorem RS (x y:List UInt8):(ByteArray.toList (kL x)==ByteArray.toList (kL y))=decide (x=y):=by
 rw[zR,zR,Bool.eq_iff_iff];simp
theorem Bs.none (W:World):Bs W ⟨none,0,0⟩ []:=⟨rfl,by simp,fun i b h=>by grind⟩
theorem IL {P:Program} {W:World} {g:Nat} {fn:Func} (hf:P.funcs[g]?=some fn) (h1:(fn.name== "runtime.NumGoroutine")=false) (h2:fn.body.isNone=true) (h3:Extern.findNext fn=none) (h4:Extern.find fn=some Extern.BytealgCompare.compare)
 {a b:Sl} {x y:List UInt8} (ha:Bs W a x) (hb:Bs W b y) {K:Int×Unit→World→Prop} (hk:K (lJ x y,()) W):
 Fy P g [.slice a.a a.len a.cap,.slice b.a b.len b.cap] [.one (.int .i64)] W K:=by
 refine⟨(lJ x y,()),W,?_,hk⟩
 have hc:∀u v,Extern.BytealgCompare.compare ⟨[u,v]⟩=(do pure (goInt (Extern.BytealgCompare.cmp (←Extern.Bytes.bytesOf u) (←Extern.Bytes.bytesOf v)))):=fun _ _=>rfl
 simp only[callFunc,Sem.run_bind,run_program,Result.andThen_ok,hf,h1,h2,h3,h4,Bool.false_eq_true,if_false,if_true,run_mark,hc,wA ha,wA hb,agO]
 rfl
def bX (W:World) (B:Nat) (e:TypeId) (size:Nat) (s:Sl) (xs:List Value):Prop:=W.ownsRow B e size (.slice s.a s.len s.cap) s.len xs
def aS (s:Sl):List Nat:=match s.a with|some p=>[p.block]|none=>[]
theorem bX.nil (W:World) (B:Nat) (e:TypeId) (size:Nat):bX W B e size ⟨none,0,0⟩ []:=World.ownsRow_nil W B e size
theorem bX.bk {W W':World} {B:Nat} {e:TypeId} {size:Nat} {s:Sl} {xs:List Value} (h:bX W B e size s xs) {S:List Nat} (hk:aV S W W') (hs:∀b∈aS s,b∉S):bX W' B e size s xs:=by
 refine⟨h.1,?_⟩
 rcases h.2 with hn|⟨g,cap,cur,hv,hb,Es,rest⟩
 ·simp_all
 ·refine .inr ⟨g,cap,cur,hv,hb,?_,rest⟩
  injection hv with h1 h2 h3
  rw[hk.block g (Array.getElem?_eq_some_iff.1 Es).1 (hs g (by unfold aS;simp_all))]
  omega
theorem bX.lt {W:World} {B:Nat} {e:TypeId} {size:Nat} {s:Sl} {xs:List Value} (h:bX W B e size s xs):∀b∈aS s,B≤b∧b<W.heap.size:=by
 intro b hb
 rcases h.2 with⟨hn,_⟩|⟨g,cap,cur,hv,hg,Es,_⟩
 ·injection hn with h1
  unfold aS at hb;simp_all
 ·injection hv with h1
  unfold aS at hb;grind
theorem bX.fresh {W W':World} {B:Nat} {e:TypeId} {size:Nat} {s:Sl} {xs:List Value} (h:bX W B e size s xs) {S:List Nat} (hk:aV S W W') (hs:∀b∈S,W.heap.size≤b):bX W' B e size s xs:=
 h.bk hk fun b hb hm=>by have:=(h.lt b hb).2;grind
theorem bX.len {W:World} {B:Nat} {e:TypeId} {size:Nat} {s:Sl} {xs:List Value} (h:bX W B e size s xs):xs.length=s.len*size:=h.1
theorem bX.cell {W:World} {B:Nat} {e:TypeId} {size:Nat} {s:Sl} {xs:List Value} (h:bX W B e size s xs) {j:Nat} {u:Value} (hj:xs[j]?=some u):∃g,s.a=some ⟨g,0,none⟩∧W.cell? ⟨g,j,none⟩=some u:=by
 rcases h.2 with⟨hn,h0⟩|⟨g,cap,cur,hv,hb,Es,_⟩
 ·have:=h.1
  simp_all
 ·injection hv with h1
  refine⟨g,h1,?_⟩
  have:=World.ownsRow.cells h (g:=g) (by rw[h1];rfl) j u hj
  rwa [bw,Nat.zero_add] at this
structure Rs (W:World) (size:Nat) (s:Sl) (xs:List Value):Prop where
 len:xs.length=s.len*size
 cap:s.len≤s.cap
 at_:∀j u,xs[j]?=some u→∃p,s.a=some p∧W.cell? (p.add j)=some u
theorem Rs.nil (W:World) (size:Nat):Rs W size ⟨none,0,0⟩ []:=⟨by simp,Nat.le_refl _,fun j u h=>by grind⟩
theorem Rs.bk {W W':World} {size:Nat} {s:Sl} {xs:List Value} (h:Rs W size s xs) {S:List Nat} (hk:aV S W W') (hs:∀b∈aS s,b<W.heap.size→b∉S):Rs W' size s xs:=
 ⟨h.len,h.cap,fun j u hu=>let⟨p,hp,hc⟩:=h.at_ j u hu
  ⟨p,hp,hk.cell hc (by have:=xe hc;rw[cO] at this⊢;exact hs _ (by unfold aS;simp_all) this)⟩⟩
theorem Rs.Kq {W W':World} {size:Nat} {s:Sl} {xs:List Value} (h:Rs W size s xs) (hk:aV [] W W'):Rs W' size s xs:=h.bk hk (by simp)
theorem bX.cap {W:World} {B:Nat} {e:TypeId} {size:Nat} {s:Sl} {xs:List Value} (h:bX W B e size s xs):s.len≤s.cap:=by
 rcases h.2 with⟨hn,h0⟩|⟨g,cap,cur,hv,_,_,hc,_⟩
 all_goals simp_all
theorem bX.rs {W:World} {B:Nat} {e:TypeId} {size:Nat} {s:Sl} {xs:List Value} (h:bX W B e size s xs):Rs W size s xs:=
 ⟨h.len,h.cap,fun j u hu=>let⟨g,hg,hc⟩:=h.cell hu;⟨_,hg,by rw[bw,Nat.zero_add];omega⟩⟩
theorem bX.blank {W:World} {B b:Nat} {e:TypeId} {size:Nat} (h:kU W b [] e) (hB:B≤b):bX W B e size ⟨some ⟨b,0,none⟩,0,0⟩ []:=
 ⟨by simp,.inr ⟨b,0,#[],rfl,hB,h,Nat.le_refl _,Nat.zero_le _,by simp,by simp⟩⟩
theorem ec (a:Addr) (m n:Nat):(a.add m).add n=a.add (m+n):=by
 unfold Addr.add
 grind
abbrev Sl.val (s:Sl):Value:=.slice s.a s.len s.cap
def Mj (A:Nat→Prop) (s:Sl):Prop:=s.len≠0→∀b∈aS s,A b
theorem Mj.mono {A A':Nat→Prop} {s:Sl} (h:Mj A s) (hA:∀b,A b→A' b):Mj A' s:=fun hn b hb=>hA b (h hn b hb)
theorem Mj.nil (A:Nat→Prop):Mj A ⟨none,0,0⟩:=fun h=>absurd rfl h
theorem Bs.QL {W W':World} {s:Sl} {l:List UInt8} (h:Bs W s l) {S:List Nat} (hk:aV S W W') (hs:s.len≠0→∀p,s.a=some p→p.block∉S):Bs W' s l:=
 ⟨h.len,h.pE,fun i b hb=>let⟨p,hp,hc⟩:=h.at_ i b hb
  ⟨p,hp,hk.cell hc (by rw[cO];exact hs (by have:=(List.getElem?_eq_some_iff.1 hb).1;have:=h.len;omega) p hp)⟩⟩
theorem Rs.QL {W W':World} {size:Nat} {s:Sl} {xs:List Value} (h:Rs W size s xs) {S:List Nat} (hk:aV S W W') (hs:s.len≠0→∀b∈aS s,b∉S):Rs W' size s xs:=
 ⟨h.len,h.cap,fun j u hu=>let⟨p,hp,hc⟩:=h.at_ j u hu
  ⟨p,hp,hk.cell hc (by
   rw[cO]
   refine hs (fun h0=>?_) _ (by unfold aS;simp_all)
   have:=(List.getElem?_eq_some_iff.1 hu).1
   rw[h.len,h0,Nat.zero_mul] at this
   omega)⟩⟩
def xk (W W':World):Nat→Prop:=fun b=>W.heap.size≤b∧b<W'.heap.size
structure BsA (A:Nat→Prop) (W:World) (s:Sl) (l:List UInt8):Prop where
 bs:Bs W s l
 a:Mj A s
theorem BsA.bk {A:Nat→Prop} {W W':World} {s:Sl} {l:List UInt8} (h:BsA A W s l) {S:List Nat} (hk:aV S W W') (hs:∀b∈S,¬A b):BsA A W' s l:=
 ⟨h.bs.QL hk fun hn p hp hm=>hs _ hm (h.a hn _ (by unfold aS;simp_all)),h.a⟩
theorem BsA.mono {A A':Nat→Prop} {W:World} {s:Sl} {l:List UInt8} (h:BsA A W s l) (hA:∀b,A b→A' b):BsA A' W s l:=⟨h.bs,h.a.mono hA⟩
theorem Rs.amP {W W':World} {size:Nat} {s:Sl} {xs:List Value} (h:Rs W size s xs) {A:Nat→Prop} (ha:Mj A s) {S:List Nat} (hk:aV S W W') (hs:∀b∈S,¬A b):Rs W' size s xs:=
 h.QL hk fun hn b hb hm=>hs b hm (ha hn b hb)
structure p9 {α β:Type} (f:α→List Value) (k:Nat) (R:(Nat→Prop)→World→α→β→Prop) (A:Nat→Prop) (W:World) (s:Sl) (ps:List β):Prop where
 row:∃xs:List α,xs.length=ps.length∧Rs W k s (xs.flatMap f)∧∀(i:Nat) (x:α) (p:β),xs[i]?=some x→ps[i]?=some p→R A W x p
 len:s.len=ps.length
 a:Mj A s
 nil:s.a=none→s.len=0∧s.cap=0
theorem p9.bk {α β:Type} {f:α→List Value} {k:Nat} {R:(Nat→Prop)→World→α→β→Prop} {A:Nat→Prop} {W W':World} {s:Sl} {ps:List β} (h:p9 f k R A W s ps) {S:List Nat} (hk:aV S W W') (hs:∀b∈S,¬A b)
 (hR:∀x p,R A W x p→R A W' x p):p9 f k R A W' s ps:=
 ⟨let⟨xs,h1,h2,h3⟩:=h.row;⟨xs,h1,h2.amP h.a hk hs,fun i x p hx hp=>hR _ _ (h3 i x p hx hp)⟩,h.len,h.a,h.nil⟩
theorem p9.mono {α β:Type} {f:α→List Value} {k:Nat} {R:(Nat→Prop)→World→α→β→Prop} {A A':Nat→Prop} {W:World} {s:Sl} {ps:List β} (h:p9 f k R A W s ps) (hA:∀b,A b→A' b)
 (hR:∀x p,R A W x p→R A' W x p):p9 f k R A' W s ps:=
 ⟨let⟨xs,h1,h2,h3⟩:=h.row;⟨xs,h1,h2,fun i x p hx hp=>hR _ _ (h3 i x p hx hp)⟩,h.len,h.a.mono hA,h.nil⟩
theorem p9.none {α β:Type} (f:α→List Value) (k:Nat) (R:(Nat→Prop)→World→α→β→Prop) (A:Nat→Prop) (W:World):p9 f k R A W ⟨none,0,0⟩ []:=
 ⟨⟨[],rfl,Rs.nil W k,fun i x p h=>by simp⟩,rfl,Mj.nil A,fun _=>⟨rfl,rfl⟩⟩
abbrev inC (x:Int):List Value:=[.int .i64 x]
abbrev aaC:=p9 inC 1 fun(_:Nat→Prop) (_:World) (x y:Int)=>x=y
theorem aaC.rs {A:Nat→Prop} {W:World} {s:Sl} {l:List Int} (h:aaC A W s l):Rs W 1 s (l.map (Value.int .i64)):=by
 obtain⟨xs,h1,h2,h3⟩:=h.row
 have:xs=l:=by
  apply List.ext_getElem?
  grind
 subst this
 rwa [List.map_eq_flatMap]
theorem bX.Va {W:World} {B:Nat} {e:TypeId} {size:Nat} {s:Sl} {xs:List Value} (h:bX W B e size s xs) (hn:s.a=none):s.len=0∧s.cap=0:=by
 rcases h.2 with⟨hv,h0⟩|⟨g,cap,cur,hv,_⟩
 all_goals simp_all
theorem bX.row {α β:Type} {f:α→List Value} {k:Nat} {R:(Nat→Prop)→World→α→β→Prop} {A:Nat→Prop} {W:World} {B:Nat} {e:TypeId} {s:Sl} {xs:List α} {ps:List β} (h:bX W B e k s (xs.flatMap f)) (hf:∀x,(f x).length=k) (hk:0<k) (hl:xs.length=ps.length)
 (ha:Mj A s) (hR:∀(i:Nat) (x:α) (p:β),xs[i]?=some x→ps[i]?=some p→R A W x p):p9 f k R A W s ps:=
 ⟨⟨xs,hl,h.rs,hR⟩,by
  have:=h.len
  rw[nj f hf] at this
  have:=Nat.eq_of_mul_eq_mul_right hk this
  omega,ha,h.Va⟩
theorem pI {P:Program} {W:World} {t e:TypeId} {i:TypeInfo} {z:Value} {size bytes:Nat} (ht:P.underlying t=some (.slice e)) (hi:P.info? e=some i) (hz:i.zero=some z) (ed:i.size=size) (Wy:i.bytes=bytes)
 (Ce:z.cells.size=size) (h0:0<size) {B:Nat} {s:Sl} {xs:List Value} (ho:bX W B e size s xs) {a:Addr} {m c:Nat} (news:List Value) (hl:news.length=m*size) (hn:∀j u,news[j]?=some u→W.cell? (a.add j)=some u)
 (h1:∀u∈news,u.oneCell'=true) (hb:(s.len+m)*bytes≤140737488355328) (h63:s.len+m≤9223372036854775807) (hB:B≤W.heap.size) {K:Sl→World→Prop}
 (hk:∀r W',bX W' B e size r (xs++news)→aV (aS s) W W'→r.len=s.len+m→(∀b∈aS r,b∈aS s∨xk W W' b)→(r.a=none→s.a=none)→K r W'):
 bG P (.val (.one .sl)) (Builtin.append_ #[t,t] t #[.slice s.a s.len s.cap,.slice (some a) m c]) W K:=by
 obtain⟨v',w',hr,nG,hg,Kg,dZ⟩:=run_append_own_at (P:=P) W B t t e i z size bytes ht hi hz ed Wy Ce h0 _ s.len xs ho a m c news hl hn h1 (by rw[cW];omega) hb hB
 have pN:aV (aS s) W w':=⟨hg.os,hg.tape,hg.output,hg.size,fun x hx ED=>hg.block x hx (by
  unfold aS at ED
  obtain⟨p,n,c⟩:=s
  cases p with
  |none=>simp[Value.ownBlock]
  |some p=>simpa[Value.ownBlock] using ED)⟩
 rcases nG.2 with⟨rfl,h00⟩|⟨g,cap,cur,rfl,_,Es,_⟩
 ·refine⟨⟨none,0,0⟩,w',hr,hk _ _ ?_ pN (by simp_all) (by simp[aS]) fun _=>by simp_all⟩
  have h2:=nG
  rw[h00] at h2
  exact h2
 ·refine⟨⟨some ⟨g,0,none⟩,s.len+m,cap⟩,w',hr,hk _ _ nG pN rfl (fun b hb=>?_) fun h=>by grind⟩
  simp only[aS,List.mem_singleton] at hb
  subst hb
  rcases dZ with h|h
  ·left
   simp only[Value.ownBlock] at h
   unfold aS
   grind
  ·right
   simp only[Value.ownBlock,Option.some.injEq] at h
   exact⟨by omega,(Array.getElem?_eq_some_iff.1 Es).1⟩
theorem bX.cut {W:World} {B:Nat} {e:TypeId} {size:Nat} {s:Sl} {xs:List Value} (h:bX W B e size s xs) (n:Nat) (hn:n≤s.len):bX W B e size ⟨s.a,n,s.cap⟩ (xs.take (n*size)):=by
 have hl:=h.len
 have hle:n*size≤s.len*size:=Nat.mul_le_mul_right _ hn
 refine⟨by simp_all,?_⟩
 rcases h.2 with⟨hv,h0⟩|⟨g,cap,cur,hv,hB,Es,hc,hm,gU,yd⟩
 ·simp_all
 ·injection hv with h1 h2 h3
  right
  refine⟨g,cap,cur,?_,hB,Es,by grind,hm,gU,?_⟩
  all_goals grind
end Go.Gp
