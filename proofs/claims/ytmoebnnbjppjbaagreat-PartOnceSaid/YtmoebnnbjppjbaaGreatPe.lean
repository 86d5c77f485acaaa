/- Pe: texts of ours, one behind the other, in short writing (spaces and names cut by a program of ours): Kt, Row1, Dlib, Lib1, Row2, Omap1, Omap2, Slot1, Ls1, Djour, Dslaw, Slot2, Delide, Elide1, Slot3, Dgr2, Dgr1, Dsort, Sort1, Sort2, Sort3. -/
import Derived.Test.YtmoebnnbjppjbaaGreatPa
import Derived.Test.YtmoebnnbjppjbaaGreatPd
import Derived.Test.YtmoebnnbjppjbaaGreatProg
set_option linter.unusedSimpArgs false
set_option linter.unusedVariables false
namespace Go.Th
open Go Go.Gp
abbrev Key:=List UInt8
abbrev Pr:=List UInt8×List UInt8
theorem i_:∀(a:Key),al a a=false
 |[]=>rfl
 |u::x=>by simp only[al,if_true];exact i_ x
theorem cy:∀{a b c:Key},al a b=true→al b c=true→al a c=true
 |_,[],_,h,_=>by simp[al] at h
 |_,_::_,[],_,h=>by simp[al] at h
 |[],_::_,_::_,_,_=>rfl
 |u::x,v::y,w::z,h1,h2=>by
  simp only[al] at h1 h2⊢
  by_cases e1:u=v
  ·subst e1
   by_cases e2:u=w
   ·subst e2
    simp only[if_true] at h1 h2⊢
    exact cy h1 h2
   simp_all
  grind
theorem ie:∀{a b:Key},al a b=false→al b a=false→a=b
 |[],[],_,_=>rfl
 |[],_::_,h,_=>by simp[al] at h
 |_::_,[],_,h=>by simp[al] at h
 |u::x,v::y,h1,h2=>by
  simp only[al] at h1 h2
  by_cases e:u=v
  ·subst e
   simp only[if_true] at h1 h2
   rw[ie h1 h2]
  grind
theorem fc {a b:Key} (h:al a b=true):al b a=false:=by
 cases h':al b a with
 |false=>rfl
 |true=>have:=cy h h';rw[i_] at this;simp_all
theorem iT {a b:Key} (h:al a b=true):a≠b:=fun e=>by subst e;rw[i_] at h;grind
theorem Le (a:Key):al a []=false:=by cases a<;>rfl
theorem Lf {a:Key} (h:a≠[]):al [] a=true:=by cases a with|nil=>simp_all|cons _ _=>rfl
theorem Bi {a b c:Key} (h1:al b a=false) (h2:al b c=true):al a c=true:=by
 cases h:al a b with
 |true=>exact cy h h2
 |false=>rw[ie h h1];omega
theorem mX {a b c:Key} (h1:al a b=true) (h2:al c b=false):al a c=true:=by
 cases h:al b c with
 |true=>exact cy h1 h
 |false=>rw[←ie h h2];omega
theorem le_trans' {a b c:Key} (h1:al b a=false) (h2:al c b=false):al c a=false:=by
 cases h:al c a with
 |false=>rfl
 |true=>have:=mX h h1;simp_all
theorem qe {a b:Key}:lJ a b<0↔al a b=true:=by
 unfold lJ
 grind
theorem xC {a b:Key}:lJ a b=0↔a=b:=by
 unfold lJ
 constructor
 ·intro h
  cases h1:al a b<;>cases h2:al b a<;>simp[h1,h2] at h
  exact ie h1 h2
 ·intro h
  subst h
  simp[i_]
def bO (l:List Key):Prop:=l.Pairwise fun a b=>al a b=true
def Fa (l:List Key) (k:Key):Nat:=(l.takeWhile fun x=>al x k).length
def iI (l:List Key) (k:Key):Nat:=(l.takeWhile fun x=> !al k x).length
theorem Ju {α:Type} (p:α→Bool):∀(l:List α) (n:Nat),n≤l.length→(∀i x,i<n→l[i]?=some x→p x=true)→(∀x,l[n]?=some x→p x=false)→(l.takeWhile p).length=n
 |[],n,h,_,_=>by simp_all
 |a::l,0,_,_,h=>by
  simp_all
 |a::l,n+1,hn,h1,h2=>by
  have h0:=h1 0 a (by omega) (by simp)
  rw[List.takeWhile_cons,if_pos h0,List.length_cons,Ju p l n (by simp_all) (fun i x hi hx=>h1 (i+1) x (by omega) (by simp_all)) fun x hx=>h2 x (by simp_all)]
theorem QO {α:Type} (p:α→Bool):∀(l:List α) (i:Nat) (x:α),i<(l.takeWhile p).length→l[i]?=some x→p x=true
 |[],i,x,h,_=>by grind
 |a::l,i,x,h,hx=>by
  rw[List.takeWhile_cons] at h
  split at h
  ·rename_i ha
   cases i with
   |zero=>simp_all
   |succ i=>exact QO p l i x (by simp_all) (by simp_all)
  simp_all
theorem Ky {α:Type} (p:α→Bool):∀(l:List α) (x:α),l[(l.takeWhile p).length]?=some x→p x=false
 |[],x,h=>by grind
 |a::l,x,h=>by
  rw[List.takeWhile_cons] at h
  split at h
  ·exact Ky p l x (by simp_all)
  simp_all
theorem aaH {α:Type} (p:α→Bool) (l:List α):(l.takeWhile p).length≤l.length:=(List.takeWhile_prefix p).length_le
theorem R_ (l:List Key) (k:Key):Fa l k≤l.length:=aaH _ l
theorem C0 (l:List Key) (k:Key):iI l k≤l.length:=aaH _ l
theorem bO.get {l:List Key} (h:bO l) {i j:Nat} {a b:Key} (GO:i<j) (ha:l[i]?=some a) (hb:l[j]?=some b):al a b=true:=by
 obtain⟨hi,rfl⟩:=List.getElem?_eq_some_iff.1 ha
 obtain⟨hj,rfl⟩:=List.getElem?_eq_some_iff.1 hb
 exact List.pairwise_iff_getElem.1 h i j hi hj GO
theorem Jv {l:List Key} {k:Key} {i:Nat} {x:Key} (hi:i<Fa l k) (hx:l[i]?=some x):al x k=true:=QO _ l i x hi hx
theorem Sa {l:List Key} (h:bO l) {k:Key} {i:Nat} {x:Key} (hi:Fa l k≤i) (hx:l[i]?=some x):al x k=false:=by
 have aY:=(List.getElem?_eq_some_iff.1 hx).1
 have h1:l[Fa l k]?=some (l[Fa l k]'(by omega)):=List.getElem?_eq_getElem _
 have h2:=Ky _ l _ h1
 rcases Nat.lt_or_ge (Fa l k) i with h3|h3
 ·have h4:=h.get h3 h1 hx
  cases h5:al x k with
  |false=>rfl
  |true=>rw[cy h4 h5] at h2;omega
 grind
theorem agX {l:List Key} {k:Key} {i:Nat} {x:Key} (hi:i<iI l k) (hx:l[i]?=some x):al k x=false:=by
 have:=QO _ l i x hi hx
 simp_all
theorem agY {l:List Key} (h:bO l) {k:Key} {i:Nat} {x:Key} (hi:iI l k≤i) (hx:l[i]?=some x):al k x=true:=by
 have aY:=(List.getElem?_eq_some_iff.1 hx).1
 have h1:l[iI l k]?=some (l[iI l k]'(by omega)):=List.getElem?_eq_getElem _
 have h2:al k (l[iI l k]'(by omega))=true:=by simpa using Ky _ l _ h1
 rcases Nat.lt_or_ge (iI l k) i with h3|h3
 ·exact cy h2 (h.get h3 h1 hx)
 grind
theorem agZ {l:List Key} {k:Key} {n:Nat} (hn:n≤l.length) (h1:∀i x,i<n→l[i]?=some x→al x k=true) (h2:∀x,l[n]?=some x→al x k=false):Fa l k=n:=Ju _ l n hn h1 h2
theorem Jw {l:List Key} {k:Key} {n:Nat} (hn:n≤l.length) (h1:∀i x,i<n→l[i]?=some x→al k x=false) (h2:∀x,l[n]?=some x→al k x=true):iI l k=n:=Ju _ l n hn (fun i x hi hx=>by grind) fun x hx=>by simp_all
theorem aha {l:List Key} (h:bO l) (k:Key):iI l k=Fa l k+(if l[Fa l k]?=some k then 1 else 0):=by
 split
 ·rename_i hk
  have aY:=(List.getElem?_eq_some_iff.1 hk).1
  refine Jw (by omega) (fun i x hi hx=>?_) fun x hx=>h.get (by omega) hk hx
  rcases Nat.lt_or_ge i (Fa l k) with h1|h1
  ·exact fc (Jv h1 hx)
  ·have:i=Fa l k:=by omega
   subst this
   rw[hk] at hx;injection hx with hx;subst hx;exact i_ k
 ·rename_i hk
  refine Jw (R_ l k) (fun i x hi hx=>fc (Jv hi hx)) fun x hx=>?_
  have h1:=Sa h (Nat.le_refl _) hx
  cases h2:al k x with
  |true=>rfl
  |false=>have:=ie h1 h2;simp_all
def keys (l:List Pr):List Key:=l.map (·.1)
def gC (k:Key):Bool:=decide (1≤k.length)&&decide (k.length≤16)
def dC (v:Key):Bool:=decide (v.length≤32)
structure cH (l:List Pr):Prop where
 sort:bO (keys l)
 may:∀p∈l,gC p.1=true
 fair:∀p∈l,dC p.2=true
def gF (l:List Pr) (k:Key):List Pr:=l.filter fun p=>p.1 !=k
def fF (l:List Pr) (k v:Key):List Pr:=(l.filter fun p=>al p.1 k)++(k,v)::l.filter fun p=>al k p.1
def dY (l:List Pr) (k:Key):Option Key:=(l.find? fun p=>p.1==k).map (·.2)
def cK (l:List Pr) (k:Key):Bool:=(dY l k).isSome
def lb (l:List Pr) (k:Key):Nat:=Fa (keys l) k
theorem HE (l:List Pr):(keys l).length=l.length:=by simp[keys]
theorem ig (l:List Pr) (i:Nat):(keys l)[i]?=(l[i]?).map (·.1):=by simp[keys]
theorem IM (a b:List Pr):keys (a++b)=keys a++keys b:=by simp[keys]
theorem Fb (l:List Pr) (k:Key):lb l k≤l.length:=by rw[←HE];exact R_ _ _
theorem cH.nil:cH []:=⟨List.Pairwise.nil,by simp,by simp⟩
theorem uG {a b:List Key}:bO (a++b)↔bO a∧bO b∧∀x∈a,∀y∈b,al x y=true:=List.pairwise_append
theorem bD {l:List Pr}:bO (keys l)↔l.Pairwise fun a b=>al a.1 b.1=true:=List.pairwise_map
theorem kI {l:List Pr} (h:bO (keys l)) (p:Pr→Bool):bO (keys (l.filter p)):=bD.2 ((bD.1 h).filter p)
theorem qf {l:List Pr} {k v:Key} {p:Pr} (h:p∈fF l k v):p=(k,v)∨p∈l:=by
 unfold fF at h
 grind
theorem HF {l:List Pr} (h:bO (keys l)) (k v:Key):bO (keys (fF l k v)):=by
 unfold fF
 rw[bD,List.pairwise_append,List.pairwise_cons]
 refine⟨bD.1 (kI h _),⟨fun p hp=>(List.mem_filter.1 hp).2,bD.1 (kI h _)⟩,fun p hp q hq=>?_⟩
 have h1:=(List.mem_filter.1 hp).2
 rcases List.mem_cons.1 hq with rfl|hq
 ·omega
 ·exact cy h1 (List.mem_filter.1 hq).2
theorem cH.put {l:List Pr} (h:cH l) {k v:Key} (hk:gC k=true) (hv:dC v=true):cH (fF l k v):=
 ⟨HF h.sort k v,fun p hp=>by rcases qf hp with rfl|hp;exact hk;exact h.may p hp,fun p hp=>by rcases qf hp with rfl|hp;exact hv;exact h.fair p hp⟩
theorem HG {l:List Pr} (h:bO (keys l)) (k:Key):bO (keys (gF l k)):=kI h _
theorem cH.del {l:List Pr} (h:cH l) (k:Key):cH (gF l k):=⟨HG h.sort k,fun p hp=>h.may p (List.mem_filter.1 hp).1,fun p hp=>h.fair p (List.mem_filter.1 hp).1⟩
theorem cH.sub {l m:List Pr} (h:cH l) (hs:m.Sublist l):cH m:=⟨bD.2 ((bD.1 h.sort).sublist hs),fun p hp=>h.may p (hs.subset hp),fun p hp=>h.fair p (hs.subset hp)⟩
theorem yX {l:List Pr} {k v:Key} (h:dY l k=some v):(k,v)∈l:=by
 unfold dY at h
 rw[Option.map_eq_some_iff] at h
 grind
theorem yY (k:Key):dY [] k=none:=rfl
theorem qy (a b:List Pr) (k:Key):dY (a++b) k=(dY a k).or (dY b k):=by
 unfold dY
 grind
theorem dO (p:Pr) (l:List Pr) (k:Key):dY (p::l) k=if p.1=k then some p.2 else dY l k:=by
 unfold dY
 grind
theorem iJ {l:List Pr} {k:Key}:dY l k=none↔∀p∈l,p.1≠k:=by
 unfold dY
 simp
theorem IN {l:List Pr} (h:bO (keys l)) {k v:Key} (hm:(k,v)∈l):dY l k=some v:=by
 induction l with
 |nil=>simp_all
 |cons p l ih=>
  rw[dO]
  have hs:=bD.1 h
  rw[List.pairwise_cons] at hs
  rcases List.mem_cons.1 hm with rfl|hm
  ·simp
  ·have:=iT (hs.1 _ hm)
   rw[if_neg this]
   exact ih (bD.2 hs.2) hm
theorem qz (l:List Pr) (f:Key→Bool) (k:Key):dY (l.filter fun p=>f p.1) k=if f k=true then dY l k else none:=by
 induction l with
 |nil=>simp[yY]
 |cons p l ih=>
  rw[List.filter_cons]
  by_cases hf:f p.1=true
  ·rw[if_pos hf,dO,dO,ih]
   grind
  ·rw[if_neg hf,ih,dO]
   grind
theorem Ug (l:List Pr) (k x:Key):dY (gF l k) x=if x=k then none else dY l x:=by
 unfold gF
 rw[qz l (fun y=>y !=k) x]
 simp
theorem Mq:∀{l m:List Pr},bO (keys l)→bO (keys m)→(∀k,dY l k=dY m k)→l=m
 |[],[],_,_,_=>rfl
 |[],q::m,_,_,h=>by have:=h q.1;rw[yY,dO,if_pos rfl] at this;simp_all
 |p::l,[],_,_,h=>by have:=h p.1;rw[yY,dO,if_pos rfl] at this;simp_all
 |p::l,q::m,hl,hm,h=>by
  have oN:=bD.1 hl
  have rz:=bD.1 hm
  rw[List.pairwise_cons] at oN rz
  have zz:p.1=q.1:=by
   cases h1:al p.1 q.1 with
   |true=>
    have:=h p.1
    rw[dO,if_pos rfl,dO,if_neg (iT h1).symm] at this
    have h2:=rz.1 _ (yX this.symm)
    have:=fc h2
    simp_all
   |false=>
    cases h2:al q.1 p.1 with
    |true=>
     have:=h q.1
     rw[dO,if_neg (iT h2).symm,dO,if_pos rfl] at this
     have h3:=oN.1 _ (yX this)
     simp_all
    |false=>exact ie h1 h2
  have hv:p.2=q.2:=by
   have:=h p.1
   rw[dO,if_pos rfl,dO,if_pos zz.symm] at this
   simp_all
  have:p=q:=Prod.ext zz hv
  subst this
  congr 1
  refine Mq (bD.2 oN.2) (bD.2 rz.2) fun k=>?_
  by_cases hk:p.1=k
  ·subst hk
   rw[iJ.2 fun x hx=>(iT (oN.1 x hx)).symm,iJ.2 fun x hx=>(iT (rz.1 x hx)).symm]
  ·have:=h k
   rwa [dO,if_neg hk,dO,if_neg hk] at this
theorem Kz {l:List Pr} {k:Key} {i:Nat} {p:Pr} (hi:i<lb l k) (hp:l[i]?=some p):al p.1 k=true:=Jv hi (by rw[ig,hp];rfl)
theorem QP {l:List Pr} (h:bO (keys l)) {k:Key} {i:Nat} {p:Pr} (hi:lb l k≤i) (hp:l[i]?=some p):al p.1 k=false:=Sa h hi (by rw[ig,hp];rfl)
theorem aaI {l:List Pr} {k:Key} {n:Nat} (hn:n≤l.length) (h1:∀i p,i<n→l[i]?=some p→al p.1 k=true) (h2:∀p,l[n]?=some p→al p.1 k=false):lb l k=n:=by
 refine agZ (by rw[HE];omega) (fun i x hi hx=>?_) fun x hx=>?_
 ·rw[ig,Option.map_eq_some_iff] at hx
  grind
 ·rw[ig,Option.map_eq_some_iff] at hx
  grind
theorem yi {l:List Pr} (h:bO (keys l)) (k:Key):dY l k=match l[lb l k]? with|some p=>if p.1=k then some p.2 else none|none=>none:=by
 split
 ·rename_i p hp
  split
  ·rename_i hk
   subst hk
   exact IN h (List.mem_of_getElem? hp)
  ·rename_i hk
   rw[iJ]
   intro q hq e
   obtain⟨i,hi,rfl⟩:=List.getElem_of_mem hq
   have jc:l[i]?=some l[i]:=List.getElem?_eq_getElem hi
   rcases Nat.lt_trichotomy i (lb l k) with h1|h1|h1
   ·exact iT (Kz h1 jc) e
   ·simp_all
   ·have h2:=h.get (i:=lb l k) (j:=i) (a:=p.1) (b:=l[i].1) h1 (by rw[ig,hp];rfl) (by rw[ig,jc];rfl)
    have h3:=QP h (Nat.le_refl _) hp
    simp_all
 ·rename_i hp
  rw[iJ]
  intro q hq e
  obtain⟨i,hi,rfl⟩:=List.getElem_of_mem hq
  rw[List.getElem?_eq_none_iff] at hp
  exact iT (Kz (by omega) (List.getElem?_eq_getElem hi)) e
theorem xD {l:List Pr} (h:bO (keys l)) (k:Key):l.take (lb l k)=l.filter fun p=>al p.1 k:=by
 have h1:(l.take (lb l k)).filter (fun p=>al p.1 k)=l.take (lb l k):=List.filter_eq_self.2 fun p hp=>by
  obtain⟨i,hi,rfl⟩:=List.getElem_of_mem hp
  rw[List.length_take] at hi
  exact Kz (l:=l) (k:=k) (i:=i) (by omega) (by simp)
 have h2:(l.drop (lb l k)).filter (fun p=>al p.1 k)=[]:=List.filter_eq_nil_iff.2 fun p hp=>by
  obtain⟨i,hi,rfl⟩:=List.getElem_of_mem hp
  rw[List.length_drop] at hi
  have:=QP h (i:=lb l k+i) (k:=k) (p:=l[lb l k+i]'(by omega)) (by omega) (List.getElem?_eq_getElem _)
  simp_all
 conv=>rhs;rw[←List.take_append_drop (lb l k) l,List.filter_append,h1,h2,List.append_nil]
theorem Mr {l:List Pr} (h:bO (keys l)) (k:Key):l.drop (lb l k)=l.filter fun p=> !al p.1 k:=by
 have h1:(l.take (lb l k)).filter (fun p=> !al p.1 k)=[]:=List.filter_eq_nil_iff.2 fun p hp=>by
  obtain⟨i,hi,rfl⟩:=List.getElem_of_mem hp
  rw[List.length_take] at hi
  have:=Kz (l:=l) (i:=i) (k:=k) (p:=l[i]'(by omega)) (by omega) (List.getElem?_eq_getElem _)
  simp_all
 have h2:(l.drop (lb l k)).filter (fun p=> !al p.1 k)=l.drop (lb l k):=List.filter_eq_self.2 fun p hp=>by
  obtain⟨i,hi,rfl⟩:=List.getElem_of_mem hp
  rw[List.length_drop] at hi
  have:=QP h (i:=lb l k+i) (k:=k) (p:=l[lb l k+i]'(by omega)) (by omega) (List.getElem?_eq_getElem _)
  simp_all
 conv=>rhs;rw[←List.take_append_drop (lb l k) l,List.filter_append,h1,h2,List.nil_append]
theorem P2 {l:List Pr} {k:Key} (h:dY l k=none):(l.filter fun p=>al k p.1)=l.filter fun p=> !al p.1 k:=by
 refine List.filter_congr fun p hp=>?_
 have bb:=iJ.1 h p hp
 cases h1:al p.1 k with
 |true=>rw[fc h1];rfl
 |false=>cases h2:al k p.1 with
  |true=>rfl
  |false=>exact absurd (ie h1 h2) bb
theorem Ms {l:List Pr} (h:bO (keys l)) {k v:Key} (hk:dY l k=none):fF l k v=l.take (lb l k)++(k,v)::l.drop (lb l k):=by
 unfold fF
 rw[xD h,Mr h,P2 hk]
theorem Dh {l:List Pr} (h:bO (keys l)) {k:Key} {p:Pr} (hp:l[lb l k]?=some p) (he:p.1=k):(l.filter fun p=>al k p.1)=l.drop (lb l k+1):=by
 have aY:=(List.getElem?_eq_some_iff.1 hp).1
 have hs:=bD.1 h
 have e:l=l.take (lb l k)++p::l.drop (lb l k+1):=by
  conv=>lhs;rw[←List.take_append_drop (lb l k) l,List.drop_eq_getElem_cons aY]
  simp_all
 have jl:=hs
 rw[e,List.pairwise_append,List.pairwise_cons] at jl
 obtain⟨_,⟨h1,_⟩,h2⟩:=jl
 conv=>lhs;rw[e]
 rw[List.filter_append,List.filter_cons,he,i_,if_neg (by simp),List.filter_eq_nil_iff.2,List.nil_append,List.filter_eq_self.2]
 ·grind
 ·intro q hq
  have:=h2 q hq p (by simp)
  rw[he] at this
  rw[fc this];simp
theorem Mt {l:List Pr} (h:bO (keys l)) {k v:Key} {p:Pr} (hp:l[lb l k]?=some p) (he:p.1=k):fF l k v=l.set (lb l k) (k,v):=by
 have aY:=(List.getElem?_eq_some_iff.1 hp).1
 unfold fF
 rw[Dh h hp he,←xD h,List.set_eq_take_append_cons_drop,if_pos aY]
theorem HH {l:List Pr} {k:Key} (h:dY l k=none):gF l k=l:=List.filter_eq_self.2 fun p hp=>by simpa using iJ.1 h p hp
theorem Sb {l:List Pr} (h:bO (keys l)) {k:Key} {p:Pr} (hp:l[lb l k]?=some p) (he:p.1=k):gF l k=l.take (lb l k)++l.drop (lb l k+1):=by
 rw[xD h,←Dh h hp he]
 refine Mq (HG h k) ?_ fun x=>?_
 ·rw[bD,List.pairwise_append]
  refine⟨bD.1 (kI h _),bD.1 (kI h _),fun p hp q hq=>cy (List.mem_filter.1 hp).2 (List.mem_filter.1 hq).2⟩
 ·rw[Ug,qy,qz l (fun y=>al y k) x,qz l (fun y=>al k y) x]
  by_cases hx:x=k
  ·subst hx;simp[i_]
  ·rw[if_neg hx]
   cases h1:al x k with
   |true=>grind
   |false=>
    cases h2:al k x with
    |true=>simp
    |false=>exact absurd (ie h1 h2) hx
theorem mD {l:List Pr} (h:bO (keys l)) (k v:Key):(fF l k v).length=if cK l k=true then l.length else l.length+1:=by
 unfold cK
 cases hg:dY l k with
 |none=>
  have:=Fb l k
  rw[Ms h hg];grind
 |some w=>
  have:=yi h k
  rw[hg] at this
  split at this<;>first|cases this|skip
  rename_i p hp
  split at this<;>first|cases this|skip
  rename_i he
  rw[Mt h hp he];simp
theorem Mp {l:List Pr} (h:bO (keys l)) (k:Key):(gF l k).length=if cK l k=true then l.length - 1 else l.length:=by
 unfold cK
 cases hg:dY l k with
 |none=>rw[HH hg];simp
 |some w=>
  have:=yi h k
  rw[hg] at this
  split at this<;>first|cases this|skip
  rename_i p hp
  split at this<;>first|cases this|skip
  rename_i he
  have aY:=(List.getElem?_eq_some_iff.1 hp).1
  rw[Sb h hp he];grind
def s_ (n:Nat) (f:Nat→Bool):Bool:=(List.range n).all f
theorem Oa {n:Nat} {f:Nat→Bool} (h:∀j,j<n→f j=true):s_ n f=true:=List.all_eq_true.2 fun j hj=>h j (by simp_all)
theorem su {n j:Nat} {f:Nat→Bool} (hj:j<n) (h:f j=false):s_ n f=false:=by
 unfold s_
 grind
theorem Tg {n:Nat} {f:Nat→Bool}:s_ n f=true↔∀j,j<n→f j=true:=by
 unfold s_
 simp
def fr (l:List Pr) (k:Key):Nat→Nat
 |0=>0
 |i+1=>match l[i]? with|some p=>if al p.1 k=true then i+1 else fr l k i|none=>fr l k i
def Mu (l:List Pr) (i:Nat) (k:Key):Bool:=match l[i]? with|some p=>decide (p.1=k)|none=>false
theorem xE {l:List Pr} (h:bO (keys l)) (k:Key):Mu l (lb l k) k=cK l k:=by
 unfold Mu cK
 rw[yi h k]
 grind
theorem bH {α:Type} {l:List α} {i:Nat} (h:i<l.length):l.take (i+1)=l.take i++[l[i]]:=by simp
def rI (lo hi k:Key):Bool:= !al k lo&&(decide (hi.length=0)||al k hi)
def dm (lo hi:Key):Bool:=decide (lo.length≤16)&&decide (hi.length≤16)&&(decide (hi.length=0)||al lo hi)
theorem Di (x y:Key):decide (lJ x y<0)=al x y:=by
 rw[Bool.eq_iff_iff,decide_eq_true_eq];exact qe
theorem Uh (x y:Key):decide (lJ x y≤0)= !al y x:=by
 unfold lJ
 cases h1:al x y with
 |true=>simp[fc h1]
 |false=>grind
def AF (l:List Pr):Prop:=∀p∈l,p.1.length≤140737488355328∧p.2.length≤140737488355328
theorem cH.short {l:List Pr} (h:cH l):AF l:=fun p hp=>by
 have h1:=h.may p hp
 have h2:=h.fair p hp
 unfold gC at h1
 unfold dC at h2
 grind
abbrev jf:=Bool×List Pr×List Key×List Int×Int
def Tr:Nat→Type
 |0=>Nat×List Pr
 |h+1=>Nat×List Key×List (Tr h)
def Tr.id:{h:Nat}→Tr h→Nat
 |0,t=>t.1
 |_+1,t=>t.1
def Tr.lf (i:Nat) (ps:List Pr):Tr 0:=(i,ps)
def Tr.nd {h:Nat} (i:Nat) (ks:List Key) (l:List (Tr h)):Tr (h+1):=(i,ks,l)
theorem Tr.sm (t:Tr 0):∃i ps,t=Tr.lf i ps:=⟨t.1,t.2,rfl⟩
theorem Tr.sn {h:Nat} (t:Tr (h+1)):∃i ks l,t=Tr.nd i ks l:=⟨t.1,t.2.1,t.2.2,rfl⟩
@[simp] theorem QM (i:Nat) (ps:List Pr):(Tr.lf i ps).id=i:=rfl
@[simp] theorem E8 {h:Nat} (i:Nat) (ks:List Key) (l:List (Tr h)):(Tr.nd i ks l).id=i:=rfl
inductive It where
 |s (k:Key)
 |p (a:Pr)
def Ro:It→It→Prop
 |.p a,.p b=>al a.1 b.1=true
 |.p a,.s t=>al a.1 t=true
 |.s s,.p b=>al b.1 s=false
 |.s s,.s t=>al s t=true
def inter:List Key→List (List It)→List It
 |_,[]=>[]
 |[],l::ls=>l++inter [] ls
 |k::ks,l::ls=>l++ .s k::inter ks ls
def pre:List Key→List (List It)→List It
 |k::ks,l::ls=>l++ .s k::pre ks ls
 |_,_=>[]
def sY:List Key→List (List It)→List It
 |[],ls=>inter [] ls
 |k::ks,ls=>.s k::inter ks ls
theorem zS (kr:List Key) (x:List It) (R:List (List It)):inter kr (x::R)=x++sY kr R:=by cases kr<;>rfl
theorem lY:∀{kl:List Key} {L:List (List It)} (kr:List Key) (x:List It) (R:List (List It)),kl.length=L.length→inter (kl++kr) (L++x::R)=pre kl L++(x++sY kr R)
 |[],[],kr,x,R,_=>by simp[pre,zS]
 |k::kl,l::L,kr,x,R,h=>by
  simp only[List.cons_append,inter,pre,List.append_assoc]
  rw[lY kr x R (by simpa using h)]
 |[],_::_,_,_,_,h=>by simp at h
 |_::_,[],_,_,_,h=>by simp at h
theorem yZ (k:Key) (ks:List Key) (x:List It) (ls:List (List It)):sY (k::ks) (x::ls)=.s k::(x++sY ks ls):=by
 simp only[sY,zS]
def fl:{h:Nat}→Tr h→List It
 |0,t=>t.2.map .p
 |_+1,t=>inter t.2.1 (t.2.2.map fl)
@[simp] theorem qg (i:Nat) (ps:List Pr):fl (Tr.lf i ps)=ps.map .p:=rfl
@[simp] theorem r9 {h:Nat} (i:Nat) (ks:List Key) (l:List (Tr h)):fl (Tr.nd i ks l)=inter ks (l.map fl):=rfl
def Ord (l:List It):Prop:=l.Pairwise Ro
def r_:It→Prop
 |.p a=>gC a.1=true∧dC a.2=true
 |.s k=>gC k=true
def Sz (o:Nat):{h:Nat}→Nat→Nat→Tr h→Prop
 |0,lo,hi,t=>lo≤t.2.length∧t.2.length≤hi
 |_+1,lo,hi,t=>lo≤t.2.1.length∧t.2.1.length≤hi∧t.2.2.length=t.2.1.length+1∧∀k∈t.2.2,Sz o (o/2) o k
theorem gq {o lo hi i:Nat} {ps:List Pr}:Sz o lo hi (Tr.lf i ps)↔lo≤ps.length∧ps.length≤hi:=Iff.rfl
theorem e8 {o lo hi i h:Nat} {ks:List Key} {l:List (Tr h)}:Sz o lo hi (Tr.nd i ks l)↔lo≤ks.length∧ks.length≤hi∧l.length=ks.length+1∧∀k∈l,Sz o (o/2) o k:=Iff.rfl
theorem Sz.wide {o lo hi lo' jc:Nat}:∀{h:Nat} {t:Tr h},Sz o lo hi t→lo'≤lo→hi≤jc→Sz o lo' jc t
 |0,t,h,h1,h2=>⟨Nat.le_trans h1 h.1,Nat.le_trans h.2 h2⟩
 |_+1,t,h,h1,h2=>⟨Nat.le_trans h1 h.1,Nat.le_trans h.2.1 h2,h.2.2⟩
def Tr.size:{h:Nat}→Tr h→Nat
 |0,t=>t.2.length
 |_+1,t=>t.2.1.length
theorem Sz.size {o lo hi:Nat}:∀{h:Nat} {t:Tr h},Sz o lo hi t→lo≤t.size∧t.size≤hi
 |0,t,h=>h
 |_+1,t,h=>⟨h.1,h.2.1⟩
theorem Sz.to {o lo hi lo' jc:Nat}:∀{h:Nat} {t:Tr h},Sz o lo hi t→lo'≤t.size→t.size≤jc→Sz o lo' jc t
 |0,t,h,h1,h2=>⟨h1,h2⟩
 |_+1,t,h,h1,h2=>⟨h1,h2,h.2.2⟩
def fR (f:Nat→Option jf):{h:Nat}→Tr h→Prop
 |0,t=>∃ks kd nx,f t.1=some (true,t.2,ks,kd,nx)
 |_+1,t=>(∃ps nx,f t.1=some (false,ps,t.2.1,t.2.2.map (fun k=>(k.id:Int)),nx))∧∀k∈t.2.2,fR f k
theorem gp {f:Nat→Option jf} {i:Nat} {ps:List Pr}:fR f (Tr.lf i ps)↔∃ks kd nx,f i=some (true,ps,ks,kd,nx):=Iff.rfl
theorem bV {f:Nat→Option jf} {i h:Nat} {ks:List Key} {l:List (Tr h)}:fR f (Tr.nd i ks l)↔(∃ps nx,f i=some (false,ps,ks,l.map (fun k=>(k.id:Int)),nx))∧∀k∈l,fR f k:=Iff.rfl
def ids:{h:Nat}→Tr h→List Nat
 |0,t=>[t.1]
 |_+1,t=>t.1::(t.2.2.map ids).flatten
@[simp] theorem axR (i:Nat) (ps:List Pr):ids (Tr.lf i ps)=[i]:=rfl
@[simp] theorem ki {h:Nat} (i:Nat) (ks:List Key) (l:List (Tr h)):ids (Tr.nd i ks l)=i::(l.map ids).flatten:=rfl
theorem jx:∀{h:Nat} (t:Tr h),t.id∈ids t
 |0,t=>by show t.1∈[t.1];simp
 |_+1,t=>by show t.1∈t.1::_;simp
def de:{h:Nat}→Tr h→List (Nat×List Pr)
 |0,t=>[(t.1,t.2)]
 |_+1,t=>(t.2.2.map de).flatten
@[simp] theorem Dj (i:Nat) (ps:List Pr):de (Tr.lf i ps)=[(i,ps)]:=rfl
@[simp] theorem uH {h:Nat} (i:Nat) (ks:List Key) (l:List (Tr h)):de (Tr.nd i ks l)=(l.map de).flatten:=rfl
def aR {h:Nat} (t:Tr h):List Pr:=(de t).flatMap (·.2)
def dt:List It→List Pr
 |[]=>[]
 |.p a::l=>a::dt l
 |.s _::l=>dt l
theorem dT:∀(a b:List It),dt (a++b)=dt a++dt b
 |[],b=>rfl
 |.p x::a,b=>by simp[dt,dT a b]
 |.s x::a,b=>by simp[dt,dT a b]
theorem qh:∀(l:List Pr),dt (l.map .p)=l
 |[]=>rfl
 |x::l=>by simp[dt,qh l]
theorem oc {x:Pr}:∀{l:List It},x∈dt l↔It.p x∈l
 |[]=>by simp[dt]
 |.p y::l=>by simp[dt,oc (l:=l)]
 |.s y::l=>by simp[dt,oc (l:=l)]
theorem jP:∀(ks:List Key) (ls:List (List It)),dt (inter ks ls)=(ls.map dt).flatten
 |_,[]=>by simp[inter,dt]
 |[],l::ls=>by simp[inter,dT,jP [] ls]
 |k::ks,l::ls=>by simp[inter,dT,dt,jP ks ls]
theorem kj:∀{h:Nat} (t:Tr h),dt (fl t)=aR t
 |0,t=>by
  obtain⟨i,ps,rfl⟩:=t.sm
  simp[qh,aR]
 |h+1,t=>by
  obtain⟨i,ks,l,rfl⟩:=t.sn
  simp only[r9,jP,aR,uH]
  induction l with
  |nil=>rfl
  |cons x l ih=>
   simp only[List.map_cons,List.flatten_cons,List.flatMap_append]
   rw[ih,kj x];rfl
theorem Y5 {l:List It} (h:Ord l):bO (keys (dt l)):=by
 rw[bD]
 induction l with
 |nil=>exact List.Pairwise.nil
 |cons x l ih=>
  have h:=List.pairwise_cons.1 h
  cases x with
  |s k=>exact ih h.2
  |p a=>exact List.pairwise_cons.2 ⟨fun b hb=>h.1 (.p b) (oc.1 hb),ih h.2⟩
theorem Mv {l:List It} (h:Ord l) (ho:∀x∈l,r_ x):cH (dt l):=⟨Y5 h,fun p hp=>(ho _ (oc.1 hp)).1,fun p hp=>(ho _ (oc.1 hp)).2⟩
def CY (k:Key):It→Prop
 |.p a=>al a.1 k=true
 |.s s=>al k s=false
def Jp (k:Key):It→Prop
 |.p a=>al k a.1=true
 |.s s=>al k s=true
theorem ahc {x:It} {s k:Key} (h:Ro x (.s s)) (hs:al k s=false):CY k x:=by
 cases x with
 |p a=>exact mX h hs
 |s t=>
  show al k t=false
  cases hb:al k t with
  |false=>rfl
  |true=>rw[cy hb h] at hs;cases hs
theorem ahd {x:It} {s k:Key} (h:Ro (.s s) x) (hs:al k s=true):Jp k x:=by
 cases x with
 |p a=>exact mX hs h
 |s t=>exact cy hs h
theorem ahe {x:It} {k v:Key} (h:CY k x):Ro x (.p (k,v)):=by cases x<;>exact h
theorem ahf {x:It} {k v:Key} (h:Jp k x):Ro (.p (k,v)) x:=by cases x<;>exact h
theorem Mw {A B:List It} {q p:Pr} (h:Ord (A++ .p q:: .p p::B)):Ord (A++ .p q:: .s p.1:: .p p::B):=by
 unfold Ord at*
 rw[List.pairwise_append,List.pairwise_cons,List.pairwise_cons] at*
 obtain⟨hA,⟨hq,hp,hB⟩,hAB⟩:=h
 have hqp:al q.1 p.1=true:=hq (.p p) (by simp)
 refine⟨hA,⟨fun x hx=>?_,fun x hx=>?_,?_⟩,fun x hx y hy=>?_⟩
 ·rcases List.mem_cons.1 hx with rfl|hx
  ·exact hqp
  ·exact hq x hx
 ·rcases List.mem_cons.1 hx with rfl|hx
  ·exact i_ _
  ·have:=hp x hx
   cases x with
   |p b=>exact fc this
   |s t=>exact this
 ·exact List.pairwise_cons.2 ⟨hp,hB⟩
 ·rcases List.mem_cons.1 hy with rfl|hy
  ·exact hAB x hx _ (by simp)
  ·rcases List.mem_cons.1 hy with rfl|hy
   ·have h1:=hAB x hx (.p q) (by simp)
    cases x with
    |p a=>exact cy h1 hqp
    |s s=>exact Bi h1 hqp
   ·exact hAB x hx y (by simp only[List.mem_cons] at hy⊢;exact .inr hy)
theorem HI:∀{ks:List Key} {ls:List (List It)},ks.length≤ls.length→(ks.map It.s).Sublist (inter ks ls)
 |[],_,_=>by simp
 |k::ks,l::ls,h=>by
  simp only[inter,List.map_cons]
  exact List.Sublist.trans (List.Sublist.cons_cons _ (HI (by simpa using h))) (List.sublist_append_right _ _)
 |_::_,[],h=>by simp at h
theorem tB {ks:List Key} {ls:List (List It)} (hl:ks.length≤ls.length) (h:Ord (inter ks ls)):bO ks:=by
 have:=List.Pairwise.sublist (HI hl) h
 rw[List.pairwise_map] at this
 exact this
structure Fr (h:Nat) where
 id:Nat
 kl:List Key
 L:List (Tr h)
 kr:List Key
 R:List (Tr h)
def Fr.fill {h:Nat} (f:Fr h) (t:Tr h):Tr (h+1):=Tr.nd f.id (f.kl++f.kr) (f.L++t::f.R)
inductive Ctx:Nat→Nat→Type
 |top {h:Nat}:Ctx h h
 |down {h H:Nat} (c:Ctx (h+1) H) (f:Fr h):Ctx h H
def aZ:{h H:Nat}→Ctx h H→Tr h→Tr H
 |_,_,.top,t=>t
 |_,_,.down c f,t=>aZ c (f.fill t)
def Ctx.path:{h H:Nat}→Ctx h H→List Nat
 |_,_,.top=>[]
 |_,_,.down c f=>c.path++[f.id]
def Ctx.steps:{h H:Nat}→Ctx h H→List (Nat×Nat)
 |_,_,.top=>[]
 |_,_,.down c f=>c.steps++[(f.id,f.kl.length)]
def Ctx.l:{h H:Nat}→Ctx h H→List It
 |_,_,.top=>[]
 |_,_,.down c f=>c.l++pre f.kl (f.L.map fl)
def Ctx.r:{h H:Nat}→Ctx h H→List It
 |_,_,.top=>[]
 |_,_,.down c f=>sY f.kr (f.R.map fl)++c.r
def Ctx.ids:{h H:Nat}→Ctx h H→List Nat
 |_,_,.top=>[]
 |_,_,.down c f=>c.ids++(f.id::((f.L.map Th.ids).flatten++(f.R.map Th.ids).flatten))
def Ctx.ll:{h H:Nat}→Ctx h H→List (Nat×List Pr)
 |_,_,.top=>[]
 |_,_,.down c f=>c.ll++(f.L.map de).flatten
def Ctx.lr:{h H:Nat}→Ctx h H→List (Nat×List Pr)
 |_,_,.top=>[]
 |_,_,.down c f=>(f.R.map de).flatten++c.lr
def Ctx.lo (o:Nat):{h H:Nat}→Ctx h H→Nat
 |h,_,.top=>if h=0 then 0 else 1
 |_,_,.down _ _=>o/2
def Ctx.Sz (o:Nat):{h H:Nat}→Ctx h H→Prop
 |_,_,.top=>True
 |_,_,.down c f=>c.lo o≤f.kl.length+f.kr.length∧f.kl.length+f.kr.length≤o∧f.kl.length=f.L.length∧f.kr.length=f.R.length∧(∀k∈f.L,Th.Sz o (o/2) o k)∧(∀k∈f.R,Th.Sz o (o/2) o k)∧c.Sz o
def Ctx.fR (g:Nat→Option jf):{h H:Nat}→Ctx h H→Nat→Prop
 |_,_,.top,_=>True
 |_,_,.down c f,i=>(∃ps nx,g f.id=some (false,ps,f.kl++f.kr,f.L.map (fun k=>(k.id:Int))++(i:Int)::f.R.map (fun k=>(k.id:Int)),nx))∧(∀k∈f.L,Th.fR g k)∧(∀k∈f.R,Th.fR g k)∧c.fR g f.id
theorem iZ {o h H:Nat} {c:Ctx (h+1) H} {f:Fr h}:(Ctx.down c f).Sz o↔(c.lo o≤f.kl.length+f.kr.length∧f.kl.length+f.kr.length≤o∧f.kl.length=f.L.length∧f.kr.length=f.R.length∧(∀k∈f.L,Th.Sz o (o/2) o k)∧(∀k∈f.R,Th.Sz o (o/2) o k)∧c.Sz o):=by rw[Ctx.Sz]
theorem q5 {g:Nat→Option jf} {h H i:Nat} {c:Ctx (h+1) H} {f:Fr h}:(Ctx.down c f).fR g i↔((∃ps nx,g f.id=some (false,ps,f.kl++f.kr,f.L.map (fun k=>(k.id:Int))++(i:Int)::f.R.map (fun k=>(k.id:Int)),nx))∧(∀k∈f.L,Th.fR g k)∧(∀k∈f.R,Th.fR g k)∧c.fR g f.id):=by rw[Ctx.fR]
theorem eU {o:Nat}:∀{h H:Nat} (c:Ctx h H) (t:Tr h),c.Sz o→fl (aZ c t)=c.l++fl t++c.r
 |_,_,.top,t,_=>by simp[aZ,Ctx.l,Ctx.r]
 |_,_,.down c f,t,h=>by
  obtain⟨_,_,h1,_,_,_,h2⟩:=iZ.1 h
  rw[aZ,eU c _ h2]
  simp only[Fr.fill,r9,List.map_append,List.map_cons,Ctx.l,Ctx.r]
  rw[lY _ _ _ (by rw[h1,List.length_map])]
  simp only[List.append_assoc]
theorem lZ:∀{h H:Nat} (c:Ctx h H) (t:Tr h),de (aZ c t)=c.ll++de t++c.lr
 |_,_,.top,t=>by simp[aZ,Ctx.ll,Ctx.lr]
 |_,_,.down c f,t=>by
  rw[aZ,lZ c _]
  simp[Fr.fill,Ctx.ll,Ctx.lr]
theorem gz:∀{h H:Nat} (c:Ctx h H) (t:Tr h),(ids (aZ c t)).Perm (c.ids++ids t)
 |_,_,.top,t=>by simp[aZ,Ctx.ids]
 |_,_,.down c f,t=>by
  rw[aZ]
  refine(gz c _).trans ?_
  simp only[Fr.fill,ki,Ctx.ids,List.map_append,List.map_cons,List.flatten_append,List.flatten_cons,List.append_assoc,List.cons_append]
  refine List.Perm.append_left _ (List.Perm.cons _ (List.Perm.append_left _ ?_))
  exact List.perm_append_comm
theorem en {g:Nat→Option jf}:∀{h H:Nat} (c:Ctx h H) (t:Tr h),fR g (aZ c t)↔c.fR g t.id∧fR g t
 |_,_,.top,t=>by simp[aZ,Ctx.fR]
 |_,_,.down c f,t=>by
  rw[aZ,en c _]
  simp only[Fr.fill,bV,Ctx.fR,E8,List.map_append,List.map_cons,List.mem_append,List.mem_cons]
  constructor
  ·rintro⟨h1,h2,h3⟩
   exact⟨⟨h2,fun k hk=>h3 k (.inl hk),fun k hk=>h3 k (.inr (.inr hk)),h1⟩,h3 t (.inr (.inl rfl))⟩
  ·rintro⟨⟨h2,h3,h4,h1⟩,h5⟩
   exact⟨h1,h2,fun k hk=>by
    rcases hk with hk|rfl|hk
    ·exact h3 k hk
    ·exact h5
    ·exact h4 k hk⟩
theorem xB {o:Nat}:∀{h H:Nat} (c:Ctx h H) (t:Tr h),c.Sz o→Sz o (c.lo o) o t→Sz o ((.top:Ctx H H).lo o) o (aZ c t)
 |_,_,.top,t,_,h=>h
 |_,_,.down c f,t,hc,h=>by
  obtain⟨h1,h2,h3,h4,h5,h6,h7⟩:=iZ.1 hc
  rw[aZ]
  refine xB c _ h7 ?_
  refine e8.2 ⟨by rw[List.length_append];exact h1,by rw[List.length_append];exact h2,by simp only[List.length_append,List.length_cons];omega,fun k hk=>?_⟩
  rcases List.mem_append.1 hk with hk|hk
  ·exact h5 k hk
  ·rcases List.mem_cons.1 hk with rfl|hk
   ·exact h
   ·exact h6 k hk
theorem eV {h:Nat} {l:List (Tr h)} {k:Tr h} (hk:k∈l) {i:Nat} (hi:i∈ids k):i∈(l.map ids).flatten:=List.mem_flatten.2 ⟨_,List.mem_map.2 ⟨k,hk,rfl⟩,hi⟩
theorem cX {f g:Nat→Option jf}:∀{h:Nat} {t:Tr h},(∀i∈ids t,f i=g i)→fR f t→fR g t
 |0,t,he,h=>by
  obtain⟨i,ps,rfl⟩:=t.sm
  obtain⟨ks,kd,nx,h⟩:=h
  exact⟨ks,kd,nx,by rw[←he _ (by show _∈[i];exact List.mem_singleton.2 rfl)];exact h⟩
 |h+1,t,he,hr=>by
  obtain⟨i,ks,l,rfl⟩:=t.sn
  obtain⟨⟨ps,nx,h1⟩,h2⟩:=bV.1 hr
  refine bV.2 ⟨⟨ps,nx,by rw[←he _ (by simp)];exact h1⟩,fun k hk=>cX (fun j hj=>he j ?_) (h2 k hk)⟩
  rw[ki]
  exact List.mem_cons.2 (.inr (eV hk hj))
theorem oD {f g:Nat→Option jf}:∀{h H:Nat} {c:Ctx h H} {i:Nat},(∀j∈c.ids,f j=g j)→c.fR f i→c.fR g i
 |_,_,.top,_,_,_=>by rw[Ctx.fR];trivial
 |_,_,.down c fr,i,he,hc=>by
  obtain⟨⟨ps,nx,h1⟩,h2,h3,h4⟩:=q5.1 hc
  have mV:∀j,j=fr.id∨j∈(fr.L.map ids).flatten∨j∈(fr.R.map ids).flatten→f j=g j:=fun j hj=>he j (by
   simp only[Ctx.ids,List.mem_append,List.mem_cons]
   exact .inr hj)
  refine q5.2 ⟨⟨ps,nx,by rw[←mV _ (.inl rfl)];exact h1⟩,fun k hk=>cX (fun j hj=>mV j (.inr (.inl (eV hk hj)))) (h2 k hk),fun k hk=>cX (fun j hj=>mV j (.inr (.inr (eV hk hj)))) (h3 k hk),oD (fun j hj=>he j ?_) h4⟩
  simp only[Ctx.ids,List.mem_append]
  exact .inl hj
def Dk:{h:Nat}→Tr h→Key→List Nat
 |0,t,_=>[t.1]
 |_+1,t,k=>t.1::(match t.2.2[iI t.2.1 k]? with
  |some x=>Dk x k
  |none=>[])
theorem ahh (i:Nat) (ps:List Pr) (k:Key):Dk (Tr.lf i ps) k=[i]:=rfl
theorem Jx {h i:Nat} {ks:List Key} {l:List (Tr h)} {k:Key} {x:Tr h} (hx:l[iI ks k]?=some x):Dk (Tr.nd i ks l) k=i::Dk x k:=by
 show i::(match l[iI ks k]? with|some x=>Dk x k|none=>[])=_
 rw[hx]
theorem Ea {o:Nat}:∀{h lo hi:Nat} {t:Tr h} {k:Key},Sz o lo hi t→(Dk t k).length=h+1
 |0,_,_,t,k,_=>rfl
 |h+1,_,_,t,k,hz=>by
  obtain⟨i,ks,l,rfl⟩:=t.sn
  obtain⟨_,_,h1,h2⟩:=e8.1 hz
  have aY:iI ks k<l.length:=by have:=C0 ks k;omega
  rw[Jx (List.getElem?_eq_getElem aY),List.length_cons,Ea (h2 _ (List.getElem_mem aY))]
theorem Dl {α:Type} {l:List α} {i:Nat} (h:i<l.length):l=l.take i++l[i]::l.drop (i+1):=by
 rw[List.getElem_cons_drop,List.take_append_drop]
theorem CZ {o h H:Nat} {c:Ctx (h+1) H} {i:Nat} {ks:List Key} {l:List (Tr h)} {k:Key} (hc:c.Sz o) (hz:Sz o (c.lo o) o (Tr.nd i ks l)) (ho:Ord (fl (Tr.nd i ks l)))
 (hl:∀x∈c.l,CY k x) (hr:∀x∈c.r,Jp k x):∃(x:Tr h) (f:Fr h),l[iI ks k]?=some x∧f.fill x=Tr.nd i ks l∧f.id=i∧f.kl.length=iI ks k∧(Ctx.down c f).Sz o∧Sz o (o/2) o x∧Ord (fl x)∧(∀y∈(Ctx.down c f).l,CY k y)∧(∀y∈(Ctx.down c f).r,Jp k y):=by
 obtain⟨h1,h2,h3,h4⟩:=e8.1 hz
 have hle:=C0 ks k
 have aY:iI ks k<l.length:=by omega
 have hs:bO ks:=tB (ls:=l.map fl) (by rw[List.length_map];omega) ho
 have pN:ks.take (iI ks k)++ks.drop (iI ks k)=ks:=List.take_append_drop _ _
 have aaJ:=Dl aY
 have vp:fl (Tr.nd i ks l)=pre (ks.take (iI ks k)) ((l.take (iI ks k)).map fl)++(fl l[iI ks k]++sY (ks.drop (iI ks k)) ((l.drop (iI ks k+1)).map fl)):=by
  rw[r9]
  conv=>lhs;rw[←pN,aaJ]
  rw[List.map_append,List.map_cons,lY _ _ _ (by simp only[List.length_take,List.length_map];omega)]
 rw[vp] at ho
 refine⟨l[iI ks k],⟨i,ks.take (iI ks k),l.take (iI ks k),ks.drop (iI ks k),l.drop (iI ks k+1)⟩,List.getElem?_eq_getElem aY,?_,rfl,by simp only[List.length_take];omega,?_,h4 _ (List.getElem_mem aY),?_,?_,?_⟩
 ·unfold Fr.fill
  simp only
  rw[pN,←aaJ]
 ·refine iZ.2 ⟨?_,?_,?_,?_,fun x hx=>h4 x (List.mem_of_mem_take hx),fun x hx=>h4 x (List.mem_of_mem_drop hx),hc⟩<;>simp only[List.length_take,List.length_drop]<;>omega
 ·exact(List.pairwise_append.1 (List.pairwise_append.1 ho).2.1).1
 ·intro y hy
  simp only[Ctx.l,List.mem_append] at hy
  rcases hy with hy|hy
  ·exact hl y hy
  ·
   have hp:=(List.pairwise_append.1 ho).1
   have key:∀(a:List Key) (A:List (List It)),(∀s∈a,al k s=false)→(pre a A).Pairwise Ro→∀y∈pre a A,CY k y:=by
    intro a
    induction a with
    |nil=>intro A _ _ y hy;cases A<;>simp[pre] at hy
    |cons s a ih=>
     intro A hs hp y hy
     cases A with
     |nil=>simp[pre] at hy
     |cons l A=>
      simp only[pre,List.mem_append,List.mem_cons] at hy
      have hp:=List.pairwise_append.1 (show(l++It.s s::pre a A).Pairwise Ro from hp)
      rcases hy with hy|rfl|hy
      ·exact ahc (hp.2.2 y hy (.s s) (by simp)) (hs s (by simp))
      ·exact hs s (by simp)
      ·exact ih A (fun t ht=>hs t (by simp[ht])) (List.pairwise_cons.1 hp.2.1).2 y hy
   refine key _ _ (fun s jl=>?_) hp y hy
   obtain⟨j,hj,rfl⟩:=List.getElem_of_mem jl
   rw[List.length_take] at hj
   rw[List.getElem_take]
   exact agX (i:=j) (by omega) (List.getElem?_eq_getElem _)
 ·intro y hy
  simp only[Ctx.r,List.mem_append] at hy
  rcases hy with hy|hy
  ·have hp:=(List.pairwise_append.1 (List.pairwise_append.1 ho).2.1).2.1
   have hb:ks.drop (iI ks k)≠[]∨l.drop (iI ks k+1)=[]:=by
    rcases Nat.lt_or_ge (iI ks k) ks.length with h|h
    ·left;intro e;have:=congrArg List.length e;simp at this;omega
    ·right;exact List.drop_eq_nil_of_le (by omega)
   cases hk:ks.drop (iI ks k) with
   |nil=>
    rcases hb with hb|hb
    ·exact absurd hk hb
    ·rw[hk,hb] at hy;simp[sY,inter] at hy
   |cons s r=>
    have hs1:al k s=true:=by
     refine agY hs (i:=iI ks k) (Nat.le_refl _) ?_
     have:(ks.drop (iI ks k))[0]?=some s:=by rw[hk];rfl
     rw[List.getElem?_drop] at this
     simpa using this
    rw[hk] at hy hp
    simp only[sY,List.mem_cons] at hy
    rcases hy with rfl|hy
    ·exact hs1
    ·exact ahd ((List.pairwise_cons.1 hp).1 y hy) hs1
  ·exact hr y hy
theorem loc {o:Nat} (k:Key):∀{h H:Nat} (c:Ctx h H) (t:Tr h),c.Sz o→Sz o (c.lo o) o t→Ord (fl t)→(∀x∈c.l,CY k x)→(∀x∈c.r,Jp k x)→
 ∃(c':Ctx 0 H) (i:Nat) (ps:List Pr),aZ c' (Tr.lf i ps)=aZ c t∧c'.path++[i]=c.path++Dk t k∧c'.Sz o∧Sz o (c'.lo o) o (Tr.lf i ps)∧(∀x∈c'.l,CY k x)∧(∀x∈c'.r,Jp k x)
 |0,H,c,t,hc,hz,ho,hl,hr=>by
  obtain⟨i,ps,rfl⟩:=t.sm
  exact⟨c,i,ps,rfl,rfl,hc,hz,hl,hr⟩
 |h+1,H,c,t,hc,hz,ho,hl,hr=>by
  obtain⟨i,ks,l,rfl⟩:=t.sn
  obtain⟨x,f,hx,hf,hi,Bb,GL,Ww,nG,oN,mw⟩:=CZ hc hz ho hl hr
  obtain⟨c',j,ps,h1,h2,h3,h4,h5,h6⟩:=loc k (Ctx.down c f) x GL Ww nG oN mw
  refine⟨c',j,ps,h1.trans ?_,h2.trans ?_,h3,h4,h5,h6⟩
  ·rw[aZ,hf]
  ·rw[Jx hx,Ctx.path,hi];simp
def gX (f:Nat→Option jf) (i:Nat):Int:=match f i with|some x=>x.2.2.2.2|none=>0
def hd (l:List (Nat×List Pr)) (e:Int):Int:=match l with|[]=>e|a::_=>a.1
def oe (f:Nat→Option jf):List (Nat×List Pr)→Int→Prop
 |[],_=>True
 |a::r,e=>gX f a.1=hd r e∧oe f r e
theorem gH {f:Nat→Option jf}:∀{a b:List (Nat×List Pr)} {e:Int},oe f (a++b) e↔oe f a (hd b e)∧oe f b e
 |[],b,e=>by simp[oe]
 |[x],b,e=>by simp[oe,hd]
 |x::y::a,b,e=>by
  have:=gH (f:=f) (a:=y::a) (b:=b) (e:=e)
  simp only[List.cons_append,oe] at this⊢
  rw[this]
  simp[hd,and_assoc]
theorem e_ {f g:Nat→Option jf}:∀{l:List (Nat×List Pr)} {e:Int},(∀a∈l,gX f a.1=gX g a.1)→oe f l e→oe g l e
 |[],_,_,_=>trivial
 |a::r,e,h,hs=>⟨by rw[←h a (by simp)];exact hs.1,e_ (fun b hb=>h b (by simp[hb])) hs.2⟩
theorem ic:∀{h:Nat} (t:Tr h),∀a∈de t,a.1∈ids t
 |0,t,a,ha=>by obtain⟨i,ps,rfl⟩:=t.sm;simp at ha⊢;rw[ha]
 |h+1,t,a,ha=>by
  obtain⟨i,ks,l,rfl⟩:=t.sn
  simp only[uH,List.mem_flatten,List.mem_map] at ha
  obtain⟨_,⟨x,hx,rfl⟩,ha⟩:=ha
  rw[ki]
  exact List.mem_cons.2 (.inr (eV hx (ic x a ha)))
theorem yj:∀{h H:Nat} (c:Ctx h H),∀a∈c.ll++c.lr,a.1∈c.ids
 |_,_,.top,a,ha=>by simp[Ctx.ll,Ctx.lr] at ha
 |h,_,.down c f,a,ha=>by
  simp only[Ctx.ll,Ctx.lr,Ctx.ids,List.mem_append,List.mem_cons] at ha⊢
  have kid:∀l:List (Tr h),a∈(l.map de).flatten→a.1∈(l.map ids).flatten:=fun l hl=>by
   obtain⟨_,hm,ha⟩:=List.mem_flatten.1 hl
   obtain⟨x,hx,rfl⟩:=List.mem_map.1 hm
   exact eV hx (ic x a ha)
  have ih:=yj c a
  simp only[List.mem_append] at ih
  rcases ha with(ha|ha)|ha|ha
  ·exact .inl (ih (.inl ha))
  ·exact .inr (.inr (.inl (kid _ ha)))
  ·exact .inr (.inr (.inr (kid _ ha)))
  ·exact .inl (ih (.inr ha))
def dA (f:Nat→Option jf) (i:Nat) (x:Option jf):Nat→Option jf:=fun j=>if j=i then x else f j
theorem g8 (f:Nat→Option jf) (i:Nat) (x:Option jf):dA f i x i=x:=by simp[dA]
theorem cE (f:Nat→Option jf) {i j:Nat} (x:Option jf) (h:j≠i):dA f i x j=f j:=by simp[dA,h]
theorem xF (f:Nat→Option jf) (i:Nat) (x:jf):gX (dA f i (some x)) i=x.2.2.2.2:=by unfold gX;rw[g8]
theorem rJ (f:Nat→Option jf) {i j:Nat} (x:Option jf) (h:j≠i):gX (dA f i x) j=gX f j:=by unfold gX;rw[cE _ _ h]
structure jw (f:Nat→Option jf) (u:Nat) {h:Nat} (t:Tr h):Prop where
 rep:fR f t
 nd:(ids t).Nodup
 yh:oe f (de t) (-1)
 ord:Ord (fl t)
 ok:∀x∈fl t,r_ x
 used:u=(ids t).length
theorem nk {f:Nat→Option jf}:∀{h:Nat} {t:Tr h},fR f t→∀i∈ids t,(f i).isSome
 |0,t,hr,i,hi=>by
  obtain⟨j,ps,rfl⟩:=t.sm
  obtain⟨ks,kd,nx,h⟩:=gp.1 hr
  simp at hi
  subst hi
  rw[h];rfl
 |h+1,t,hr,i,hi=>by
  obtain⟨j,ks,l,rfl⟩:=t.sn
  obtain⟨⟨ps,nx,h1⟩,h2⟩:=bV.1 hr
  rw[ki] at hi
  rcases List.mem_cons.1 hi with rfl|hi
  ·rw[h1];rfl
  ·obtain⟨_,hm,hi⟩:=List.mem_flatten.1 hi
   obtain⟨x,hx,rfl⟩:=List.mem_map.1 hm
   exact nk (h2 x hx) i hi
theorem jw.fresh {f:Nat→Option jf} {u h:Nat} {t:Tr h} (m:jw f u t) {q:Nat} (hq:f q=none):q∉ids t:=fun hi=>by
 have:=nk m.rep q hi
 rw[hq] at this;cases this
theorem tC {α:Type} {p:α→Bool} {l:List α} (h:∀x∈l,p x=true):l.filter p=l:=List.filter_eq_self.2 h
theorem Mx {α:Type} {p:α→Bool} {l:List α} (h:∀x∈l,p x=false):l.filter p=[]:=List.filter_eq_nil_iff.2 fun x hx=>by rw[h x hx];simp
def nL (k:Key) (A B:List Pr):Prop:=(∀a∈A,al a.1 k=true)∧∀b∈B,al k b.1=true
theorem nL.put {k v:Key} {A B:List Pr} (h:nL k A B) (m:List Pr):fF (A++m++B) k v=A++fF m k v++B:=by
 unfold fF
 simp only[List.filter_append]
 rw[tC h.1,Mx (l:=B) fun x hx=>fc (h.2 x hx),Mx (l:=A) fun x hx=>fc (h.1 x hx),tC (l:=B) h.2]
 simp
theorem nL.get {k:Key} {A B:List Pr} (h:nL k A B) (m:List Pr):dY (A++m++B) k=dY m k:=by
 rw[qy,qy,iJ.2 fun p hp=>iT (h.1 p hp),iJ (l:=B)|>.2 fun p hp=>(iT (h.2 p hp)).symm]
 simp
theorem nL.has {k:Key} {A B:List Pr} (h:nL k A B) (m:List Pr):cK (A++m++B) k=cK m k:=by unfold cK;rw[h.get]
theorem nL.del {k:Key} {A B:List Pr} (h:nL k A B) (m:List Pr):gF (A++m++B) k=A++gF m k++B:=by
 unfold gF
 simp only[List.filter_append]
 rw[tC (l:=A) fun x hx=>by simpa using iT (h.1 x hx),tC (l:=B) fun x hx=>by simpa using (iT (h.2 x hx)).symm]
theorem Dg {k:Key} {A B:List It} (hl:∀x∈A,CY k x) (hr:∀x∈B,Jp k x):nL k (dt A) (dt B):=⟨fun a ha=>hl _ (oc.1 ha),fun b hb=>hr _ (oc.1 hb)⟩
theorem Y6 {A B:List It} {ps:List Pr} {k v:Key} (h:Ord (A++ps.map .p++B)) (hl:∀x∈A,CY k x) (hr:∀x∈B,Jp k x) (hk:gC k=true):Ord (A++(fF ps k v).map .p++B):=by
 unfold Ord at*
 rw[List.pairwise_append,List.pairwise_append] at*
 obtain⟨⟨hA,hp,hAp⟩,hB,hpB⟩:=h
 have hs:bO (keys ps):=by rw[bD];rw[List.pairwise_map] at hp;exact hp
 refine⟨⟨hA,?_,fun x hx y hy=>?_⟩,hB,fun x hx y hy=>?_⟩
 ·rw[List.pairwise_map];exact bD.1 (HF hs k v)
 ·obtain⟨p,ji,rfl⟩:=List.mem_map.1 hy
  rcases qf ji with rfl|h
  ·exact ahe (hl x hx)
  ·exact hAp x hx _ (List.mem_map.2 ⟨p,h,rfl⟩)
 ·rcases List.mem_append.1 hx with hx|hx
  ·exact hpB x (List.mem_append.2 (.inl hx)) y hy
  ·obtain⟨p,ji,rfl⟩:=List.mem_map.1 hx
   rcases qf ji with rfl|h
   ·exact ahf (hr y hy)
   ·exact hpB _ (List.mem_append.2 (.inr (List.mem_map.2 ⟨p,h,rfl⟩))) y hy
theorem Y4 {A B:List It} {ps qs:List Pr} (h:Ord (A++ps.map .p++B)) (hs:qs.Sublist ps):Ord (A++qs.map .p++B):=
 List.Pairwise.sublist ((List.Sublist.append_left (hs.map _) A).append_right B) h
theorem qZ {o h H:Nat} {c:Ctx h H} {t:Tr h} (hc:c.Sz o):aR (aZ c t)=dt c.l++aR t++dt c.r:=by
 rw[←kj,eU c t hc,dT,dT,kj]
theorem qd (i:Nat) (ps:List Pr):aR (Tr.lf i ps)=ps:=by simp[aR]
theorem jw.leaf {f:Nat→Option jf} {u o H i:Nat} {c:Ctx 0 H} {ps qs:List Pr} {ks:List Key} {kd:List Int} {nx:Int} (m:jw f u (aZ c (Tr.lf i ps))) (hc:c.Sz o) (hf:f i=some (true,ps,ks,kd,nx))
 (ho:Ord (c.l++qs.map .p++c.r)) (cJ:∀p∈qs,r_ (.p p)):jw (dA f i (some (true,qs,ks,kd,nx))) u (aZ c (Tr.lf i qs)):=by
 have iO:=gz c (Tr.lf i ps)
 have yk:=gz c (Tr.lf i qs)
 have eF:(c.ids++[i]).Nodup:=(iO.nodup_iff).1 m.nd
 have bb:∀j∈c.ids,j≠i:=fun j hj e=>by
  subst e
  exact(List.nodup_append.1 eF).2.2 j hj j (by simp) rfl
 have LN:gX (dA f i (some (true,qs,ks,kd,nx))) i=gX f i:=by rw[xF];unfold gX;rw[hf]
 have hr:=(en c _).1 m.rep
 refine⟨(en c _).2 ⟨oD (fun j hj=>(cE _ _ (bb j hj)).symm) hr.1,⟨ks,kd,nx,g8 _ _ _⟩⟩,(yk.nodup_iff).2 eF,?_,?_,?_,?_⟩
 ·have hs:=m.yh
  rw[lZ] at hs⊢
  simp only[Dj] at hs⊢
  have h1:oe f (c.ll++[(i,qs)]++c.lr) (-1):=by
   rw[gH,gH] at hs⊢
   simpa[oe,hd] using hs
  refine e_ (fun a ha=>?_) h1
  by_cases he:a.1=i
  ·rw[he,LN]
  ·rw[rJ _ _ he]
 ·rw[eU c _ hc];exact ho
 ·rw[eU c _ hc]
  intro x hx
  have py:=m.ok
  rw[eU c _ hc] at py
  simp only[List.mem_append,qg,List.mem_map] at hx py
  rcases hx with(hx|⟨p,hp,rfl⟩)|hx
  ·exact py x (.inl (.inl hx))
  ·exact cJ p hp
  ·exact py x (.inr hx)
 ·rw[m.used,iO.length_eq,yk.length_eq];simp
theorem cnt {o:Nat} (h3:2≤o):∀{h lo hi:Nat} {t:Tr h},Sz o lo hi t→1≤lo→(ids t).length+1≤2*(aR t).length
 |0,lo,hi,t,hz,hl=>by
  obtain⟨i,ps,rfl⟩:=t.sm
  have:=(gq.1 hz).1
  rw[qd];simp;omega
 |h+1,lo,hi,t,hz,hl=>by
  obtain⟨i,ks,l,rfl⟩:=t.sn
  obtain⟨h1,_,h2,h4⟩:=e8.1 hz
  have key:∀l:List (Tr h),(∀k∈l,Sz o (o/2) o k)→((l.map ids).flatten).length+l.length≤2*((l.map de).flatten.flatMap (·.2)).length:=by
   intro l
   induction l with
   |nil=>intro _;simp
   |cons x l ih=>
    intro hx
    have h5:=cnt h3 (hx x (by simp)) (by omega)
    have h6:=ih fun k hk=>hx k (by simp[hk])
    unfold aR at h5
    simp only[List.map_cons,List.flatten_cons,List.length_append,List.flatMap_append,List.length_cons]
    omega
  have:=key l h4
  rw[ki,aR,uH,List.length_cons]
  omega
theorem alB {o:Nat} (h3:2≤o):∀{h H:Nat} {c:Ctx h H},c.Sz o→c.ids.length≤2*(dt c.l++dt c.r).length
 |_,_,.top,_=>by simp[Ctx.ids]
 |h,H,.down c f,hc=>by
  obtain⟨h1,h2,e1,e2,h5,h6,h7⟩:=iZ.1 hc
  have ih:=alB h3 h7
  have Wq:1≤c.lo o:=by
   cases c with
   |top=>simp[Ctx.lo]
   |down c f=>simp[Ctx.lo];omega
  have key:∀l:List (Tr h),(∀k∈l,Sz o (o/2) o k)→((l.map ids).flatten).length+l.length≤2*((l.map (fun x=>dt (fl x))).flatten).length:=by
   intro l
   induction l with
   |nil=>intro _;simp
   |cons x l ih=>
    intro hx
    have h5:=cnt h3 (hx x (by simp)) (by omega)
    have h6:=ih fun k hk=>hx k (by simp[hk])
    rw[←kj] at h5
    simp only[List.map_cons,List.flatten_cons,List.length_append,List.length_cons]
    omega
  have k1:=key f.L h5
  have k2:=key f.R h6
  have p1:∀(ks:List Key) (ls:List (List It)),ks.length=ls.length→dt (pre ks ls)=(ls.map dt).flatten:=by
   intro ks
   induction ks with
   |nil=>intro ls hl;cases ls with|nil=>simp[pre,dt]|cons _ _=>simp at hl
   |cons k ks ih=>
    intro ls hl
    cases ls with
    |nil=>simp at hl
    |cons x ls=>simp[pre,dT,dt,ih ls (by simpa using hl)]
  have p2:∀(ks:List Key) (ls:List (List It)),dt (sY ks ls)=(ls.map dt).flatten:=by
   intro ks ls
   cases ks with
   |nil=>simp[sY,jP]
   |cons k ks=>simp[sY,dt,jP]
  simp only[Ctx.l,Ctx.r,Ctx.ids,List.length_append,List.length_cons,dT]
  rw[p1 _ _ (by rw[e1,List.length_map]),p2]
  simp only[List.map_map,List.length_append] at ih⊢
  have q1:(List.map (dt∘fl) f.L)=f.L.map fun x=>dt (fl x):=rfl
  have q2:(List.map (dt∘fl) f.R)=f.R.map fun x=>dt (fl x):=rfl
  rw[q1,q2]
  omega
theorem adb {o:Nat} (h3:2≤o) {h H lo hi:Nat} {c:Ctx h H} {t:Tr h} (hc:c.Sz o) (hz:Sz o lo hi t) (hl:1≤lo∨h=0):(ids (aZ c t)).length≤2*(aR (aZ c t)).length+1:=by
 have h1:=alB h3 hc
 have h2:(ids t).length≤2*(aR t).length+1:=by
  rcases hl with hl|rfl
  ·have:=cnt h3 hz hl;omega
  ·obtain⟨i,ps,rfl⟩:=t.sm
   simp
 rw[(gz c t).length_eq,qZ hc]
 simp only[List.length_append] at h1⊢
 omega
structure Spl (f f':Nat→Option jf) {h:Nat} (t:Tr h) (q:Nat) (t1:Tr h) (k:Key) (t2:Tr h):Prop where
 id1:t1.id=t.id
 id2:t2.id=q
 perm:(ids t1++ids t2).Perm (q::ids t)
 ord:∀A B,Ord (A++fl t++B)→Ord (A++(fl t1++ .s k::fl t2)++B)
 ok:(∀x∈fl t,r_ x)→∀x∈fl t1++ .s k::fl t2,r_ x
 dt:dt (fl t1++ .s k::fl t2)=dt (fl t)
 P_:fR f' t1
 KA:fR f' t2
 yh:∀A B e,(∀a∈A++B,gX f a.1=gX f' a.1)→oe f (A++de t++B) e→oe f' (A++(de t1++de t2)++B) e
theorem Ui {f:Nat→Option jf} {i q m:Nat} {ps:List Pr} {ks ks':List Key} {kd kd':List Int} {nx:Int} {k:Pr} (hf:f i=some (true,ps,ks,kd,nx)) (hq:q≠i) (hm:ps[m]?=some k) (h0:0<m):
 Spl f (dA (dA f q (some (true,ps.drop m,ks',kd',nx))) i (some (true,ps.take m,ks,kd,(q:Int)))) (Tr.lf i ps) q (Tr.lf i (ps.take m)) k.1 (Tr.lf q (ps.drop m)):=by
 obtain⟨aY,hk⟩:=List.getElem?_eq_some_iff.1 hm
 have bo:ps.drop m=k::ps.drop (m+1):=by rw[←List.getElem_cons_drop aY,hk]
 have yd:ps.take m=ps.take (m - 1)++[ps[m - 1]'(by omega)]:=by
  rw[←List.take_succ_eq_append_getElem (by omega)]
  congr 1;omega
 have vp:ps.map It.p=(ps.take m).map It.p++(ps.drop m).map It.p:=by rw[←List.map_append,List.take_append_drop]
 refine⟨rfl,rfl,?_,fun A B h=>?_,fun h x hx=>?_,?_,⟨ks,kd,q,g8 _ _ _⟩,⟨ks',kd',nx,?_⟩,fun A B e hc hs=>?_⟩
 ·show([i]++[q]).Perm [q,i]
  exact List.Perm.swap _ _ _
 ·simp only[qg] at h⊢
  rw[vp,bo,yd] at h
  rw[bo,yd]
  simp only[List.map_append,List.map_cons,List.map_nil,List.append_assoc,List.cons_append,List.nil_append] at h⊢
  rw[←List.append_assoc] at h⊢
  exact Mw h
 ·have hko:r_ (.p k):=h _ (List.mem_map.2 ⟨k,List.mem_of_getElem? hm,rfl⟩)
  simp only[qg,List.mem_append,List.mem_cons,List.mem_map] at hx h
  rcases hx with⟨p,hp,rfl⟩|rfl|⟨p,hp,rfl⟩
  ·exact h _ ⟨p,List.mem_of_mem_take hp,rfl⟩
  ·exact hko.1
  ·exact h _ ⟨p,List.mem_of_mem_drop hp,rfl⟩
 ·simp only[qg,dT,qh,Th.dt,List.take_append_drop]
 ·show dA _ _ _ q=_
  rw[cE _ _ hq,g8];rfl
 ·simp only[Dj] at hs⊢
  rw[List.append_assoc,gH] at hs⊢
  obtain⟨h1,h2,h3⟩:=hs
  refine⟨e_ (fun a ha=>hc a (by simp[ha])) h1,?_,?_,e_ (fun a ha=>hc a (List.mem_append.2 (.inr ha))) h3⟩
  ·show gX _ i=_
   rw[xF];rfl
  ·show gX _ q=_
   rw[rJ _ _ hq,xF]
   have:gX f i=nx:=by unfold gX;rw[hf]
   rw[←this];exact h2
theorem Qa {m:Nat} {ks:List Key} {ls:List (List It)} {k:Key} (hk:ks[m]?=some k) (hl:ls.length=ks.length+1):inter ks ls=inter (ks.take m) (ls.take (m+1))++ .s k::inter (ks.drop (m+1)) (ls.drop (m+1)):=by
 obtain⟨aY,bW⟩:=List.getElem?_eq_some_iff.1 hk
 induction m generalizing ks ls with
 |zero=>
  cases ks with
  |nil=>simp at aY
  |cons a ks=>
   cases ls with
   |nil=>simp at hl
   |cons x ls=>simp at bW;subst bW;simp[inter]
 |succ m ih=>
  cases ks with
  |nil=>simp at aY
  |cons a ks=>
   cases ls with
   |nil=>simp at hl
   |cons x ls=>
    simp only[List.length_cons] at aY hl
    simp only[List.take_succ_cons,List.drop_succ_cons,inter,List.append_assoc,List.cons_append]
    rw[←ih (ks:=ks) (ls:=ls) (by simpa using hk) (by omega) (by omega) (by simpa using bW)]
theorem Uj {f:Nat→Option jf} {i q m h:Nat} {ks:List Key} {l:List (Tr h)} {k:Key} {ps dh:List Pr} {nx nx':Int} (hr:fR f (Tr.nd i ks l)) (hf:f i=some (false,ps,ks,l.map (fun k=>(k.id:Int)),nx)) (eF:(ids (Tr.nd i ks l)).Nodup) (hq:q∉ids (Tr.nd i ks l)) (hl:l.length=ks.length+1) (hk:ks[m]?=some k):
 Spl f (dA (dA f q (some (false,dh,ks.drop (m+1),(l.map (fun k=>(k.id:Int))).drop (m+1),nx'))) i (some (false,ps,ks.take m,(l.map (fun k=>(k.id:Int))).take (m+1),nx))) (Tr.nd i ks l) q (Tr.nd i (ks.take m) (l.take (m+1))) k (Tr.nd q (ks.drop (m+1)) (l.drop (m+1))):=by
 obtain⟨_,h2⟩:=bV.1 hr
 rw[ki] at eF hq
 have EK:q≠i:=fun e=>hq (by simp[e])
 have Ba:∀x∈l,∀j∈ids x,j≠i∧j≠q:=fun x hx j hj=>
  ⟨fun e=>(List.nodup_cons.1 eF).1 (by rw[←e];exact eV hx hj),fun e=>hq (List.mem_cons.2 (.inr (by rw[←e];exact eV hx hj)))⟩
 have Qb:∀x∈l,fR (dA (dA f q (some (false,dh,ks.drop (m+1),(l.map (fun k=>(k.id:Int))).drop (m+1),nx'))) i (some (false,ps,ks.take m,(l.map (fun k=>(k.id:Int))).take (m+1),nx))) x:=fun x hx=>
  cX (fun j hj=>by rw[cE _ _ (Ba x hx j hj).1,cE _ _ (Ba x hx j hj).2]) (h2 x hx)
 have vp:fl (Tr.nd i ks l)=fl (Tr.nd i (ks.take m) (l.take (m+1)))++ .s k::fl (Tr.nd q (ks.drop (m+1)) (l.drop (m+1))):=by
  simp only[r9,List.map_take,List.map_drop]
  exact Qa hk (by rw[List.length_map];exact hl)
 refine⟨rfl,rfl,?_,fun A B h=>?_,fun h=>?_,?_,bV.2 ⟨⟨ps,nx,?_⟩,fun x hx=>Qb x (List.mem_of_mem_take hx)⟩,bV.2 ⟨⟨dh,nx',?_⟩,fun x hx=>Qb x (List.mem_of_mem_drop hx)⟩,fun A B e hc hs=>?_⟩
 ·simp only[ki,List.cons_append]
  refine((List.Perm.cons i (List.perm_middle)).trans (List.Perm.swap _ _ _)).trans (List.Perm.cons _ (List.Perm.cons _ ?_))
  rw[←List.flatten_append,←List.map_append,List.take_append_drop]
 ·rw[←vp];exact h
 ·rw[←vp];exact h
 ·rw[←vp]
 ·rw[g8,List.map_take]
 ·rw[cE _ _ EK,g8,List.map_drop]
 ·simp only[uH] at hs⊢
  have:(List.map de (List.take (m+1) l)).flatten++(List.map de (List.drop (m+1) l)).flatten=(l.map de).flatten:=by
   rw[←List.flatten_append,←List.map_append,List.take_append_drop]
  rw[this]
  refine e_ (fun a ha=>?_) hs
  simp only[List.mem_append] at ha hc
  rcases ha with(ha|ha)|ha
  ·exact hc a (.inl ha)
  ·obtain⟨_,hm,ha⟩:=List.mem_flatten.1 ha
   obtain⟨x,hx,rfl⟩:=List.mem_map.1 hm
   obtain⟨e1,e2⟩:=Ba x hx _ (ic x a ha)
   rw[rJ _ _ e1,rJ _ _ e2]
  ·exact hc a (.inr ha)
def Fr.oT {h:Nat} (f:Fr h) (t1:Tr h) (k:Key) (t2:Tr h):Tr (h+1):=Tr.nd f.id (f.kl++k::f.kr) (f.L++t1::t2::f.R)
theorem jw.grow {f f':Nat→Option jf} {u o h H q:Nat} {c:Ctx (h+1) H} {fr:Fr h} {t t1 t2:Tr h} {k:Key} {ps:List Pr} {nx:Int} (m:jw f u (aZ (.down c fr) t)) (hc:(Ctx.down c fr).Sz o) (s:Spl f f' t q t1 k t2)
 (hq:q∉ids (aZ (.down c fr) t)) (WQ:∀j,j≠q→j≠t.id→f' j=f j):
 jw (dA f' fr.id (some (false,ps,fr.kl++k::fr.kr,fr.L.map (fun k=>(k.id:Int))++(t.id:Int)::(q:Int)::fr.R.map (fun k=>(k.id:Int)),nx))) (u+1) (aZ c (fr.oT t1 k t2))∧aR (aZ c (fr.oT t1 k t2))=aR (aZ (.down c fr) t):=by
 obtain⟨h1,h2,e1,e2,h5,h6,h7⟩:=iZ.1 hc
 have iO:=gz (.down c fr) t
 have KB:(ids t).Nodup∧(∀j∈(Ctx.down c fr).ids,j∉ids t)∧(Ctx.down c fr).ids.Nodup:=by
  have:=(iO.nodup_iff).1 m.nd
  rw[List.nodup_append] at this
  exact⟨this.2.1,fun j hj hj'=>this.2.2 j hj j hj' rfl,this.1⟩
 have RK:q∉(Ctx.down c fr).ids∧q∉ids t:=by
  have:=fun h=>hq ((iO.mem_iff).2 h)
  exact⟨fun h=>this (List.mem_append.2 (.inl h)),fun h=>this (List.mem_append.2 (.inr h))⟩
 have hcf:∀j∈(Ctx.down c fr).ids,f' j=f j:=fun j hj=>WQ j (fun e=>RK.1 (by rw[←e];exact hj)) fun e=>KB.2.1 j hj (by rw[e];exact jx t)
 have Sc:(ids (aZ c (fr.oT t1 k t2))).Perm (q::ids (aZ (.down c fr) t)):=by
  refine(gz c _).trans (List.Perm.trans ?_ (List.Perm.cons q iO.symm))
  simp only[Fr.oT,ki,Ctx.ids,List.map_append,List.map_cons,List.flatten_append,List.flatten_cons]
  have p1:((f:List Nat)→(g:List Nat)→(ids t1++(ids t2++g)).Perm (q::(ids t++g))):=fun _ g=>by
   rw[←List.append_assoc,←List.cons_append]
   exact List.Perm.append_right g s.perm
  have:(c.ids++fr.id::((fr.L.map ids).flatten++(ids t1++(ids t2++(fr.R.map ids).flatten)))).Perm (c.ids++fr.id::((fr.L.map ids).flatten++(q::(ids t++(fr.R.map ids).flatten)))):=
   List.Perm.append_left _ (List.Perm.cons _ (List.Perm.append_left _ (p1 [] _)))
  refine this.trans ?_
  have p2:((fr.L.map ids).flatten++(q::(ids t++(fr.R.map ids).flatten))).Perm (q::((fr.L.map ids).flatten++(ids t++(fr.R.map ids).flatten))):=List.perm_middle
  refine(List.Perm.append_left _ (List.Perm.cons _ p2)).trans ?_
  refine(List.Perm.append_left _ (List.Perm.swap _ _ _)).trans ?_
  refine List.perm_middle.trans (List.Perm.cons _ ?_)
  rw[List.append_assoc]
  refine List.Perm.append_left _ (List.Perm.cons _ ?_)
  show List.Perm _ (((fr.L.map ids).flatten++(fr.R.map ids).flatten)++ids t)
  rw[List.append_assoc]
  exact List.Perm.append_left _ List.perm_append_comm
 have hfi:fr.id∈(Ctx.down c fr).ids:=by simp[Ctx.ids]
 have xU:∀j∈c.ids,j≠fr.id:=fun j hj e=>by
  have:=KB.2.2
  simp only[Ctx.ids] at this
  exact(List.nodup_append.1 this).2.2 j hj fr.id (by simp) e
 have VG:∀x,x∈fr.L∨x∈fr.R→∀j∈ids x,j∈(Ctx.down c fr).ids∧j≠fr.id:=fun x hx j hj=>by
  have mV:j∈(fr.L.map ids).flatten++(fr.R.map ids).flatten:=by
   rcases hx with hx|hx
   ·exact List.mem_append.2 (.inl (eV hx hj))
   ·exact List.mem_append.2 (.inr (eV hx hj))
  refine⟨by simp only[Ctx.ids];exact List.mem_append.2 (.inr (List.mem_cons.2 (.inr mV))),fun e=>?_⟩
  have:=KB.2.2
  simp only[Ctx.ids] at this
  exact(List.nodup_cons.1 (List.nodup_append.1 this).2.1).1 (by rw[←e];exact mV)
 have hr:=(en _ _).1 m.rep
 obtain⟨⟨ps0,nx0,r1⟩,r2,r3,r4⟩:=q5.1 hr.1
 have ade:fl (aZ (.down c fr) t)=(Ctx.down c fr).l++fl t++(Ctx.down c fr).r:=eU _ _ hc
 have adf:fl (aZ c (fr.oT t1 k t2))=(Ctx.down c fr).l++(fl t1++ .s k::fl t2)++(Ctx.down c fr).r:=by
  rw[eU c _ h7]
  simp only[Fr.oT,r9,List.map_append,List.map_cons,Ctx.l,Ctx.r]
  rw[lY _ _ _ (by rw[e1,List.length_map]),yZ]
  simp only[List.append_assoc,List.cons_append]
 have VH:∀x,x=t1∨x=t2→∀j∈ids x,j≠fr.id:=fun x hx j hj e=>by
  have:j∈ids t1++ids t2:=by
   rcases hx with rfl|rfl
   ·exact List.mem_append.2 (.inl hj)
   ·exact List.mem_append.2 (.inr hj)
  have:=(s.perm.mem_iff).1 this
  rcases List.mem_cons.1 this with h|h
  ·exact RK.1 (by rw[←h,e];exact hfi)
  ·exact KB.2.1 _ hfi (by rw[←e];exact h)
 refine⟨⟨?_,?_,?_,?_,?_,?_⟩,?_⟩
 ·refine(en c _).2 ⟨oD (fun j hj=>?_) r4,bV.2 ⟨⟨ps,nx,?_⟩,fun x hx=>?_⟩⟩
  ·rw[cE _ _ (xU j hj)]
   exact(hcf j (by simp only[Ctx.ids];exact List.mem_append.2 (.inl hj))).symm
  ·rw[g8,List.map_append,List.map_cons,List.map_cons,s.id1,s.id2]
  ·simp only[List.mem_append,List.mem_cons] at hx
   have up:∀x:Tr h,(∀j∈ids x,j≠fr.id)→fR f' x→fR (dA f' fr.id (some (false,ps,fr.kl++k::fr.kr,fr.L.map (fun k=>(k.id:Int))++(t.id:Int)::(q:Int)::fr.R.map (fun k=>(k.id:Int)),nx))) x:=fun x hx h=>cX (fun j hj=>(cE _ _ (hx j hj)).symm) h
   rcases hx with hx|rfl|rfl|hx
   ·exact up x (fun j hj=>(VG x (.inl hx) j hj).2) (cX (fun j hj=>(hcf j (VG x (.inl hx) j hj).1).symm) (r2 x hx))
   ·exact up _ (VH _ (.inl rfl)) s.P_
   ·exact up _ (VH _ (.inr rfl)) s.KA
   ·exact up x (fun j hj=>(VG x (.inr hx) j hj).2) (cX (fun j hj=>(hcf j (VG x (.inr hx) j hj).1).symm) (r3 x hx))
 ·exact(Sc.nodup_iff).2 (List.nodup_cons.2 ⟨hq,m.nd⟩)
 ·have hs:=m.yh
  rw[lZ] at hs
  have h8:=s.yh _ _ _ (fun a ha=>by
   have:=yj (.down c fr) a ha
   unfold gX;rw[hcf _ this]) hs
  rw[lZ]
  have e3:c.ll++de (fr.oT t1 k t2)++c.lr=(Ctx.down c fr).ll++(de t1++de t2)++(Ctx.down c fr).lr:=by
   simp[Fr.oT,Ctx.ll,Ctx.lr]
  rw[e3]
  refine e_ (fun a ha=>?_) h8
  simp only[List.mem_append] at ha
  by_cases e:a.1=fr.id
  ·exfalso
   rcases ha with(ha|ha|ha)|ha
   ·
    have:a.1∈c.ids++((fr.L.map ids).flatten++(fr.R.map ids).flatten):=by
     simp only[Ctx.ll,List.mem_append] at ha
     rcases ha with ha|ha
     ·exact List.mem_append.2 (.inl (yj c a (List.mem_append.2 (.inl ha))))
     ·obtain⟨_,hm,ha⟩:=List.mem_flatten.1 ha
      obtain⟨x,hx,rfl⟩:=List.mem_map.1 hm
      exact List.mem_append.2 (.inr (List.mem_append.2 (.inl (eV hx (ic x a ha)))))
    rcases List.mem_append.1 this with h|h
    ·exact xU _ h e
    ·have hn:=KB.2.2
     simp only[Ctx.ids] at hn
     exact(List.nodup_cons.1 (List.nodup_append.1 hn).2.1).1 (by rw[←e];exact h)
   ·exact VH _ (.inl rfl) _ (ic _ a ha) e
   ·exact VH _ (.inr rfl) _ (ic _ a ha) e
   ·have:a.1∈c.ids++((fr.L.map ids).flatten++(fr.R.map ids).flatten):=by
     simp only[Ctx.lr,List.mem_append] at ha
     rcases ha with ha|ha
     ·obtain⟨_,hm,ha⟩:=List.mem_flatten.1 ha
      obtain⟨x,hx,rfl⟩:=List.mem_map.1 hm
      exact List.mem_append.2 (.inr (List.mem_append.2 (.inr (eV hx (ic x a ha)))))
     ·exact List.mem_append.2 (.inl (yj c a (List.mem_append.2 (.inr ha))))
    rcases List.mem_append.1 this with h|h
    ·exact xU _ h e
    ·have hn:=KB.2.2
     simp only[Ctx.ids] at hn
     exact(List.nodup_cons.1 (List.nodup_append.1 hn).2.1).1 (by rw[←e];exact h)
  ·rw[rJ _ _ e]
 ·rw[adf]
  exact s.ord _ _ (by rw[←ade];exact m.ord)
 ·rw[adf]
  have cJ:=m.ok
  rw[ade] at cJ
  intro x hx
  simp only[List.mem_append] at hx cJ
  rcases hx with(hx|hx)|hx
  ·exact cJ x (.inl (.inl hx))
  ·exact s.ok (fun y hy=>cJ y (.inl (.inr hy))) x (List.mem_append.2 hx)
  ·exact cJ x (.inr hx)
 ·rw[m.used,Sc.length_eq,List.length_cons]
 ·have e0:∀A X B,dt (A++X++B)=dt A++dt X++dt B:=fun A X B=>by rw[dT,dT]
  rw[←kj,←kj,adf,ade,e0,e0,s.dt]
theorem jw.root {f f':Nat→Option jf} {u h q r:Nat} {t t1 t2:Tr h} {k:Key} {ps:List Pr} {nx:Int} (m:jw f u t) (s:Spl f f' t q t1 k t2) (hq:q∉ids t) (hr1:r∉ids t) (hr2:r≠q):
 jw (dA f' r (some (false,ps,[k],[(t.id:Int),(q:Int)],nx))) (u+2) (Tr.nd r [k] [t1,t2])∧aR (Tr.nd r [k] [t1,t2])=aR t:=by
 have iO:(ids t1++ids t2).Perm (q::ids t):=s.perm
 have cP:∀j∈ids t1++ids t2,j≠r:=fun j hj e=>by
  rcases List.mem_cons.1 ((iO.mem_iff).1 hj) with h|h
  ·exact hr2 (e▸h)
  ·exact hr1 (e▸h)
 have alE:ids (Tr.nd r [k] [t1,t2])=r::(ids t1++ids t2):=by simp
 have vp:fl (Tr.nd r [k] [t1,t2])=fl t1++ .s k::fl t2:=by simp[inter]
 refine⟨⟨bV.2 ⟨⟨ps,nx,?_⟩,fun x hx=>?_⟩,?_,?_,?_,?_,?_⟩,?_⟩
 ·rw[g8];simp[s.id1,s.id2]
 ·simp only[List.mem_cons,List.not_mem_nil,or_false] at hx
  rcases hx with rfl|rfl
  ·exact cX (fun j hj=>(cE _ _ (cP j (List.mem_append.2 (.inl hj)))).symm) s.P_
  ·exact cX (fun j hj=>(cE _ _ (cP j (List.mem_append.2 (.inr hj)))).symm) s.KA
 ·rw[alE]
  exact List.nodup_cons.2 ⟨fun h=>cP r h rfl,(iO.nodup_iff).2 (List.nodup_cons.2 ⟨hq,m.nd⟩)⟩
 ·have:=s.yh [] [] (-1) (by simp) (by simpa using m.yh)
  have e:de (Tr.nd r [k] [t1,t2])=de t1++de t2:=by simp
  rw[e]
  refine e_ (fun a ha=>?_) (by simpa using this)
  rcases List.mem_append.1 ha with ha|ha
  ·rw[rJ _ _ (cP _ (List.mem_append.2 (.inl (ic _ a ha))))]
  ·rw[rJ _ _ (cP _ (List.mem_append.2 (.inr (ic _ a ha))))]
 ·rw[vp]
  have:=s.ord [] [] (by simpa using m.ord)
  simpa using this
 ·rw[vp];exact s.ok m.ok
 ·rw[alE,List.length_cons,iO.length_eq,m.used,List.length_cons]
 ·rw[←kj,←kj,vp,s.dt]
theorem HJ {α:Type} (g:α→List Pr) (m:Nat):∀(l:List α),(∀x∈l,m≤(g x).length)→l.length*m≤((l.map g).flatten).length
 |[],_=>by simp
 |x::l,h=>by
  have h1:=h x (by simp)
  have h2:=HJ g m l fun y hy=>h y (by simp[hy])
  simp only[List.map_cons,List.flatten_cons,List.length_append,List.length_cons,Nat.succ_mul]
  omega
theorem Y7 {h:Nat} (i:Nat) (ks:List Key) (l:List (Tr h)):aR (Tr.nd i ks l)=(l.map aR).flatten:=by
 unfold aR
 rw[uH]
 induction l with
 |nil=>rfl
 |cons x l ih=>simp only[List.map_cons,List.flatten_cons,List.flatMap_append];rw[ih]
theorem pw {o:Nat}:∀{h:Nat} {t:Tr h},Sz o (o/2) o t→(o/2+1)^h*(o/2)≤(aR t).length
 |0,t,hz=>by
  obtain⟨i,ps,rfl⟩:=t.sm
  have:=(gq.1 hz).1
  rw[qd];simpa using this
 |h+1,t,hz=>by
  obtain⟨i,ks,l,rfl⟩:=t.sn
  obtain⟨h1,_,h2,h4⟩:=e8.1 hz
  have:=HJ aR _ l fun x hx=>pw (h4 x hx)
  rw[Y7]
  have h5:(o/2+1)*((o/2+1)^h*(o/2))≤l.length*((o/2+1)^h*(o/2)):=Nat.mul_le_mul_right _ (by omega)
  have e:(o/2+1)^(h+1)*(o/2)=(o/2+1)*((o/2+1)^h*(o/2)):=by rw[Nat.pow_succ,Nat.mul_comm ((o/2+1)^h),Nat.mul_assoc]
  rw[e];omega
abbrev a_:=Int×Int×Int×Key×Key×Key×Key×Int
abbrev eH:=Int×Bool×Key×List Pr×Int
abbrev a_.kind (r:a_):Int:=r.2.2.1
abbrev a_.key (r:a_):Key:=r.2.2.2.1
abbrev a_.val (r:a_):Key:=r.2.2.2.2.1
abbrev a_.kB (r:a_):Key:=r.2.2.2.2.2.1
abbrev a_.to (r:a_):Key:=r.2.2.2.2.2.2.1
abbrev a_.nq (r:a_):Int:=r.2.2.2.2.2.2.2
def uI (r:a_):Bool:=decide (0≤r.1)&&decide (0≤r.2.1)&&dC r.val&&dC r.kB
def eM (r:a_):Bool:=uI r&&(if r.kind=6 then dm r.key r.to&&decide (1≤r.nq)&&decide (r.nq≤100) else decide (1≤r.kind)&&decide (r.kind≤5)&&gC r.key)
def k8 (l:List Pr) (lo hi:Key) (n:Int):List Pr:=(l.filter fun p=>rI lo hi p.1).take n.toNat
theorem Lg {l:List Pr} {lo hi:Key} {n:Int} {i:Nat} (h:i<l.length):k8 (l.take (i+1)) lo hi n=if rI lo hi l[i].1=true∧((k8 (l.take i) lo hi n).length:Int)<n then k8 (l.take i) lo hi n++[l[i]] else k8 (l.take i) lo hi n:=by
 unfold k8
 rw[bH h,List.filter_append]
 by_cases hp:rI lo hi l[i].1=true
 ·simp only[List.filter_cons,hp,if_true,List.filter_nil,true_and]
  generalize (l.take i).filter (fun p=>rI lo hi p.1)=m
  rw[List.length_take]
  split
  ·rw[List.take_of_length_le (by grind),List.take_of_length_le (by omega)]
  grind
 simp_all
theorem Dm (l:List Pr) (lo hi:Key) (n:Int):(k8 l lo hi n).length≤l.length:=by
 unfold k8
 grind
def ko (l:List Pr) (k:Key):eH:=(0,cK l k,(dY l k).getD [],[],0)
def Fc (c:Int):eH:=(c,false,[],[],0)
def oE (l:List Pr) (r:a_) (a8:Int):List Pr×eH:=if cK l r.key=false∧a8≤(l.length:Int) then(l,Fc 5) else(fF l r.key r.val,ko l r.key)
def Dn (l:List Pr) (r:a_) (a8:Int):List Pr×eH:=
 if r.kind=6 then(l,(0,false,[],k8 l r.key r.to r.nq,0))
 else if r.kind=1 then(l,ko l r.key)
 else if r.kind=3 then(gF l r.key,ko l r.key)
 else if r.kind=4 then(if cK l r.key=true then(l,ko l r.key) else oE l r a8)
 else if r.kind=5 then(if cK l r.key=false then(l,Fc 3) else if(dY l r.key).getD []≠r.kB then(l,(10,cK l r.key,(dY l r.key).getD [],[],0)) else oE l r a8)
 else oE l r a8
def zT (l:List Pr) (r:a_) (a8:Int):List Pr×eH:=if eM r=true then Dn l r a8 else(l,Fc 1)
def dv (a8:Int):List Pr→List a_→List Pr×List eH
 |l,[]=>(l,[])
 |l,r::rs=>((dv a8 (zT l r a8).1 rs).1,(zT l r a8).2::(dv a8 (zT l r a8).1 rs).2)
theorem wC (a8:Int):∀(l:List Pr) (a b:List a_),dv a8 l (a++b)=((dv a8 (dv a8 l a).1 b).1,(dv a8 l a).2++(dv a8 (dv a8 l a).1 b).2)
 |l,[],b=>rfl
 |l,r::a,b=>by simp only[List.cons_append,dv,wC a8 _ a b]
theorem Qc (a8:Int) (l:List Pr) (a:List a_) (r:a_):dv a8 l (a++[r])=((zT (dv a8 l a).1 r a8).1,(dv a8 l a).2++[(zT (dv a8 l a).1 r a8).2]):=by
 rw[wC];rfl
theorem tD (a8:Int):∀(l:List Pr) (a:List a_),(dv a8 l a).2.length=a.length
 |_,[]=>rfl
 |l,r::a=>by simp[dv,tD a8 _ a]
theorem w7 {r:a_} (h:eM r=true) (hk:r.kind≠6):gC r.key=true∧dC r.val=true:=by
 unfold eM uI at h
 simp_all
theorem Uk {l:List Pr} (hl:cH l) {r:a_} (hm:eM r=true) (hk:r.kind≠6) (a8:Int):cH (oE l r a8).1∧(oE l r a8).1.length≤l.length+1:=by
 obtain⟨h1,h2⟩:=w7 hm hk
 unfold oE
 split
 ·simp_all
 ·refine⟨hl.put h1 h2,?_⟩
  simp only
  rw[mD hl.sort];grind
theorem DK {l:List Pr} (hl:cH l) (r:a_) (a8:Int):cH (zT l r a8).1∧(zT l r a8).1.length≤l.length+1:=by
 unfold zT
 split
 ·rename_i hm
  unfold Dn
  have hd:(gF l r.key).length≤l.length:=List.length_filter_le _ _
  repeat' split
  all_goals first|exact⟨hl,by simp⟩|exact⟨hl.del _,by simp only;omega⟩|exact Uk hl hm (by assumption) a8
 simp_all
theorem HK (a8:Int):∀{l:List Pr} (a:List a_),cH l→cH (dv a8 l a).1∧(dv a8 l a).1.length≤l.length+a.length
 |l,[],h=>⟨h,by simp[dv]⟩
 |l,r::a,h=>by
  obtain⟨h1,h2⟩:=DK h r a8
  obtain⟨h3,h4⟩:=HK a8 a h1
  exact⟨h3,by simp only[dv,List.length_cons];omega⟩
theorem Ti {l:List Pr} (hl:cH l) (r:a_) (a8:Int):((zT l r a8).1.length:Int)≤a8∨(zT l r a8).1.length≤l.length:=by
 unfold zT
 split
 ·rename_i hm
  unfold Dn
  have hd:(gF l r.key).length≤l.length:=List.length_filter_le _ _
  have hp:((oE l r a8).1.length:Int)≤a8∨(oE l r a8).1.length≤l.length:=by
   unfold oE
   split
   ·simp
   ·rename_i h
    simp only
    rw[mD hl.sort]
    grind
  grind
 simp
abbrev One:=Int×a_×eH
def KC:a_:=(0,0,0,[],[],[],[],0)
def fw:eH:=(0,false,[],[],0)
def vO:One:=(0,KC,fw)
def jQ {α:Type} (l:List α) (i:Int):Option α:=if 0≤i then l[i.toNat]? else none
theorem pQ {α:Type} (l:List α) (j:Nat):jQ l (j:Int)=l[j]?:=by unfold jQ;rw[if_pos (by omega),Int.toNat_natCast]
theorem Y8 {α:Type} {l:List α} {i:Int} (h0:0≤i) (h1:i<(l.length:Int)):∃j:Nat,i=(j:Int)∧∃h:j<l.length,jQ l i=some l[j]:=by
 obtain⟨j,rfl⟩:=Int.eq_ofNat_of_zero_le h0
 exact⟨j,rfl,by omega,by rw[pQ,List.getElem?_eq_getElem (by omega)]⟩
theorem HM {α:Type} {l:List α} {i:Int} (h:¬(0≤i∧i<(l.length:Int))):jQ l i=none:=by
 unfold jQ
 split
 ·rw[List.getElem?_eq_none];omega
 ·rfl
theorem q7 {α:Type} {l:List α} {i:Int} {x:α} (h:jQ l i=some x):∃j:Nat,i=(j:Int)∧l[j]?=some x:=by
 unfold jQ at h
 split at h
 ·exact⟨i.toNat,by omega,h⟩
 ·cases h
def oF {α:Type} (p:α→Bool) (l:List α):Int:=match l.findIdx? p with|some i=>(i:Int)|none=> -1
theorem Eb {α:Type} {p:α→Bool} {l:List α} {i:Nat} (h:i<l.length) (hp:p l[i]=true) (hn:∀j (h:j<l.length),j<i→p l[j]=false):oF p l=(i:Int)∧l.findIdx? p=some i:=by
 have:l.findIdx? p=some i:=List.findIdx?_eq_some_iff_getElem.2 ⟨h,hp,fun j hj=>by rw[hn j (by omega) hj];simp⟩
 exact⟨by unfold oF;rw[this],this⟩
theorem Ec {α:Type} {p:α→Bool} {l:List α} (hn:∀j (h:j<l.length),p l[j]=false):oF p l= -1∧l.findIdx? p=none:=by
 have:l.findIdx? p=none:=List.findIdx?_eq_none_iff.2 fun x hx=>by
  obtain⟨j,hj,rfl⟩:=List.getElem_of_mem hx
  exact hn j hj
 exact⟨by unfold oF;rw[this],this⟩
theorem y4 {α:Type} {p:α→Bool} {l:List α}:oF p l<0↔l.findIdx? p=none:=by
 unfold oF
 cases l.findIdx? p with
 |none=>simp
 |some i=>simp
theorem HN {α:Type} {p:α→Bool} {l:List α}:(0≤oF p l)↔l.any p=true:=by
 have:=y4 (p:=p) (l:=l)
 rw[List.findIdx?_eq_none_iff] at this
 rw[List.any_eq_true]
 constructor
 ·intro h
  apply Classical.byContradiction
  intro hc
  have h2:=this.2 fun x hx=>by
   cases hp:p x with
   |false=>rfl
   |true=>exact absurd ⟨x,hx,hp⟩ hc
  omega
 ·rintro⟨x,hx,hp⟩
  apply Classical.byContradiction
  intro hc
  have:=this.1 (by omega) x hx
  rw[hp] at this;cases this
def stS (l:List One) (i:Int):Int:=match jQ l i with|some x=>x.1|none=> -1
def oG (l:List One) (st:Int):Int:=oF (fun x=>(x.1:Int)==st) l
def kJ (l:List One) (i to:Int) (fr:List Int):Int×List One:=match jQ l i with
 |none=>(6,l)
 |some x=>if x.1∈fr then(0,l.set i.toNat (to,x.2)) else(10,l)
def dr (l:List One) (i:Int) (a:eH):Int×List One:=match jQ l i with
 |none=>(6,l)
 |some x=>if x.1=2 then(0,l.set i.toNat (3,x.2.1,a)) else(10,l)
def oU (r:a_) (x:One):Bool:=if((x.1:Int)!=0)=true then(x.2.1.1:Int)==r.1 else false
def jy (l:List One) (r:a_):Int×Int×List One:=
 if eM r=false then(0,1,l)
 else if l.any (oU r)=true then(0,4,l)
 else match l.findIdx? (fun x=>(x.1:Int)==0) with
  |none=>(0,5,l)
  |some i=>((i:Int),0,l.set i (1,r,fw))
def mM (l:List One) (i c q:Int):eH×Int×List One:=match jQ l i with
 |none=>(fw,6,l)
 |some x=>if x.1=0∨x.2.1.1≠c∨x.2.1.2.1≠q then(fw,3,l) else if x.1<3 then(fw,10,l) else if x.1=4 then(fw,8,l.set i.toNat vO) else(x.2.2,0,l.set i.toNat vO)
def vP (l:List One) (i:Int):a_×Int:=match jQ l i with
 |none=>(KC,6)
 |some x=>if x.1=0 then(KC,3) else(x.2.1,0)
def kS (r:a_):Prop:=r.key.length≤100∧r.val.length≤100∧r.kB.length≤100∧r.to.length≤100
def okO (x:One):Prop:=0≤x.1∧x.1≤4∧kS x.2.1∧(x.1=0→x.2.1=KC)
def rK (l:List One):Prop:=∀x∈l,okO x
theorem xG {l:List One} (h:rK l) {i:Nat} {x:One} (hx:okO x):rK (l.set i x):=fun y hy=>by
 rcases List.mem_or_eq_of_mem_set hy with h1|rfl
 ·exact h y h1
 ·exact hx
theorem xH:okO vO:=⟨by decide,by decide,⟨by decide,by decide,by decide,by decide⟩,fun _=>rfl⟩
theorem Y9 (n:Nat):rK (List.replicate n vO):=fun x hx=>by rw[(List.mem_replicate.1 hx).2];exact xH
theorem xI {l:List One} (h:rK l) {i:Int} {x:One} (hx:jQ l i=some x):okO x:=by
 obtain⟨j,_,hj⟩:=q7 hx
 exact h x (List.mem_of_getElem? hj)
theorem Ul {l:List One} (h:rK l) {i to:Int} (h0:1≤to) (h1:to≤4) (fr:List Int):rK (kJ l i to fr).2:=by
 unfold kJ
 split
 ·exact h
 ·rename_i x hx
  split
  ·exact xG h ⟨by show(0:Int)≤to;omega,h1,(xI h hx).2.2.1,fun e=>by have e:to=0:=e;omega⟩
  ·exact h
theorem HO {l:List One} (h:rK l) (i:Int) (a:eH):rK (dr l i a).2:=by
 unfold dr
 split
 ·exact h
 ·rename_i x hx
  split
  ·exact xG h ⟨by show(0:Int)≤3;decide,by show(3:Int)≤4;decide,(xI h hx).2.2.1,fun e=>by have e:(3:Int)=0:=e;omega⟩
  ·exact h
theorem Dp (l:List One) (i to:Int) (fr:List Int):(kJ l i to fr).2.length=l.length:=by
 unfold kJ;repeat' split
 all_goals simp
theorem Qd (l:List One) (i:Int) (a:eH):(dr l i a).2.length=l.length:=by
 unfold dr;repeat' split
 all_goals simp
theorem Dq (l:List One) (r:a_):(jy l r).2.2.length=l.length:=by
 unfold jy;repeat' split
 all_goals simp
theorem Qe (l:List One) (i c q:Int):(mM l i c q).2.2.length=l.length:=by
 unfold mM;repeat' split
 all_goals simp
section
variable {α:Type}
theorem w9 {P Q:List α} {x y:α} {i:Nat} (h:i=P.length):(P++x::Q).set i y=P++y::Q:=by
 subst h
 rw[List.set_append_right _ _ (Nat.le_refl _),Nat.sub_self,List.set_cons_zero]
theorem iU {P Q:List α} {x:α} {i:Nat} (h:i=P.length):(P++x::Q)[i]?=some x:=by
 subst h
 rw[List.getElem?_append_right (Nat.le_refl _),Nat.sub_self];rfl
theorem xJ {P M Q:List α} {x y u v:α} {i j:Nat} (hi:i=P.length) (hj:j=P.length+1+M.length):((P++x::(M++y::Q)).set i u).set j v=P++u::(M++v::Q):=by
 rw[w9 hi,show P++u::(M++y::Q)=(P++u::M)++y::Q from by simp,w9 (by simp;omega)]
 simp
theorem sZ {P M Q:List α} {x y:α} {j:Nat} (hj:j=P.length+1+M.length):(P++x::(M++y::Q))[j]?=some y:=by
 rw[show P++x::(M++y::Q)=(P++x::M)++y::Q from by simp]
 exact iU (by simp;omega)
theorem drop_cons {l:List α} {i:Nat} (h:i<l.length):l.drop i=l[i]::l.drop (i+1):=List.drop_eq_getElem_cons h
end
structure Dr (cmp:Int→Int→Int) (lt:Int→Int→Prop) (l:List Int):Prop where
 tr:∀x y z,lt x y→lt y z→lt x z
 U:∀x y,lt x y→¬lt y x
 pw:l.Pairwise fun x y=>(cmp y x<0↔lt y x)∧(lt x y∨lt y x)
def oV (cmp:Int→Int→Int) (lt:Int→Int→Prop) (A B:List Int):Prop:=∀x∈A,∀y∈B,(cmp y x<0↔lt y x)∧(lt x y∨lt y x)
theorem oV.sub {cmp:Int→Int→Int} {lt:Int→Int→Prop} {A B A' B':List Int} (h:oV cmp lt A B) (ha:∀x∈A',x∈A) (hb:∀x∈B',x∈B):oV cmp lt A' B':=fun x hx y hy=>h x (ha x hx) y (hb y hy)
theorem Dr.app {cmp:Int→Int→Int} {lt:Int→Int→Prop} {A B:List Int} (h:Dr cmp lt (A++B)):Dr cmp lt A∧Dr cmp lt B∧oV cmp lt A B:=by
 have:=List.pairwise_append.1 h.pw
 exact⟨⟨h.tr,h.U,this.1⟩,⟨h.tr,h.U,this.2.1⟩,this.2.2⟩
abbrev eO (lt:Int→Int→Prop) (l:List Int):Prop:=l.Pairwise lt
theorem dB {lt:Int→Int→Prop} {A B:List Int}:eO lt (A++B)↔eO lt A∧eO lt B∧∀x∈A,∀y∈B,lt x y:=List.pairwise_append
theorem My {lt:Int→Int→Prop} (tr:∀x y z,lt x y→lt y z→lt x z) {A B:List Int} (hA:eO lt A) (hB:eO lt B) (h:∀a b,A.getLast?=some a→B.head?=some b→lt a b):∀x∈A,∀y∈B,lt x y:=by
 intro x hx y hy
 have Jy:A≠[]:=fun e=>by subst e;simp at hx
 have WR:B≠[]:=fun e=>by subst e;simp at hy
 have hl:=h (A.getLast Jy) (B.head WR) (List.getLast?_eq_some_getLast Jy) (List.head?_eq_some_head WR)
 have h1:x=A.getLast Jy∨lt x (A.getLast Jy):=by
  rw[←List.dropLast_concat_getLast Jy] at hx hA
  rcases List.mem_append.1 hx with h|h
  ·exact .inr ((dB.1 hA).2.2 x h _ (by simp))
  ·exact .inl (by simpa using h)
 have h2:y=B.head WR∨lt (B.head WR) y:=by
  cases B with
  |nil=>exact absurd rfl WR
  |cons b B=>
   rcases List.mem_cons.1 hy with h|h
   ·exact .inl h
   ·exact .inr ((List.pairwise_cons.1 hB).1 y h)
 rcases h1 with rfl|h1<;>rcases h2 with rfl|h2
 ·exact hl
 ·exact tr _ _ _ hl h2
 ·exact tr _ _ _ h1 hl
 ·exact tr _ _ _ h1 (tr _ _ _ hl h2)
theorem Ds {lt:Int→Int→Prop} (U:∀x y,lt x y→¬lt y x):∀{A B:List Int},A.Perm B→eO lt A→eO lt B→A=B
 |[],B,p,_,_=>(List.nil_perm.1 p).symm▸rfl
 |a::A,[],p,_,_=>by simp at p
 |a::A,b::B,p,hA,hB=>by
  have hA':=List.pairwise_cons.1 hA
  have hB':=List.pairwise_cons.1 hB
  have yg:a=b:=by
   have h1:a∈b::B:=p.subset (by simp)
   have h2:b∈a::A:=p.symm.subset (by simp)
   rcases List.mem_cons.1 h1 with h|h
   ·exact h
   ·rcases List.mem_cons.1 h2 with h'|h'
    ·exact h'.symm
    ·exact absurd (hB'.1 a h) (U _ _ (hA'.1 b h'))
  subst yg
  rw[Ds U (List.perm_cons a|>.1 p) hA'.2 hB'.2]
def o_ (a b:a_):Bool:=al a.key b.key||(!al b.key a.key&&(decide (a.kind≠6)&&decide (b.kind=6)))
theorem KD {a b:a_}:o_ a b=false↔al a.key b.key=false∧(al b.key a.key=true∨a.kind=6∨b.kind≠6):=by
 unfold o_
 cases al a.key b.key<;>cases al b.key a.key<;>by_cases h1:a.kind=6<;>by_cases h2:b.kind=6<;>simp[h1,h2]
theorem Sd {a b:a_}:o_ a b=true↔al a.key b.key=true∨(al b.key a.key=false∧a.kind≠6∧b.kind=6):=by
 unfold o_
 cases al a.key b.key<;>cases al b.key a.key<;>by_cases h1:a.kind=6<;>by_cases h2:b.kind=6<;>simp[h1,h2]
theorem Mz {a b:a_} (h:o_ a b=true):o_ b a=false:=by
 rw[KD]
 rcases Sd.1 h with h|⟨h1,h2,h3⟩
 ·exact⟨fc h,.inl h⟩
 ·refine⟨h1,.inr (.inl h3)⟩
theorem Dt {a b c:a_} (h1:o_ a b=false) (h2:o_ b c=false):o_ a c=false:=by
 obtain⟨p1,p2⟩:=KD.1 h1
 obtain⟨q1,q2⟩:=KD.1 h2
 have r1:al a.key c.key=false:=le_trans' q1 p1
 refine KD.2 ⟨r1,?_⟩
 cases hca:al c.key a.key with
 |true=>exact .inl rfl
 |false=>
  have e:=ie r1 hca
  rw[←e] at q1 q2
  rw[q1] at p2
  rw[p1] at q2
  simp only[Bool.false_eq_true,false_or] at p2 q2
  refine .inr ?_
  rcases p2 with h|h
  ·exact .inl h
  ·rcases q2 with h'|h'
   ·exact absurd h' h
   ·exact .inr h'
theorem Um {a b c:a_} (h1:o_ a b=true) (h2:o_ b c=true):o_ a c=true:=by
 cases h:o_ a c with
 |true=>rfl
 |false=>rw[Dt h (Mz h2)] at h1;cases h1
def rq (l:List a_) (i:Int):a_:=(l[i.toNat]?).getD (0,0,0,[],[],[],[],0)
def vX (l:List a_) (i:Int):Prop:=0≤i∧i<l.length
theorem Eo {l:List a_} {i:Int} (h:vX l i):l[i.toNat]?=some (rq l i):=by
 obtain⟨h1,h2⟩:=h
 have:i.toNat<l.length:=by omega
 unfold rq
 rw[List.getElem?_eq_getElem this];rfl
def zh (l:List a_) (x y:Int):Prop:=vX l x∧vX l y∧(o_ (rq l x) (rq l y)=true∨(o_ (rq l y) (rq l x)=false∧x<y))
theorem Se (l:List a_):∀x y z,zh l x y→zh l y z→zh l x z:=by
 rintro x y z ⟨h1,_,h2⟩ ⟨_,h3,h4⟩
 refine⟨h1,h3,?_⟩
 rcases h2 with h2|⟨h2,h5⟩<;>rcases h4 with h4|⟨h4,h6⟩
 ·exact .inl (Um h2 h4)
 ·left
  cases h:o_ (rq l x) (rq l z) with
  |true=>rfl
  |false=>rw[Dt h h4] at h2;cases h2
 ·left
  cases h:o_ (rq l x) (rq l z) with
  |true=>rfl
  |false=>rw[Dt h2 h] at h4;cases h4
 ·exact .inr ⟨Dt h4 h2,by omega⟩
theorem Sf (l:List a_):∀x y,zh l x y→¬zh l y x:=by
 rintro x y ⟨_,_,h2⟩ ⟨_,_,h4⟩
 rcases h2 with h2|⟨h2,h5⟩<;>rcases h4 with h4|⟨h4,h6⟩
 ·rw[Mz h2] at h4;cases h4
 ·rw[h2] at h4;cases h4
 ·rw[h2] at h4;cases h4
 ·omega
def lg (r:a_):Int:=if r.kind=6 then 1 else 0
def ZY (l:List a_) (y x:Int):Int:=if lJ (rq l y).key (rq l x).key≠0 then lJ (rq l y).key (rq l x).key else lg (rq l y)- lg (rq l x)
theorem ahn (l:List a_) (y x:Int):ZY l y x<0↔o_ (rq l y) (rq l x)=true:=by
 unfold ZY
 rw[Sd]
 split
 ·rename_i h
  rw[qe]
  refine⟨.inl,fun h'=>h'.elim id fun⟨h1,h2,h3⟩=>?_⟩
  cases h4:al (rq l y).key (rq l x).key with
  |true=>rfl
  |false=>exact absurd (xC.2 (ie h4 h1)) h
 ·rename_i h
  have e:(rq l y).key=(rq l x).key:=xC.1 (Classical.byContradiction fun hc=>h hc)
  rw[e,i_]
  unfold lg
  split<;>split<;>simp_all
def pg (n:Nat):List Int:=List.map (fun i:Nat=>(i:Int)) (List.range n)
theorem uV (n:Nat):pg (n+1)=pg n++[(n:Int)]:=by simp[pg,List.range_succ]
theorem pB (n:Nat):(pg n).length=n:=by simp[pg]
theorem HQ {n:Nat} {x:Int}:x∈pg n↔0≤x∧x<n:=by
 unfold pg
 rw[List.mem_map]
 constructor
 ·rintro⟨i,h,rfl⟩;rw[List.mem_range] at h;omega
 ·rintro⟨h1,h2⟩;exact⟨x.toNat,by rw[List.mem_range];omega,by omega⟩
theorem Tl (l:List a_):Dr (ZY l) (zh l) (pg l.length):=by
 refine⟨Se l,Sf l,?_⟩
 have:∀n,n≤l.length→(pg n).Pairwise fun x y=>(ZY l y x<0↔zh l y x)∧(zh l x y∨zh l y x):=by
  intro n
  induction n with
  |zero=>intro _;exact .nil
  |succ n ih=>
   intro hn
   rw[uV]
   refine List.pairwise_append.2 ⟨ih (by omega),by simp,fun x hx y hy=>?_⟩
   obtain rfl:y=(n:Int):=by simpa using hy
   rw[HQ] at hx
   have o1:vX l x:=⟨hx.1,by omega⟩
   have o2:vX l (n:Int):=⟨by omega,by omega⟩
   rw[ahn]
   refine⟨⟨fun h=>⟨o2,o1,.inl h⟩,fun⟨_,_,h⟩=>h.resolve_right fun⟨_,h'⟩=>by omega⟩,?_⟩
   cases h:o_ (rq l (n:Int)) (rq l x) with
   |true=>exact .inr ⟨o2,o1,.inl h⟩
   |false=>exact .inl ⟨o1,o2,.inr ⟨h,hx.2⟩⟩
 exact this _ (Nat.le_refl _)
def Qf (l:List a_) (o:List Int) (i:Int):List Int:=(o.takeWhile fun x=> !o_ (rq l i) (rq l x))++i::o.dropWhile fun x=> !o_ (rq l i) (rq l x)
def q8 (l:List a_):Nat→List Int
 |0=>[]
 |n+1=>Qf l (q8 l n) n
def fA (l:List a_):List Int:=q8 l l.length
theorem Qg (l:List a_) (o:List Int) (i:Int):(Qf l o i).Perm (i::o):=by
 unfold Qf
 refine List.perm_middle.trans ?_
 rw[List.takeWhile_append_dropWhile]
theorem nM (l:List a_):∀n,(q8 l n).Perm (pg n)
 |0=>.refl _
 |n+1=>by
  refine(Qg l _ _).trans ?_
  rw[uV]
  exact((nM l n).cons _).trans (List.perm_append_singleton _ _).symm
theorem lQ (l:List a_) (n:Nat):(q8 l n).length=n:=by rw[(nM l n).length_eq,pB]
theorem y5 (l:List a_) {n:Nat} {x:Int}:x∈q8 l n↔0≤x∧x<n:=by rw[(nM l n).mem_iff,HQ]
theorem q_ {α:Type} {p:α→Bool}:∀{o:List α} {x:α} {r:List α},o.dropWhile p=x::r→p x=false
 |a::o,x,r,h=>by
  rw[List.dropWhile_cons] at h
  split at h
  ·exact q_ h
  ·rename_i hn;injection h with h1 h2;subst h1;simpa using hn
theorem sr {α:Type} {p:α→Bool}:∀{o:List α} {x:α},x∈o.takeWhile p→p x=true
 |a::o,x,h=>by
  rw[List.takeWhile_cons] at h
  split at h
  ·rename_i hp
   rcases List.mem_cons.1 h with rfl|h
   ·exact hp
   ·exact sr h
  ·cases h
theorem Du (l:List a_):∀n,n≤l.length→eO (zh l) (q8 l n)
 |0,_=>.nil
 |n+1,h=>by
  have ih:=Du l n (by omega)
  have hm:∀x∈q8 l n,0≤x∧x<n:=fun x hx=>(y5 l).1 hx
  have o2:vX l (n:Int):=⟨by omega,by omega⟩
  have e:(q8 l n).takeWhile (fun x=> !o_ (rq l n) (rq l x))++(q8 l n).dropWhile (fun x=> !o_ (rq l n) (rq l x))=q8 l n:=List.takeWhile_append_dropWhile
  show eO (zh l) (Qf l (q8 l n) n)
  unfold Qf
  have h1:∀x∈(q8 l n).takeWhile (fun x=> !o_ (rq l n) (rq l x)),zh l x n:=fun x hx=>by
   have:=sr hx
   have hxm:=hm x ((List.takeWhile_prefix _).subset hx)
   exact⟨⟨hxm.1,by omega⟩,o2,.inr ⟨by simpa using this,hxm.2⟩⟩
  have h2:∀x∈(q8 l n).dropWhile (fun x=> !o_ (rq l n) (rq l x)),zh l n x:=by
   cases hd:(q8 l n).dropWhile (fun x=> !o_ (rq l n) (rq l x)) with
   |nil=>intro x hx;cases hx
   |cons y r=>
    have hy:zh l n y:=by
     have:=q_ hd
     have hym:=hm y ((List.dropWhile_suffix _).subset (hd▸List.mem_cons_self))
     exact⟨o2,⟨hym.1,by omega⟩,.inl (by simpa using this)⟩
    intro x hx
    rcases List.mem_cons.1 hx with rfl|hx
    ·exact hy
    ·rw[←e,hd] at ih
     exact Se l _ _ _ hy ((List.pairwise_cons.1 (dB.1 ih).2.1).1 x hx)
  rw[←e] at ih
  have ih:=dB.1 ih
  refine dB.2 ⟨ih.1,List.pairwise_cons.2 ⟨h2,ih.2.1⟩,fun x hx y hy=>?_⟩
  rcases List.mem_cons.1 hy with rfl|hy
  ·exact h1 x hx
  ·exact ih.2.2 x hx y hy
theorem Oc {l:List a_} {C:List Int} (p:C.Perm (pg l.length)) (r:eO (zh l) C):C=fA l:=
 Ds (Sf l) (p.trans (nM l _).symm) r (Du l _ (Nat.le_refl _))
theorem w8 {l:List a_} {x:Int} (h:x∈fA l):vX l x:=(y5 l).1 h
def JW (l:List a_) (j i:Int):Bool:=decide ((rq l j).kind≠6)&&(decide ((rq l i).kind≠6)&&decide ((rq l j).key=(rq l i).key))
def BB (l:List a_) (out:List (List Int)) (i:Int):List (List Int):=
 match out.getLast? with
 |some g=>if JW l (g.headD 0) i then out.dropLast++[g++[i]] else out++[[i]]
 |none=>[[i]]
def nv (l:List a_) (o:List Int):Nat→List (List Int)
 |0=>[]
 |n+1=>match o[n]? with|some i=>BB l (nv l o n) i|none=>nv l o n
def FC (l:List a_):List (List Int):=nv l (fA l) l.length
theorem uX (l:List a_) (D:List (List Int)) (g:List Int) (i:Int):BB l (D++[g]) i=if JW l (g.headD 0) i then D++[g++[i]] else D++[g]++[[i]]:=by
 unfold BB
 rw[List.getLast?_concat,List.dropLast_concat]
structure JX (l:List a_) (out:List (List Int)) (n:Nat):Prop where
 ne:∀g∈out,g≠[]
 ok:∀g∈out,∀x∈g,vX l x
 len:out.length≤n
 all:∀g∈out,g.length≤n
theorem JX.step {l:List a_} {out:List (List Int)} {n:Nat} (h:JX l out n) {i:Int} (hi:vX l i):JX l (BB l out i) (n+1):=by
 have add:JX l (out++[[i]]) (n+1):=by
  refine⟨fun g hg=>?_,fun g hg=>?_,by have:=h.len;simp;omega,fun g hg=>?_⟩<;>rcases List.mem_append.1 hg with hg|hg
  ·exact h.ne g hg
  ·obtain rfl:g=[i]:=by simpa using hg
   simp
  ·exact h.ok g hg
  ·obtain rfl:g=[i]:=by simpa using hg
   intro x hx;obtain rfl:x=i:=by simpa using hx
   exact hi
  ·have:=h.all g hg;omega
  ·obtain rfl:g=[i]:=by simpa using hg
   simp
 rcases List.eq_nil_or_concat out with rfl|⟨D,g,rfl⟩
 ·exact add
 ·rw[List.concat_eq_append] at h add⊢
  rw[uX]
  split
  ·have hD:∀a∈D,a∈D++[g]:=fun a ha=>List.mem_append_left _ ha
   have hg:g∈D++[g]:=by simp
   refine⟨fun a ha=>?_,fun a ha=>?_,by have:=h.len;simp at this⊢;omega,fun a ha=>?_⟩<;>rcases List.mem_append.1 ha with ha|ha
   ·exact h.ne a (hD a ha)
   ·obtain rfl:a=g++[i]:=by simpa using ha
    simp
   ·exact h.ok a (hD a ha)
   ·obtain rfl:a=g++[i]:=by simpa using ha
    intro x hx
    rcases List.mem_append.1 hx with hx|hx
    ·exact h.ok g hg x hx
    ·obtain rfl:x=i:=by simpa using hx
     exact hi
   ·have:=h.all a (hD a ha);omega
   ·obtain rfl:a=g++[i]:=by simpa using ha
    have:=h.all g hg;simp;omega
  ·exact add
theorem DL {l:List a_} {o:List Int} (ho:∀x∈o,vX l x):∀n,JX l (nv l o n) n
 |0=>⟨by simp[nv],by simp[nv],by simp[nv],by simp[nv]⟩
 |n+1=>by
  have ih:=DL ho n
  unfold nv
  split
  ·rename_i i hi
   exact ih.step (ho i (List.mem_of_getElem? hi))
  ·exact⟨ih.ne,ih.ok,by have:=ih.len;omega,fun g hg=>by have:=ih.all g hg;omega⟩
abbrev bI:=Int×a_×eH
def cV (gs:List (List bI)) (k:Nat):Nat:=(gs.take k).flatten.length
def pU (gs:List (List bI)):List Int:=List.map (fun k:Nat=>(cV gs (k+1):Int)) (List.range gs.length)
theorem Tn (gs:List (List bI)):cV gs 0=0:=by simp[cV]
theorem Y_ (gs:List (List bI)):cV gs gs.length=gs.flatten.length:=by simp[cV]
theorem hG {gs:List (List bI)} {k:Nat} {g:List bI} (h:gs[k]?=some g):cV gs (k+1)=cV gs k+g.length:=by
 obtain⟨hk,rfl⟩:=List.getElem?_eq_some_iff.1 h
 unfold cV
 rw[bH hk,List.flatten_append,List.length_append]
 simp
theorem yu (gs:List (List bI)) {i j:Nat} (h:i≤j):cV gs i≤cV gs j:=by
 induction j with
 |zero=>
  obtain rfl:i=0:=by omega
  exact Nat.le_refl _
 |succ j ih=>
  by_cases e:i=j+1
  ·rw[e];exact Nat.le_refl _
  ·refine Nat.le_trans (ih (by omega)) ?_
   cases hg:gs[j]? with
   |some g=>rw[hG hg];omega
   |none=>
    have:=List.getElem?_eq_none_iff.1 hg
    unfold cV
    rw[List.take_of_length_le this,List.take_of_length_le (by omega)]
    exact Nat.le_refl _
theorem tP (gs:List (List bI)) (k:Nat):cV gs k≤gs.flatten.length:=by
 rcases Nat.le_total k gs.length with h|h
 ·rw[←Y_];exact yu gs h
 ·unfold cV;rw[List.take_of_length_le h];exact Nat.le_refl _
theorem BE (gs:List (List bI)):(pU gs).length=gs.length:=by simp[pU]
theorem Gi {gs:List (List bI)} {k:Nat} (h:k<gs.length):(pU gs)[k]?=some (cV gs (k+1):Int):=by
 unfold pU
 rw[List.getElem?_map,List.getElem?_range h];rfl
theorem pD {gs:List (List bI)} {k:Nat} {g:List bI} (h:gs[k]?=some g):gs.flatten=(gs.take k).flatten++(g++(gs.drop (k+1)).flatten):=by
 obtain⟨hk,rfl⟩:=List.getElem?_eq_some_iff.1 h
 conv=>lhs;rw[←List.take_append_drop k gs,List.drop_eq_getElem_cons hk]
 rw[List.flatten_append,List.flatten_cons]
theorem qD {gs:List (List bI)} {k:Nat} {g g':List bI} (h:gs[k]?=some g):(gs.set k g').flatten=(gs.take k).flatten++(g'++(gs.drop (k+1)).flatten):=by
 obtain⟨hk,_⟩:=List.getElem?_eq_some_iff.1 h
 have h2:(gs.set k g')[k]?=some g':=by rw[List.getElem?_set_self hk]
 rw[pD h2]
 congr 2
 ·rw[List.take_set_of_le (Nat.le_refl _)]
 ·rw[List.drop_set_of_lt (by omega)]
theorem DM {gs:List (List bI)} {k:Nat} {g g':List bI} (h:gs[k]?=some g) (hl:g'.length=g.length) (j:Nat):cV (gs.set k g') j=cV gs j:=by
 obtain⟨hk,_⟩:=List.getElem?_eq_some_iff.1 h
 induction j with
 |zero=>simp[cV]
 |succ j ih=>
  by_cases hj:j<gs.length
  ·have h1:gs[j]?=some gs[j]:=List.getElem?_eq_getElem hj
   rw[hG h1]
   by_cases e:j=k
   ·subst e
    rw[h] at h1
    injection h1 with h1
    rw[hG (g:=g') (by rw[List.getElem?_set_self hk]),ih,hl,h1]
   ·rw[hG (g:=gs[j]) (by rw[List.getElem?_set_ne (Ne.symm e)];exact h1),ih]
  ·have e1:∀(l:List (List bI)),l.length=gs.length→cV l (j+1)=cV l j:=fun l hl=>by
    unfold cV;rw[List.take_of_length_le (by omega),List.take_of_length_le (by omega)]
   rw[e1 _ (by simp),e1 _ rfl,ih]
theorem Oi {gs:List (List bI)} {k:Nat} {g g':List bI} (h:gs[k]?=some g) (hl:g'.length=g.length):pU (gs.set k g')=pU gs:=by
 unfold pU
 rw[List.length_set]
 refine List.map_congr_left fun j _=>?_
 rw[DM h hl]
def rO (g:List bI) (res:List eH) (i:Nat):List bI:=(List.zipWith (fun x a=>(x.1,x.2.1,a)) (g.take i) (res.take i))++g.drop i
theorem Og (g:List bI) (res:List eH):rO g res 0=g:=by simp[rO]
theorem Gn {g:List bI} {res:List eH} (h:res.length=g.length) (i:Nat):(rO g res i).length=g.length:=by
 unfold rO;rw[List.length_append,List.length_zipWith,List.length_take,List.length_take,List.length_drop];omega
theorem Oh {g:List bI} {res:List eH} (h:res.length=g.length) {i:Nat} (hi:i<g.length):(rO g res i)[i]?=some g[i]∧(rO g res i).set i (g[i].1,g[i].2.1,res[i]'(by omega))=rO g res (i+1):=by
 have hr:i<res.length:=by omega
 have hz:(List.zipWith (fun(x:bI) (a:eH)=>((x.1,x.2.1,a):bI)) (g.take i) (res.take i)).length=i:=by rw[List.length_zipWith,List.length_take,List.length_take];omega
 have e:rO g res i=(List.zipWith (fun(x:bI) (a:eH)=>((x.1,x.2.1,a):bI)) (g.take i) (res.take i))++g[i]::g.drop (i+1):=by unfold rO;rw[List.drop_eq_getElem_cons hi]
 rw[e]
 refine⟨iU hz.symm,?_⟩
 rw[w9 hz.symm]
 unfold rO
 rw[bH hi,bH hr,List.zipWith_append (by rw[List.length_take,List.length_take];omega)]
 simp
def mh (g:List bI) (res:List eH):List bI:=List.zipWith (fun x a=>(x.1,x.2.1,a)) g res
theorem Gq {g:List bI} {res:List eH} (h:res.length=g.length):rO g res g.length=mh g res:=by
 unfold rO mh
 rw[List.take_length,List.drop_length,List.append_nil,List.take_of_length_le (by omega)]
theorem yw {g:List bI} {res:List eH} (h:res.length=g.length):(mh g res).length=g.length:=by rw[←Gq h];exact Gn h _
def Oj (aI:List Int) (l:List a_) (i:Int):bI:=((aI[i.toNat]?).getD 0,rq l i,fw)
def mT (aI:List Int) (l:List a_):List (List bI):=(FC l).map fun g=>g.map (Oj aI l)
def Wn (aI:List Int) (l:List a_) (j:Nat):Bool:=(match l[j]? with|some r=>eM r|none=>true)&&(match aI[j]? with|some x=> !decide (x∈aI.take j)|none=>true)
def ph (aI:List Int) (l:List a_):Bool:=decide (0<l.length)&&s_ l.length (Wn aI l)
theorem Qh (l:List a_) (out:List (List Int)) (i:Int):(BB l out i).flatten=out.flatten++[i]:=by
 rcases List.eq_nil_or_concat out with rfl|⟨D,g,rfl⟩
 ·rfl
 ·rw[List.concat_eq_append,uX]
  split<;>simp
theorem Dv (l:List a_) (o:List Int):∀n,(nv l o n).flatten=o.take n
 |0=>by simp[nv]
 |n+1=>by
  have ih:=Dv l o n
  unfold nv
  split
  ·rename_i i hi
   obtain⟨hn,rfl⟩:=List.getElem?_eq_some_iff.1 hi
   rw[Qh,ih,bH hn]
  ·rename_i hi
   have:=List.getElem?_eq_none_iff.1 hi
   rw[ih,List.take_of_length_le this,List.take_of_length_le (by omega)]
theorem Qi (l:List a_):(FC l).flatten=fA l:=by
 unfold FC
 rw[Dv,List.take_of_length_le (by rw[fA,lQ];exact Nat.le_refl _)]
theorem HR (aI:List Int) (l:List a_):(mT aI l).flatten=(fA l).map (Oj aI l):=by
 unfold mT
 rw[←List.map_flatten,Qi]
theorem LF (aI:List Int) (l:List a_):(mT aI l).flatten.length=l.length:=by
 rw[HR,List.length_map,fA,lQ]
theorem Qj {aI:List Int} {l:List a_} (hl:aI.length=l.length) (h:ph aI l=true):∀j (hj:j<aI.length),aI[j]∉aI.take j:=fun j hj hm=>by
 unfold ph at h
 rw[Bool.and_eq_true] at h
 have:Wn aI l j=false:=by
  unfold Wn
  rw[List.getElem?_eq_getElem hj]
  simp only[hm,decide_true,Bool.not_true,Bool.and_false]
 have h2:=su (n:=l.length) (by omega) this
 rw[h.2] at h2;cases h2
theorem Qk {aI:List Int} (h:∀j (hj:j<aI.length),aI[j]∉aI.take j) {i j:Nat} (hi:i<aI.length) (hj:j<aI.length) (e:aI[i]=aI[j]):i=j:=by
 apply Classical.byContradiction
 intro bb
 rcases Nat.lt_or_gt_of_ne bb with aY|aY
 ·exact h j hj (by rw[←e];exact List.mem_take_iff_getElem.2 ⟨i,by omega,rfl⟩)
 ·exact h i hi (by rw[e];exact List.mem_take_iff_getElem.2 ⟨j,by omega,rfl⟩)
end Go.Th
namespace Go.Proofs.YtmoebnnbjppjbaaGreat
open Go Go.Gp Go.Ga Go.Th
theorem Sy (a b:Key):S29 a b (al a b,()):=afr a b fun H K hk=>(by
 unfold A29
 refine cN a.length (fun i=>((a,b,(i:Int),()),())) (fun i=>∀j,j<i→a[j]?=b[j]?) rfl (fun j h=>absurd h (Nat.not_lt_zero _)) fun i C hi hP hC=>?_
 dsimp only at hC⊢
 have fin:∀{A:Prop},(a.length≤i∨b.length≤i)→(K (decide ((a.length:Int)<(b.length:Int)),()) H→A)→A:=fun h hA=>hA (by
  have:al a b=decide (a.length<b.length):=qX a b fun j h1 h2=>hP j (by omega)
  have e:decide ((a.length:Int)<(b.length:Int))=decide (a.length<b.length):=by rw[decide_eq_decide];omega
  rw[e,←this];exact hk)
 refine au fun _=>dR (fun h1=>?_) fun h1=>fin (.inl h1) fun h=>au fun _=>au fun _=>h
 refine au fun _=>dR (fun h2=>?_) fun h2=>fin (.inr h2) fun h=>au fun _=>au fun _=>h
 refine dk h1 (dk h2 (WI (fun h=>?_) fun h=>?_))
 ·refine dk h1 (dk h2 ?_)
  rw[amN,←oC i a b a[i] b[i] hP (List.getElem?_eq_getElem h1) (List.getElem?_eq_getElem h2) (amO.1 h)]
  exact hk
 ·rw[w1 (by omega)]
  refine hC h1 fun j hj=>?_
  rcases Nat.lt_or_ge j i with h3|h3
  ·exact hP j h3
  ·have:j=i:=by omega
   subst this
   rw[List.getElem?_eq_getElem h1,List.getElem?_eq_getElem h2]
   congr 1
   exact UInt8.toNat_inj.1 (by omega))
theorem Zj (a b:List Pr):S31 a b (decide (a=b),()):=afs a b fun H K hk=>by
 unfold A31
 refine au fun _=>au fun _=>WI (fun h=>?_) fun h=>?_
 ·have:decide (a=b)=false:=by rw[decide_eq_false_iff_not];rintro rfl;exact h rfl
  rw[this] at hk;exact hk
 have hlen:a.length=b.length:=by omega
 have bad:a≠b→K (false,()) H:=fun h=>by
  rw[decide_eq_false h] at hk;exact hk
 refine cN a.length (fun i=>((a,b,(i:Int),()),())) (fun i=>∀j,j<i→a[j]?=b[j]?) rfl (fun j h=>absurd h (Nat.not_lt_zero _)) fun i C hi hP hC=>?_
 dsimp only at hC⊢
 refine au fun _=>dR (fun h1=>?_) fun h1=>?_
 ·have h2:i<b.length:=by omega
  refine dk h1 (dk h2 ?_)
  rw[Md]
  refine bN (fun bb=>bad fun e=>?_) fun he=>dk h1 (dk h2 ?_)
  ·rw[decide_eq_false_iff_not] at bb;exact bb (by subst e;rfl)
  rw[Md]
  refine bN (fun bb=>bad fun e=>?_) fun RI=>?_
  ·rw[decide_eq_false_iff_not] at bb;exact bb (by subst e;rfl)
  ·rw[decide_eq_true_eq] at he RI
   rw[w1 (by omega)]
   refine hC h1 fun j hj=>?_
   rcases Nat.lt_or_ge j i with h3|h3
   ·exact hP j h3
   ·obtain rfl:j=i:=by omega
    rw[List.getElem?_eq_getElem h1,List.getElem?_eq_getElem h2]
    exact congrArg some (Prod.ext he RI)
 ·have:a=b:=List.ext_getElem? fun j=>by
   rcases Nat.lt_or_ge j i with h3|h3
   ·exact hP j h3
   ·rw[List.getElem?_eq_none (by omega),List.getElem?_eq_none (by omega)]
  rw[decide_eq_true this] at hk;exact hk
theorem anj (r:Key×Key) (k:Key):S12 r k (rI r.1 r.2 k,()):=aft r k fun H K hk=>by
 unfold A12
 refine ai _ (Sy _ _) (ai _ (Sy _ _) (bN (fun h=>au fun _=>oK (fun h0=>?_) fun h0=>?_) fun h=>?_))<;>unfold rI at hk<;>simp only at h<;>rw[h] at hk
 ·rw[decide_eq_true (p:=r.2.length=0) (by omega)] at hk;exact hk
 ·rw[decide_eq_false (p:=r.2.length=0) (by omega)] at hk;exact hk
 ·exact hk
open Go Go.Gp
set_option maxRecDepth 100000
theorem fX:Tryz.prog.follows .mixedOrders=true:=by kernel_rfl
def G35 (a0:Sl) (W:World) (K:Sl×Unit→World→Prop):Prop:=
 af (Option.isNone a0.a) (K ((Sl.mk none 0 0),()) W) (Fx (.cells #[] 5) W fun b1 W=>bG Tryz.prog (.val (.one .sl)) (Builtin.append_ #[22,22] 22 #[(.slice (some (Addr.mk b1 0 none)) 0 0),(.slice a0.a a0.len a0.cap)]) W fun(r2:Sl) W=>K (r2,()) W)
theorem asE (a0:Sl) (W:World) (K:Sl×Unit→World→Prop):G35 a0 W K=F9 Tryz.prog (.seq .n (.seq (.seq .n (.cond (.seq .n .n) .n)) (.seq .n .n))) Tryz.f35 [(.slice a0.a a0.len a0.cap)] [.one .sl] W K:=by kernel_rfl
theorem call35 (a0:Sl) (W:World) (K:Sl×Unit→World→Prop) (h:G35 a0 W K):fL Tryz.prog 35 [(.slice a0.a a0.len a0.cap)] [.one .sl] W K:=
 fY fX Tryz.func35 (Eq.mp (asE a0 W K) h)
def G58 (a0:Sl) (a1:Sl) (W:World) (K:Int×Unit→World→Prop):Prop:=
 Fy Tryz.prog 81 [(.slice a0.a a0.len a0.cap),(.slice a1.a a1.len a1.cap)] [.one (.int .i64)] W fun(r1:Int×Unit) W=>K (r1.1,()) W
theorem asF (a0:Sl) (a1:Sl) (W:World) (K:Int×Unit→World→Prop):G58 a0 a1 W K=F9 Tryz.prog (.seq .n (.seq .n .n)) Tryz.f58 [(.slice a0.a a0.len a0.cap),(.slice a1.a a1.len a1.cap)] [.one (.int .i64)] W K:=by kernel_rfl
theorem call58 (a0:Sl) (a1:Sl) (W:World) (K:Int×Unit→World→Prop) (h:G58 a0 a1 W K):fL Tryz.prog 58 [(.slice a0.a a0.len a0.cap),(.slice a1.a a1.len a1.cap)] [.one (.int .i64)] W K:=
 fY fX Tryz.func58 (Eq.mp (asF a0 a1 W K) h)
def G82 (a0:Sl) (W:World) (K:Sl×Unit→World→Prop):Prop:=
 af (Option.isNone a0.a) (K ((Sl.mk none 0 0),()) W) (Fx (.cells #[] 3) W fun b1 W=>bG Tryz.prog (.val (.one .sl)) (Builtin.append_ #[35,35] 35 #[(.slice (some (Addr.mk b1 0 none)) 0 0),(.slice a0.a a0.len a0.cap)]) W fun(r2:Sl) W=>K (r2,()) W)
theorem asG (a0:Sl) (W:World) (K:Sl×Unit→World→Prop):G82 a0 W K=F9 Tryz.prog (.seq .n (.seq (.seq .n (.cond (.seq .n .n) .n)) (.seq .n .n))) Tryz.f82 [(.slice a0.a a0.len a0.cap)] [.one .sl] W K:=by kernel_rfl
theorem call82 (a0:Sl) (W:World) (K:Sl×Unit→World→Prop) (h:G82 a0 W K):fL Tryz.prog 82 [(.slice a0.a a0.len a0.cap)] [.one .sl] W K:=
 fY fX Tryz.func82 (Eq.mp (asG a0 W K) h)
def G92 (a0:Sl) (a1:Sl) (W:World) (K:Bool×Unit→World→Prop):Prop:=
 bG Tryz.prog (.val (.one .str)) (convert 22 9 (.slice a0.a a0.len a0.cap)) W fun(r1:ByteArray) W=>bG Tryz.prog (.val (.one .str)) (convert 22 9 (.slice a1.a a1.len a1.cap)) W fun(r2:ByteArray) W=>K ((ByteArray.toList r1==ByteArray.toList r2),()) W
theorem asH (a0:Sl) (a1:Sl) (W:World) (K:Bool×Unit→World→Prop):G92 a0 a1 W K=F9 Tryz.prog (.seq .n (.seq .n .n)) Tryz.f92 [(.slice a0.a a0.len a0.cap),(.slice a1.a a1.len a1.cap)] [.one .bool] W K:=by kernel_rfl
theorem call92 (a0:Sl) (a1:Sl) (W:World) (K:Bool×Unit→World→Prop) (h:G92 a0 a1 W K):fL Tryz.prog 92 [(.slice a0.a a0.len a0.cap),(.slice a1.a a1.len a1.cap)] [.one .bool] W K:=
 fY fX Tryz.func92 (Eq.mp (asH a0 a1 W K) h)
def ajA (a0:Sl) (a1:Int) (a2:Sl) (W:World) (K:Sl×Unit→World→Prop):Prop:=
 cj a0.a a0.cap 2 a1 ((a0.len:Nat):Int) fun(q1:Sl)=>af ((((a2.len:Nat):Int):Int)==0) (K (a0,()) W) (af ((a1:Int)==((a0.len:Nat):Int)) (bG Tryz.prog (.val (.one .sl)) (Builtin.append_ #[44,44] 44 #[(.slice a0.a a0.len a0.cap),(.slice a2.a a2.len a2.cap)]) W fun(r2:Sl) W=>K (r2,()) W) (bG Tryz.prog (.val (.one (.int .i64))) (Builtin.cap_ #[44] 3 #[(.slice a0.a a0.len a0.cap)]) W fun(r3:Int) W=>af (decide (((IntKind.i64.wrap (((a0.len:Nat):Int)+((a2.len:Nat):Int))):Int)>r3)) (cj a0.a a0.cap 2 0 a1 fun(q4:Sl)=>bG Tryz.prog (.val (.one .sl)) (Builtin.append_ #[44,3] 44 #[(.slice q4.a q4.len q4.cap),(.int .i64 (IntKind.i64.wrap ((IntKind.i64.wrap (((a0.len:Nat):Int)+((a2.len:Nat):Int)))- a1)))]) W fun(r5:Sl) W=>cj r5.a r5.cap 2 a1 ((r5.len:Nat):Int) fun(q6:Sl)=>bG Tryz.prog (.val (.one (.int .i64))) (Builtin.copy_ #[44,44] 3 #[(.slice q6.a q6.len q6.cap),(.slice a2.a a2.len a2.cap)]) W fun(r7:Int) W=>mP W fun W=>jh W fun S8=>cj r5.a r5.cap 2 (IntKind.i64.wrap (a1+((a2.len:Nat):Int))) ((r5.len:Nat):Int) fun(q9:Sl)=>cj a0.a a0.cap 2 a1 ((a0.len:Nat):Int) fun(AJ:Sl)=>bG Tryz.prog (.val (.one (.int .i64))) (Builtin.copy_ #[44,44] 3 #[(.slice q9.a q9.len q9.cap),(.slice AJ.a AJ.len AJ.cap)]) W fun(r11:Int) W=>K (r5,()) W) (cj a0.a a0.cap 2 0 (IntKind.i64.wrap (((a0.len:Nat):Int)+((a2.len:Nat):Int))) fun(cY:Sl)=>cj cY.a cY.cap 2 (IntKind.i64.wrap (a1+((a2.len:Nat):Int))) ((cY.len:Nat):Int) fun(AL:Sl)=>Fy Tryz.prog 139 [(.slice a2.a a2.len a2.cap),(.slice AL.a AL.len AL.cap)] [.one .bool] W fun(Wh:Bool×Unit) W=>af (!Wh.1) (mP W fun W=>jh W fun ZE=>cj cY.a cY.cap 2 (IntKind.i64.wrap (a1+((a2.len:Nat):Int))) ((cY.len:Nat):Int) fun(AM:Sl)=>cj cY.a cY.cap 2 a1 ((cY.len:Nat):Int) fun(AN:Sl)=>bG Tryz.prog (.val (.one (.int .i64))) (Builtin.copy_ #[44,44] 3 #[(.slice AM.a AM.len AM.cap),(.slice AN.a AN.len AN.cap)]) W fun(r18:Int) W=>cj cY.a cY.cap 2 a1 ((cY.len:Nat):Int) fun(AO:Sl)=>bG Tryz.prog (.val (.one (.int .i64))) (Builtin.copy_ #[44,44] 3 #[(.slice AO.a AO.len AO.cap),(.slice a2.a a2.len a2.cap)]) W fun(r20:Int) W=>K (cY,()) W) (cj cY.a cY.cap 2 ((a0.len:Nat):Int) ((cY.len:Nat):Int) fun(AP:Sl)=>bG Tryz.prog (.val (.one (.int .i64))) (Builtin.copy_ #[44,44] 3 #[(.slice AP.a AP.len AP.cap),(.slice a2.a a2.len a2.cap)]) W fun(r22:Int) W=>cj cY.a cY.cap 2 a1 ((cY.len:Nat):Int) fun(AQ:Sl)=>fL Tryz.prog 140 [(.slice AQ.a AQ.len AQ.cap),(.int .i64 ((a2.len:Nat):Int))] [] W fun(r24:Unit) W=>K (cY,()) W))))
theorem amg (a0:Sl) (a1:Int) (a2:Sl) (W:World) (K:Sl×Unit→World→Prop):ajA a0 a1 a2 W K=F9 Tryz.prog (.seq .n (.seq .n (.seq .n (.seq (.seq .n (.cond (.seq .n .n) .n)) (.seq .n (.seq (.seq .n (.cond (.seq .n .n) .n)) (.seq (.seq .n (.cond (.seq .n (.seq .n (.seq .n (.seq .n .n)))) .n)) (.seq .n (.seq (.seq .n (.cond (.seq .n (.seq .n (.seq .n .n))) .n)) (.seq .n (.seq .n (.seq .n .n)))))))))))) Tryz.f128 [(.slice a0.a a0.len a0.cap),(.int .i64 a1),(.slice a2.a a2.len a2.cap)] [.one .sl] W K:=by kernel_rfl
theorem call128 (a0:Sl) (a1:Int) (a2:Sl) (W:World) (K:Sl×Unit→World→Prop) (h:ajA a0 a1 a2 W K):fL Tryz.prog 128 [(.slice a0.a a0.len a0.cap),(.int .i64 a1),(.slice a2.a a2.len a2.cap)] [.one .sl] W K:=
 fY fX Tryz.func128 (Eq.mp (amg a0 a1 a2 W K) h)
def ajB (a0:Sl) (a1:Int) (a2:Sl) (W:World) (K:Sl×Unit→World→Prop):Prop:=
 cj a0.a a0.cap 1 a1 ((a0.len:Nat):Int) fun(q1:Sl)=>af ((((a2.len:Nat):Int):Int)==0) (K (a0,()) W) (af ((a1:Int)==((a0.len:Nat):Int)) (bG Tryz.prog (.val (.one .sl)) (Builtin.append_ #[88,88] 88 #[(.slice a0.a a0.len a0.cap),(.slice a2.a a2.len a2.cap)]) W fun(r2:Sl) W=>K (r2,()) W) (bG Tryz.prog (.val (.one (.int .i64))) (Builtin.cap_ #[88] 3 #[(.slice a0.a a0.len a0.cap)]) W fun(r3:Int) W=>af (decide (((IntKind.i64.wrap (((a0.len:Nat):Int)+((a2.len:Nat):Int))):Int)>r3)) (cj a0.a a0.cap 1 0 a1 fun(q4:Sl)=>bG Tryz.prog (.val (.one .sl)) (Builtin.append_ #[88,3] 88 #[(.slice q4.a q4.len q4.cap),(.int .i64 (IntKind.i64.wrap ((IntKind.i64.wrap (((a0.len:Nat):Int)+((a2.len:Nat):Int)))- a1)))]) W fun(r5:Sl) W=>cj r5.a r5.cap 1 a1 ((r5.len:Nat):Int) fun(q6:Sl)=>bG Tryz.prog (.val (.one (.int .i64))) (Builtin.copy_ #[88,88] 3 #[(.slice q6.a q6.len q6.cap),(.slice a2.a a2.len a2.cap)]) W fun(r7:Int) W=>mP W fun W=>jh W fun S8=>cj r5.a r5.cap 1 (IntKind.i64.wrap (a1+((a2.len:Nat):Int))) ((r5.len:Nat):Int) fun(q9:Sl)=>cj a0.a a0.cap 1 a1 ((a0.len:Nat):Int) fun(AJ:Sl)=>bG Tryz.prog (.val (.one (.int .i64))) (Builtin.copy_ #[88,88] 3 #[(.slice q9.a q9.len q9.cap),(.slice AJ.a AJ.len AJ.cap)]) W fun(r11:Int) W=>K (r5,()) W) (cj a0.a a0.cap 1 0 (IntKind.i64.wrap (((a0.len:Nat):Int)+((a2.len:Nat):Int))) fun(cY:Sl)=>cj cY.a cY.cap 1 (IntKind.i64.wrap (a1+((a2.len:Nat):Int))) ((cY.len:Nat):Int) fun(AL:Sl)=>Fy Tryz.prog 141 [(.slice a2.a a2.len a2.cap),(.slice AL.a AL.len AL.cap)] [.one .bool] W fun(Wh:Bool×Unit) W=>af (!Wh.1) (mP W fun W=>jh W fun ZE=>cj cY.a cY.cap 1 (IntKind.i64.wrap (a1+((a2.len:Nat):Int))) ((cY.len:Nat):Int) fun(AM:Sl)=>cj cY.a cY.cap 1 a1 ((cY.len:Nat):Int) fun(AN:Sl)=>bG Tryz.prog (.val (.one (.int .i64))) (Builtin.copy_ #[88,88] 3 #[(.slice AM.a AM.len AM.cap),(.slice AN.a AN.len AN.cap)]) W fun(r18:Int) W=>cj cY.a cY.cap 1 a1 ((cY.len:Nat):Int) fun(AO:Sl)=>bG Tryz.prog (.val (.one (.int .i64))) (Builtin.copy_ #[88,88] 3 #[(.slice AO.a AO.len AO.cap),(.slice a2.a a2.len a2.cap)]) W fun(r20:Int) W=>K (cY,()) W) (cj cY.a cY.cap 1 ((a0.len:Nat):Int) ((cY.len:Nat):Int) fun(AP:Sl)=>bG Tryz.prog (.val (.one (.int .i64))) (Builtin.copy_ #[88,88] 3 #[(.slice AP.a AP.len AP.cap),(.slice a2.a a2.len a2.cap)]) W fun(r22:Int) W=>cj cY.a cY.cap 1 a1 ((cY.len:Nat):Int) fun(AQ:Sl)=>fL Tryz.prog 142 [(.slice AQ.a AQ.len AQ.cap),(.int .i64 ((a2.len:Nat):Int))] [] W fun(r24:Unit) W=>K (cY,()) W))))
theorem amh (a0:Sl) (a1:Int) (a2:Sl) (W:World) (K:Sl×Unit→World→Prop):ajB a0 a1 a2 W K=F9 Tryz.prog (.seq .n (.seq .n (.seq .n (.seq (.seq .n (.cond (.seq .n .n) .n)) (.seq .n (.seq (.seq .n (.cond (.seq .n .n) .n)) (.seq (.seq .n (.cond (.seq .n (.seq .n (.seq .n (.seq .n .n)))) .n)) (.seq .n (.seq (.seq .n (.cond (.seq .n (.seq .n (.seq .n .n))) .n)) (.seq .n (.seq .n (.seq .n .n)))))))))))) Tryz.f130 [(.slice a0.a a0.len a0.cap),(.int .i64 a1),(.slice a2.a a2.len a2.cap)] [.one .sl] W K:=by kernel_rfl
theorem call130 (a0:Sl) (a1:Int) (a2:Sl) (W:World) (K:Sl×Unit→World→Prop) (h:ajB a0 a1 a2 W K):fL Tryz.prog 130 [(.slice a0.a a0.len a0.cap),(.int .i64 a1),(.slice a2.a a2.len a2.cap)] [.one .sl] W K:=
 fY fX Tryz.func130 (Eq.mp (amh a0 a1 a2 W K) h)
def ajC (a0:Sl) (a1:Int) (a2:Sl) (W:World) (K:Sl×Unit→World→Prop):Prop:=
 cj a0.a a0.cap 1 a1 ((a0.len:Nat):Int) fun(q1:Sl)=>af ((((a2.len:Nat):Int):Int)==0) (K (a0,()) W) (af ((a1:Int)==((a0.len:Nat):Int)) (bG Tryz.prog (.val (.one .sl)) (Builtin.append_ #[35,35] 35 #[(.slice a0.a a0.len a0.cap),(.slice a2.a a2.len a2.cap)]) W fun(r2:Sl) W=>K (r2,()) W) (bG Tryz.prog (.val (.one (.int .i64))) (Builtin.cap_ #[35] 3 #[(.slice a0.a a0.len a0.cap)]) W fun(r3:Int) W=>af (decide (((IntKind.i64.wrap (((a0.len:Nat):Int)+((a2.len:Nat):Int))):Int)>r3)) (cj a0.a a0.cap 1 0 a1 fun(q4:Sl)=>bG Tryz.prog (.val (.one .sl)) (Builtin.append_ #[35,3] 35 #[(.slice q4.a q4.len q4.cap),(.int .i64 (IntKind.i64.wrap ((IntKind.i64.wrap (((a0.len:Nat):Int)+((a2.len:Nat):Int)))- a1)))]) W fun(r5:Sl) W=>cj r5.a r5.cap 1 a1 ((r5.len:Nat):Int) fun(q6:Sl)=>bG Tryz.prog (.val (.one (.int .i64))) (Builtin.copy_ #[35,35] 3 #[(.slice q6.a q6.len q6.cap),(.slice a2.a a2.len a2.cap)]) W fun(r7:Int) W=>mP W fun W=>jh W fun S8=>cj r5.a r5.cap 1 (IntKind.i64.wrap (a1+((a2.len:Nat):Int))) ((r5.len:Nat):Int) fun(q9:Sl)=>cj a0.a a0.cap 1 a1 ((a0.len:Nat):Int) fun(AJ:Sl)=>bG Tryz.prog (.val (.one (.int .i64))) (Builtin.copy_ #[35,35] 3 #[(.slice q9.a q9.len q9.cap),(.slice AJ.a AJ.len AJ.cap)]) W fun(r11:Int) W=>K (r5,()) W) (cj a0.a a0.cap 1 0 (IntKind.i64.wrap (((a0.len:Nat):Int)+((a2.len:Nat):Int))) fun(cY:Sl)=>cj cY.a cY.cap 1 (IntKind.i64.wrap (a1+((a2.len:Nat):Int))) ((cY.len:Nat):Int) fun(AL:Sl)=>Fy Tryz.prog 143 [(.slice a2.a a2.len a2.cap),(.slice AL.a AL.len AL.cap)] [.one .bool] W fun(Wh:Bool×Unit) W=>af (!Wh.1) (mP W fun W=>jh W fun ZE=>cj cY.a cY.cap 1 (IntKind.i64.wrap (a1+((a2.len:Nat):Int))) ((cY.len:Nat):Int) fun(AM:Sl)=>cj cY.a cY.cap 1 a1 ((cY.len:Nat):Int) fun(AN:Sl)=>bG Tryz.prog (.val (.one (.int .i64))) (Builtin.copy_ #[35,35] 3 #[(.slice AM.a AM.len AM.cap),(.slice AN.a AN.len AN.cap)]) W fun(r18:Int) W=>cj cY.a cY.cap 1 a1 ((cY.len:Nat):Int) fun(AO:Sl)=>bG Tryz.prog (.val (.one (.int .i64))) (Builtin.copy_ #[35,35] 3 #[(.slice AO.a AO.len AO.cap),(.slice a2.a a2.len a2.cap)]) W fun(r20:Int) W=>K (cY,()) W) (cj cY.a cY.cap 1 ((a0.len:Nat):Int) ((cY.len:Nat):Int) fun(AP:Sl)=>bG Tryz.prog (.val (.one (.int .i64))) (Builtin.copy_ #[35,35] 3 #[(.slice AP.a AP.len AP.cap),(.slice a2.a a2.len a2.cap)]) W fun(r22:Int) W=>cj cY.a cY.cap 1 a1 ((cY.len:Nat):Int) fun(AQ:Sl)=>fL Tryz.prog 144 [(.slice AQ.a AQ.len AQ.cap),(.int .i64 ((a2.len:Nat):Int))] [] W fun(r24:Unit) W=>K (cY,()) W))))
theorem ami (a0:Sl) (a1:Int) (a2:Sl) (W:World) (K:Sl×Unit→World→Prop):ajC a0 a1 a2 W K=F9 Tryz.prog (.seq .n (.seq .n (.seq .n (.seq (.seq .n (.cond (.seq .n .n) .n)) (.seq .n (.seq (.seq .n (.cond (.seq .n .n) .n)) (.seq (.seq .n (.cond (.seq .n (.seq .n (.seq .n (.seq .n .n)))) .n)) (.seq .n (.seq (.seq .n (.cond (.seq .n (.seq .n (.seq .n .n))) .n)) (.seq .n (.seq .n (.seq .n .n)))))))))))) Tryz.f131 [(.slice a0.a a0.len a0.cap),(.int .i64 a1),(.slice a2.a a2.len a2.cap)] [.one .sl] W K:=by kernel_rfl
theorem call131 (a0:Sl) (a1:Int) (a2:Sl) (W:World) (K:Sl×Unit→World→Prop) (h:ajC a0 a1 a2 W K):fL Tryz.prog 131 [(.slice a0.a a0.len a0.cap),(.int .i64 a1),(.slice a2.a a2.len a2.cap)] [.one .sl] W K:=
 fY fX Tryz.func131 (Eq.mp (ami a0 a1 a2 W K) h)
def ajD (a0:Sl) (a1:Int) (a2:Int) (W:World) (K:Sl×Unit→World→Prop):Prop:=
 bG Tryz.prog (.val (.one .sl)) (Instr.sliceAt 44 (.slice a0.a a0.len a0.cap) (some (.int .i64 a1)) (some (.int .i64 a2)) (some (.int .i64 ((a0.len:Nat):Int)))) W fun(r1:Sl) W=>af ((a1:Int)==a2) (K (a0,()) W) (mP W fun W=>jh W fun S2=>cj a0.a a0.cap 2 0 a1 fun(q3:Sl)=>cj a0.a a0.cap 2 a2 ((a0.len:Nat):Int) fun(q4:Sl)=>bG Tryz.prog (.val (.one .sl)) (Builtin.append_ #[44,44] 44 #[(.slice q3.a q3.len q3.cap),(.slice q4.a q4.len q4.cap)]) W fun(r5:Sl) W=>cj r5.a r5.cap 2 ((r5.len:Nat):Int) ((a0.len:Nat):Int) fun(q6:Sl)=>bG Tryz.prog (.ma []) (Builtin.clear_ #[44] 0 #[(.slice q6.a q6.len q6.cap)]) W fun(r7:Unit) W=>K (r5,()) W)
theorem amj (a0:Sl) (a1:Int) (a2:Int) (W:World) (K:Sl×Unit→World→Prop):ajD a0 a1 a2 W K=F9 Tryz.prog (.seq .n (.seq .n (.seq (.seq .n (.cond (.seq .n .n) .n)) (.seq .n (.seq .n (.seq .n (.seq .n .n))))))) Tryz.f132 [(.slice a0.a a0.len a0.cap),(.int .i64 a1),(.int .i64 a2)] [.one .sl] W K:=by kernel_rfl
theorem call132 (a0:Sl) (a1:Int) (a2:Int) (W:World) (K:Sl×Unit→World→Prop) (h:ajD a0 a1 a2 W K):fL Tryz.prog 132 [(.slice a0.a a0.len a0.cap),(.int .i64 a1),(.int .i64 a2)] [.one .sl] W K:=
 fY fX Tryz.func132 (Eq.mp (amj a0 a1 a2 W K) h)
def ajE (a0:Sl) (a1:Int) (a2:Int) (W:World) (K:Sl×Unit→World→Prop):Prop:=
 bG Tryz.prog (.val (.one .sl)) (Instr.sliceAt 88 (.slice a0.a a0.len a0.cap) (some (.int .i64 a1)) (some (.int .i64 a2)) (some (.int .i64 ((a0.len:Nat):Int)))) W fun(r1:Sl) W=>af ((a1:Int)==a2) (K (a0,()) W) (mP W fun W=>jh W fun S2=>cj a0.a a0.cap 1 0 a1 fun(q3:Sl)=>cj a0.a a0.cap 1 a2 ((a0.len:Nat):Int) fun(q4:Sl)=>bG Tryz.prog (.val (.one .sl)) (Builtin.append_ #[88,88] 88 #[(.slice q3.a q3.len q3.cap),(.slice q4.a q4.len q4.cap)]) W fun(r5:Sl) W=>cj r5.a r5.cap 1 ((r5.len:Nat):Int) ((a0.len:Nat):Int) fun(q6:Sl)=>bG Tryz.prog (.ma []) (Builtin.clear_ #[88] 0 #[(.slice q6.a q6.len q6.cap)]) W fun(r7:Unit) W=>K (r5,()) W)
theorem amk (a0:Sl) (a1:Int) (a2:Int) (W:World) (K:Sl×Unit→World→Prop):ajE a0 a1 a2 W K=F9 Tryz.prog (.seq .n (.seq .n (.seq (.seq .n (.cond (.seq .n .n) .n)) (.seq .n (.seq .n (.seq .n (.seq .n .n))))))) Tryz.f146 [(.slice a0.a a0.len a0.cap),(.int .i64 a1),(.int .i64 a2)] [.one .sl] W K:=by kernel_rfl
theorem call146 (a0:Sl) (a1:Int) (a2:Int) (W:World) (K:Sl×Unit→World→Prop) (h:ajE a0 a1 a2 W K):fL Tryz.prog 146 [(.slice a0.a a0.len a0.cap),(.int .i64 a1),(.int .i64 a2)] [.one .sl] W K:=
 fY fX Tryz.func146 (Eq.mp (amk a0 a1 a2 W K) h)
def ajF (a0:Sl) (a1:Int) (a2:Int) (W:World) (K:Sl×Unit→World→Prop):Prop:=
 bG Tryz.prog (.val (.one .sl)) (Instr.sliceAt 35 (.slice a0.a a0.len a0.cap) (some (.int .i64 a1)) (some (.int .i64 a2)) (some (.int .i64 ((a0.len:Nat):Int)))) W fun(r1:Sl) W=>af ((a1:Int)==a2) (K (a0,()) W) (mP W fun W=>jh W fun S2=>cj a0.a a0.cap 1 0 a1 fun(q3:Sl)=>cj a0.a a0.cap 1 a2 ((a0.len:Nat):Int) fun(q4:Sl)=>bG Tryz.prog (.val (.one .sl)) (Builtin.append_ #[35,35] 35 #[(.slice q3.a q3.len q3.cap),(.slice q4.a q4.len q4.cap)]) W fun(r5:Sl) W=>cj r5.a r5.cap 1 ((r5.len:Nat):Int) ((a0.len:Nat):Int) fun(q6:Sl)=>bG Tryz.prog (.ma []) (Builtin.clear_ #[35] 0 #[(.slice q6.a q6.len q6.cap)]) W fun(r7:Unit) W=>K (r5,()) W)
theorem aml (a0:Sl) (a1:Int) (a2:Int) (W:World) (K:Sl×Unit→World→Prop):ajF a0 a1 a2 W K=F9 Tryz.prog (.seq .n (.seq .n (.seq (.seq .n (.cond (.seq .n .n) .n)) (.seq .n (.seq .n (.seq .n (.seq .n .n))))))) Tryz.f147 [(.slice a0.a a0.len a0.cap),(.int .i64 a1),(.int .i64 a2)] [.one .sl] W K:=by kernel_rfl
theorem call147 (a0:Sl) (a1:Int) (a2:Int) (W:World) (K:Sl×Unit→World→Prop) (h:ajF a0 a1 a2 W K):fL Tryz.prog 147 [(.slice a0.a a0.len a0.cap),(.int .i64 a1),(.int .i64 a2)] [.one .sl] W K:=
 fY fX Tryz.func147 (Eq.mp (aml a0 a1 a2 W K) h)
open Go Go.Gp Go.Ga
theorem qi {t:TypeId} {z:Value} {s b:Nat} (h:(Tryz.prog.info? t).map (fun i=>(i.zero,i.size,i.bytes))=some (some z,s,b)):∃i,Tryz.prog.info? t=some i∧i.zero=some z∧i.size=s∧i.bytes=b:=by
 obtain⟨i,hi,h⟩:=Option.map_eq_some_iff.1 h
 simp only[Prod.mk.injEq] at h
 exact⟨i,hi,h.1,h.2.1,h.2.2⟩
theorem JC:Tryz.prog.underlying 22=some (.slice 5):=by kernel_rfl
theorem QQ:Tryz.prog.underlying 35=some (.slice 3):=by kernel_rfl
theorem adi:Tryz.prog.underlying 3=some (.int .i64):=by kernel_rfl
theorem ahF:Tryz.prog.underlying 44=some (.slice 56):=by kernel_rfl
theorem ane:∃i,Tryz.prog.info? 5=some i∧i.zero=some (.int .u8 0)∧i.size=1∧i.bytes=1:=qi (by kernel_rfl)
theorem So:∃i,ER Tryz.prog 44 56 3 2 48 i (.agg #[.slice none 0 0,.slice none 0 0]):=by
 obtain⟨i,h1,h2,h3,h4⟩:=qi (t:=56) (z:=.agg #[.slice none 0 0,.slice none 0 0]) (s:=2) (b:=48) (by kernel_rfl)
 exact⟨i,ahF,adi,h1,h2,h3,h4,rfl,by decide,by intro v hv;simp[Value.cells] at hv;subst hv;rfl⟩
theorem ahG:OvF Tryz.prog 44 139:=⟨4,fun W args=>run_callFunc_extern Tryz.func139 (by kernel_rfl) (by kernel_rfl) (by kernel_rfl) (e:=Extern.SlicesOverlaps.overlaps #[44,44] #[4]) (by kernel_rfl) args W⟩
theorem sL (a b:List UInt8):bB Tryz.prog 58 [(false,.row .byte),(false,.row .byte)] (a,b,()) [(false,.one (.int .i64))] (lJ a b,()):=Mf rfl fun W x y hx hy=>by
 apply call58
 unfold G58
 exact IL Tryz.func81 (by kernel_rfl) (by kernel_rfl) (by kernel_rfl) (by kernel_rfl) hx hy ⟨rfl,rfl⟩
set_option maxRecDepth 100000 in
theorem bJ (a:List UInt8) (ha:a.length≤140737488355328):bB Tryz.prog 35 [(false,.row .byte)] (a,()) [(false,.row .byte)] (a,()):=zP (t:=5) rfl (by decide) fun W s cs hs hl hn h1=>by
 apply call35
 unfold G35
 have kT:=hs.len
 obtain⟨p,n,c⟩:=s
 cases p with
 |none=>
  have h0:=(hn rfl).1
  simp only at h0 kT hl
  subst h0
  have:cs=[]:=List.eq_nil_of_length_eq_zero (by rw[kT];simp)
  subst this
  exact⟨bX.nil _ _ _ _,rfl,aV.refl _ _,by simp[aS]⟩
 |some p=>
  simp only[Option.isNone_some,vL]
  refine D9 fun m W1 hm k1 b1=>?_
  obtain⟨i,hi,h2,h3,h4⟩:=ane
  simp only at hl kT
  refine pI JC hi h2 h3 h4 rfl (by decide) (bX.blank (B:=0) b1 (Nat.zero_le _)) cs kT (fun j u hj=>?_) h1 (by simp only;omega) (by simp only;omega) (Nat.zero_le _) fun r W2 o2 k2 l2 hb BZ=>?_
  ·obtain⟨q,hq,hc⟩:=(hs.Kq k1).at_ j u hj
   injection hq with hq
   subst hq
   exact hc
  ·simp only[List.nil_append] at o2
   have hb1:=b1.lt
   have G7:=k2.size
   have zK:=k1.size
   refine⟨o2,by simpa using l2,k1.push k2 (by simp[aS,hm]),fun b hbb=>?_⟩
   rcases hb b hbb with h|h
   ·simp only[aS,List.mem_singleton] at h
    subst h
    exact⟨by omega,by omega⟩
   ·exact⟨Nat.le_trans zK h.1,h.2⟩
theorem RY (xs ys:List (List UInt8×List UInt8)) (i:Nat) (hi:i≤xs.length) (hb:xs.length+ys.length≤1000000000) {H:HP} {K:HT [(false,.own (.cons (.row .byte) (.row .byte)) 56)]→HP→Prop} (hk:K (xs.take i++ys++xs.drop i,()) H):
 ae Tryz.prog 128 [(false,.own (.cons (.row .byte) (.row .byte)) 56),(false,.one (.int .i64)),(false,.row (.cons (.row .byte) (.row .byte)))] (xs,(i:Int),ys,()) [(false,.own (.cons (.row .byte) (.row .byte)) 56)] H K:=
 yT rfl (by decide) hi (fun W s v cs ds K ho hv RQ bb tQ hvl h1 h2 hk=>by
  apply call128
  obtain⟨inf,T⟩:=So
  exact D5 T ahG (rt:=140) ho hv RQ bb (by omega) h1 h2 (by omega) (by omega) hk) hk
theorem ahH (xs:List (List UInt8×List UInt8)) (i j:Nat) (hi:i≤j) (hj:j≤xs.length) (hb:xs.length≤1000000000) {H:HP} {K:HT [(false,.own (.cons (.row .byte) (.row .byte)) 56)]→HP→Prop} (hk:K (xs.take i++xs.drop j,()) H):
 ae Tryz.prog 132 [(false,.own (.cons (.row .byte) (.row .byte)) 56),(false,.one (.int .i64)),(false,.one (.int .i64))] (xs,(i:Int),(j:Int),()) [(false,.own (.cons (.row .byte) (.row .byte)) 56)] H K:=
 yU rfl (by decide) hi hj (fun W s cs K ho tQ h1 hk=>by
  apply call132
  obtain⟨inf,T⟩:=So
  exact D6 T ho hi (by omega) h1 (by omega) hk) hk
theorem JB (a:Key):S37 a (gC a,()):=afv a fun H K hk=>by
 unfold A37
 refine au fun _=>fW (fun h=>au fun _=>?_) fun h=>?_
 ·have:gC a=decide ((a.length:Int)≤16):=by unfold gC;rw[Bool.eq_iff_iff];simp;omega
  rw[←this];exact hk
 ·have:gC a=false:=by unfold gC;simp;omega
  rw[←this];exact hk
theorem sP (a:Key):S36 a (dC a,()):=afw a fun H K hk=>by
 unfold A36
 refine au fun _=>?_
 have:dC a=decide ((a.length:Int)≤32):=by unfold dC;rw[decide_eq_decide];omega
 rw[←this];exact hk
theorem rm (a b:Key):S32 a b (lJ a b,()):=afx a b fun H K hk=>by
 unfold A32
 exact ai _ (sL a b) hk
theorem QS (r:Key×Key) (k:Key):S38 r k (rI r.1 r.2 k,()):=afz r k fun H K hk=>by
 unfold A38
 refine ai _ (rm _ _) ?_
 rw[Uh]
 refine bN (fun h=>au fun _=>oK (fun h0=>?_) fun h0=>ai _ (rm _ _) ?_) fun h=>?_<;>unfold rI at hk<;>rw[h] at hk
 ·rw[decide_eq_true (p:=r.2.length=0) (by omega)] at hk;exact hk
 ·rw[decide_eq_false (p:=r.2.length=0) (by omega)] at hk;rw[Di];exact hk
 ·exact hk
theorem nr (r:Key×Key):S16 r (dm r.1 r.2,()):=afy r fun H K hk=>by
 unfold A16
 refine au fun _=>fW (fun h1=>au fun _=>fW (fun h2=>au fun _=>oK (fun h0=>?_) fun h0=>ai _ (rm _ _) ?_) fun h2=>?_) fun h1=>?_<;>unfold dm at hk
 ·rw[decide_eq_true (p:=r.1.length≤16) (by omega),decide_eq_true (p:=r.2.length≤16) (by omega),decide_eq_true (p:=r.2.length=0) (by omega)] at hk;exact hk
 ·rw[decide_eq_true (p:=r.1.length≤16) (by omega),decide_eq_true (p:=r.2.length≤16) (by omega),decide_eq_false (p:=r.2.length=0) (by omega)] at hk;rw[Di];exact hk
 ·rw[decide_eq_true (p:=r.1.length≤16) (by omega),decide_eq_false (p:=r.2.length≤16) (by omega)] at hk;exact hk
 ·rw[decide_eq_false (p:=r.1.length≤16) (by omega)] at hk;exact hk
theorem MN (p:Pr) (k:Key):aiY p k (lJ p.1 k,()):=X_ p k fun H K hk=>by
 unfold U5
 exact ai _ (rm _ _) hk
theorem half (i j:Nat) (h:i+j<9223372036854775807):IntKind.i64.wrap (gA .u64 (IntKind.u64.wrap (IntKind.i64.wrap ((i:Int)+(j:Int)))) 1)=(((i+j)/2:Nat):Int):=by
 rw[jd (x:=(i:Int)+j) (by omega) (by omega)]
 have h1:IntKind.u64.wrap ((i:Int)+(j:Int))=((i+j:Nat):Int):=by
  unfold IntKind.wrap
  simp only[IntKind.signed,IntKind.bits,Bool.false_and,Bool.false_eq_true,if_false]
  omega
 rw[h1]
 have h2:gA .u64 ((i+j:Nat):Int) 1=(((i+j)/2:Nat):Int):=by
  unfold gA
  have:(2:Int)^(min ((1:Int).toNat) IntKind.u64.bits)=2:=by decide
  rw[this,Int.fdiv_eq_ediv_of_nonneg _ (by omega)]
  omega
 rw[h2,jd (by omega) (by omega)]
theorem UA (l:List Pr) (k:Key) (hs:bO (keys l)) (hl:l.length≤1000000000):aiX l k ((lb l k:Nat),cK l k,()):=X9 l k fun H K hk=>by
 unfold U4
 refine au fun _=>?_
 refine gG (fun v H'=>H'=H∧∃i j:Nat,v=((l,k,(),(l.length:Int),(i:Int),(j:Int),()),())∧i≤j∧j≤l.length∧(∀q p,q<i→l[q]?=some p→al p.1 k=true)∧(∀q p,j≤q→l[q]?=some p→al p.1 k=false)) (fun v _=>(v.1.2.2.2.2.2.1 - v.1.2.2.2.2.1).toNat) ⟨rfl,0,l.length,rfl,Nat.zero_le _,Nat.le_refl _,fun q p h=>absurd h (Nat.not_lt_zero _),fun q p h hp=>by rw[List.getElem?_eq_none h] at hp;cases hp⟩ ?_
 rintro v H' ⟨rfl,i,j,rfl,GO,mq,h1,h2⟩
 dsimp only
 refine dR (fun h=>?_) fun h=>?_
 ·rw[half i j (by omega)]
  have hm:(i+j)/2<l.length:=by omega
  refine⟨by omega,dk hm ?_⟩
  refine(MN _ _).call ?_
  dsimp only
  refine fW (fun hc=>?_) fun hc=>?_
  ·rw[w1 (by omega)]
   have mN:=qe.1 hc
   refine⟨⟨rfl,(i+j)/2+1,j,rfl,by omega,mq,fun q p hq hp=>?_,h2⟩,by omega⟩
   rcases Nat.lt_or_ge q ((i+j)/2) with h3|h3
   ·have h4:=hs.get (i:=q) (j:=(i+j)/2) h3 (by rw[ig,hp];rfl) (by rw[ig,List.getElem?_eq_getElem hm];rfl)
    exact cy h4 mN
   ·obtain rfl:q=(i+j)/2:=by omega
    rw[List.getElem?_eq_getElem hm] at hp
    injection hp with hp
    subst hp;exact mN
  ·have mN:al l[(i+j)/2].1 k=false:=by
    cases hb:al l[(i+j)/2].1 k with
    |false=>rfl
    |true=>exact absurd (qe.2 hb) hc
   refine⟨⟨rfl,i,(i+j)/2,rfl,by omega,by omega,h1,fun q p hq hp=>?_⟩,by omega⟩
   rcases Nat.lt_or_ge ((i+j)/2) q with h3|h3
   ·have h4:=hs.get (i:=(i+j)/2) (j:=q) h3 (by rw[ig,List.getElem?_eq_getElem hm];rfl) (by rw[ig,hp];rfl)
    cases hb:al p.1 k with
    |false=>rfl
    |true=>rw[cy h4 hb] at mN;cases mN
   ·obtain rfl:q=(i+j)/2:=by omega
    rw[List.getElem?_eq_getElem hm] at hp
    injection hp with hp
    subst hp;exact mN
 ·obtain rfl:i=j:=by omega
  have WL:lb l k=i:=aaI mq h1 fun p hp=>h2 i p (Nat.le_refl _) hp
  have dZ:cK l k=Mu l i k:=by rw[←WL,xE hs]
  rw[WL,dZ] at hk
  refine dR (fun aY=>dk aY ((MN _ _).call ?_)) fun o0=>?_
  ·unfold Mu at hk
   rw[List.getElem?_eq_getElem aY] at hk
   have:((lJ l[i].1 k:Int)==0)=decide (l[i].1=k):=by rw[Bool.eq_iff_iff];simp[xC]
   dsimp only
   rw[this];exact hk
  ·unfold Mu at hk
   rw[List.getElem?_eq_none o0] at hk
   exact hk
theorem yl (l:List Pr) (k:Key) (hs:bO (keys l)) (hl:l.length≤1000000000):S95 l k ((lb l k:Nat),cK l k,()):=afu l k fun H K hk=>by
 unfold A95
 exact ai _ (UA l k hs hl) hk
theorem Fe (k v:Key) (zK:k.length≤140737488355328) (ui:v.length≤140737488355328):ajf k v ((k,v),()):=Ya k v fun H K hk=>by
 unfold U6
 exact ai _ (bJ k zK) (ai _ (bJ v ui) hk)
theorem Ib (l:List Pr) (hl:l.length≤1000000) (hs:AF l) (H:HP) (K:HT [(false,.own (.cons (.row .byte) (.row .byte)) 56)]→HP→Prop) (hk:K (l,()) H):UP l H K:=S9 l H K (by
 unfold acu
 refine au fun _=>?_
 refine cN l.length (fun i=>((l.take i,l,(l.length:Int),(i:Int),()),())) (fun _=>True) rfl trivial fun i C hi _ hC=>?_
 dsimp only at hC⊢
 refine dR (fun h1=>?_) fun h1=>?_
 ·have hp:=hs _ (List.getElem_mem h1)
  refine dk h1 (ai _ (Fe _ _ hp.1 hp.2) (bM (by simp;omega) ?_))
  rw[w1 (by omega)]
  have:=hC h1 trivial
  rwa [bH h1] at this
 ·obtain rfl:i=l.length:=by omega
  rw[List.take_length];exact hk)
abbrev eC (n:Int):Value:=.iface 62 (.int .i64 n)
theorem xL {l:List Pr} (hs:bO (keys l)) {k:Key} (h:cK l k=true):∃p,l[lb l k]?=some p∧p.1=k:=by
 rw[←xE hs] at h
 unfold Mu at h
 split at h
 ·rename_i p hp;exact⟨p,hp,by simpa using h⟩
 ·cases h
theorem Ei {l:List Pr} {k:Key} (h:cK l k=false):dY l k=none:=by
 unfold cK at h
 rwa [Option.isSome_eq_false_iff,Option.isNone_iff_eq_none] at h
def QT (l:List Pr) (k v:Key):List Pr×Bool×Value×Unit:=if(gC k&&dC v)=true then(fF l k v,!cK l k,.nilIface,()) else([],false,eC 1,())
theorem HX {l:List Pr} {k v:Key} (h:(gC k&&dC v)=true):QT l k v=(fF l k v,!cK l k,.nilIface,()):=if_pos h
theorem aaP (l:List Pr) (k v:Key) (hs:bO (keys l)) (hl:l.length≤1000000) (j6:AF l) (zK:k.length≤140737488355328) (ui:v.length≤140737488355328):aja l k v (QT l k v):=X5 l k v fun H K hk=>by
 unfold U3
 unfold QT at hk
 refine ai _ (JB _) (bN (fun h=>?_) fun h=>ai _ (sP _) (bN (fun h'=>?_) fun h'=>?_))
 ·simp only at h;rw[if_neg (by rw[h];simp)] at hk;exact hk
 ·simp only at h h';rw[if_neg (by rw[h'];simp)] at hk;exact hk
 simp only at h h'
 rw[if_pos (by rw[h,h'];rfl)] at hk
 have hb:=Fb l k
 refine ai _ (yl l k hs (by omega)) (Ib l hl j6 _ _ ?_)
 dsimp only
 refine cM (fun hh=>ai _ (Fe _ _ zK ui) ?_) fun hh=>ai _ (Fe _ _ zK ui) ?_
 ·obtain⟨p,hp,he⟩:=xL hs hh
  have aY:=(List.getElem?_eq_some_iff.1 hp).1
  refine⟨by omega,by omega,dj hp ?_⟩
  rw[Mt hs hp he,hh] at hk
  exact hk
 ·refine RY l _ (lb l k) hb (by simp;omega) ?_
  rw[Ms hs (Ei hh),hh] at hk
  rw[List.append_assoc]
  exact hk
theorem HD (l:List Pr) (k:Key) (hs:bO (keys l)) (hl:l.length≤1000000) (j6:AF l):ajc l k (gF l k,cK l k,()):=X4 l k fun H K hk=>by
 unfold U2
 have hb:=Fb l k
 refine ai _ (yl l k hs (by omega)) (Ib l hl j6 _ _ (bf ?_))
 dsimp only
 refine cM (fun hh=>?_) fun hh=>?_
 ·obtain⟨p,hp,he⟩:=xL hs hh
  have aY:=(List.getElem?_eq_some_iff.1 hp).1
  rw[w1 (by omega)]
  refine ahH l (lb l k) (lb l k+1) (by omega) (by omega) (by omega) ?_
  rw[Sb hs hp he] at hk
  exact hk
 ·rw[HH (Ei hh)] at hk
  exact hk
theorem ql {k:AK} {n:Nat} {H:HP} {x:k.T} {K:k.T→Prop} (hn:H n=some ⟨k,x⟩) (h:K x):aJ k n H K:=⟨x,hn,h⟩
theorem nO {n:Nat} {K:Nat→Prop} (h:K n):ao (some n) K:=⟨n,rfl,h⟩
theorem JD {P:Program} {f:FuncId} {ps:List (Bool×AK)} {xs:HT ps} {rs:List (Bool×AK)} {H:HP} {K:HT rs→Prop} (r:HT rs) (h:∀K':HT rs→HP→Prop,K' r H→ae P f ps xs rs H K') (hk:K r):fS P f ps xs rs H K:=⟨r,h,hk⟩
theorem Sp (H:HP) (n:Nat) (k:AK) (x:k.T):(H.set n k x) n=some ⟨k,x⟩:=if_pos rfl
theorem j_ {H:HP} {n:Nat} {k:AK} {x:k.T} (h:H n=some ⟨k,x⟩):H.set n k x=H:=by
 funext m
 unfold HP.set
 split
 ·rename_i e;subst e;exact h.symm
 ·rfl
theorem set_set (H:HP) (n:Nat) (k:AK) (x y:k.T):(H.set n k x).set n k y=H.set n k y:=by
 funext m
 unfold HP.set
 split<;>rfl
theorem Zg {H:HP} {n:Nat} (h:H n=none) (k:AK) (x:k.T):(H.set n k x).del n=H:=by
 funext m
 unfold HP.set HP.del
 split
 ·rename_i e;subst e;exact h.symm
 ·rename_i e
  show(if m=n then _ else H m)=H m
  rw[if_neg e]
theorem aaS:Tryz.prog.underlying 9=some .string:=by kernel_rfl
theorem tc (a b:List UInt8):bB Tryz.prog 92 [(false,.row .byte),(false,.row .byte)] (a,b,()) [(false,.one .bool)] (decide (a=b),()):=Mf rfl fun W x y hx hy=>by
 apply call92
 unfold G92
 refine yz JC (by kernel_rfl) aaS hx (yz JC (by kernel_rfl) aaS hy ?_)
 rw[RS]
 exact⟨rfl,rfl⟩
abbrev JE:AK:=.cons (.row (.cons (.row .byte) (.row .byte))) (.one (.int .i64))
theorem Uu {l:List Pr} (h:cH l) {k v:Key} (hv:dY l k=some v):v.length≤32:=by
 have:=h.fair _ (yX hv)
 unfold dC at this
 simpa using this
theorem Eh {H:HP} {n:Nat} {l:List Pr} {m:Int} (hn:H n=some ⟨JE,(l,m)⟩) (hr:cH l) (hl:l.length≤100000) (k:Key) (K:HT [(true,.cons (.one (.int .i64)) (.cons (.one .bool) (.cons (.row .byte) (.cons (.row (.cons (.row .byte) (.row .byte))) (.one (.int .u64))))))]→HP→Prop) (hk:K (ko l k,()) H):ajh (some n) k H K:=SU _ _ _ _ (by
 unfold aci
 refine nO (ql hn (ai _ (yl l k hr.sort (by omega)) (bN (fun h=>?_) fun h=>nO (ql hn ?_))))
 ·unfold ko at hk
  simp only at h
  rw[h,Ei h] at hk
  exact hk
 ·simp only at h
  obtain⟨p,hp,he⟩:=xL hr.sort h
  have hg:dY l k=some p.2:=by rw[yi hr.sort k,hp];simp[he]
  have:=Uu hr hg
  refine mJ hp (ai _ (bJ p.2 (by omega)) ?_)
  unfold ko at hk
  rw[h,hg] at hk
  exact hk)
theorem JF {H:HP} {n:Nat} {l:List Pr} {m:Int} (hn:H n=some ⟨JE,(l,m)⟩) (hr:cH l) (hl:l.length≤100000) (r:a_) (hm:gC r.key=true) (hf:dC r.val=true) (K:HT [(true,.cons (.one (.int .i64)) (.cons (.one .bool) (.cons (.row .byte) (.cons (.row (.cons (.row .byte) (.row .byte))) (.one (.int .u64))))))]→HP→Prop) (hk:K ((oE l r m).2,()) (H.set n JE ((oE l r m).1,m))):NH (some n) r H K:=SQ _ _ _ _ (by
 unfold acg
 have Bb:r.key.length≤140737488355328:=by unfold gC at hm;simp at hm;omega
 have hvl:r.val.length≤140737488355328:=by unfold dC at hf;simp at hf;omega
 have put:(cK l r.key=false∧m≤(l.length:Int)→False)→
  ao (some n) fun i10=>aJ JE i10 H fun br=>ck Tryz.prog 111 [(false,.row (.cons (.row .byte) (.row .byte))),(false,.row .byte),(false,.row .byte)] (br.1,r.key,r.val,()) [(false,.row (.cons (.row .byte) (.row .byte))),(false,.one .bool),(false,.one .any)] fun bL=>((cB bL.2.2.1:Bool)=true)∧(af (bj bL.2.2.1) (ao (some n) fun i13=>aJ JE i13 H fun l_=>K (ko l r.key,()) (H.set i13 JE (bL.1,l_.2))) (K (ko l r.key,()) H)):=fun dz=>by
  refine nO (ql hn (ai _ (aaP l r.key r.val hr.sort (by omega) hr.short Bb hvl) ?_))
  rw[HX (by rw[hm,hf];rfl)]
  refine⟨rfl,cd rfl (nO (ql hn ?_))⟩
  unfold oE at hk
  rw[if_neg dz] at hk
  exact hk
 refine JD _ (Eh hn hr hl r.key) (bN (fun h=>nO (ql hn (au fun _=>nO (ql hn (fW (fun o0=>?_) fun aY=>bf ?_))))) fun h=>bf ?_)
 ·have h:cK l r.key=false:=h
  unfold oE at hk
  rw[if_pos ⟨h,by omega⟩] at hk
  simp only at hk
  rw[j_ hn] at hk
  exact hk
 ·exact put fun hc=>(aY:¬((l.length:Int)≥m)) hc.2
 ·have h:cK l r.key=true:=h
  exact put fun hc=>by rw[h] at hc;cases hc.1)
theorem ahJ {H:HP} {n:Nat} {l:List Pr} {m:Int} (hn:H n=some ⟨JE,(l,m)⟩) (hr:cH l) (hl:l.length≤100000) (r:a_) (h5:r.kind=5) (hm:gC r.key=true) (hf:dC r.val=true) (K:HT [(true,.cons (.one (.int .i64)) (.cons (.one .bool) (.cons (.row .byte) (.cons (.row (.cons (.row .byte) (.row .byte))) (.one (.int .u64))))))]→HP→Prop) (hk:K ((Dn l r m).2,()) (H.set n JE ((Dn l r m).1,m))):abD (some n) r H K:=SR _ _ _ _ (by
 unfold ach
 unfold Dn at hk
 rw[if_neg (by omega),if_neg (by omega),if_neg (by omega),if_neg (by omega),if_pos h5] at hk
 refine JD _ (Eh hn hr hl r.key) (bN (fun h=>?_) fun h=>ai _ (tc _ _) (bN (fun he=>?_) fun he=>?_))
 ·have h:cK l r.key=false:=h
  rw[if_pos h] at hk
  simp only at hk
  rw[j_ hn] at hk
  exact hk
 ·have h:cK l r.key=true:=h
  have he:(dY l r.key).getD []≠r.kB:=of_decide_eq_false he
  rw[if_neg (by rw[h];simp),if_pos he] at hk
  simp only at hk
  rw[j_ hn] at hk
  exact hk
 ·have h:cK l r.key=true:=h
  have he:(dY l r.key).getD []=r.kB:=of_decide_eq_true he
  rw[if_neg (by rw[h];simp),if_neg (by simpa using he)] at hk
  exact JF hn hr hl r hm hf _ hk)
theorem Zh (l:List Pr) (r:Key×Key) (n:Int) (hl:l.length≤1000000) (hs:AF l):ajg l r n (k8 l r.1 r.2 n,()):=XG l r n fun H K hk=>by
 unfold UW
 refine au fun _=>?_
 refine cN l.length (fun i=>((n,(),k8 (l.take i) r.1 r.2 n,l,(l.length:Int),(i:Int),()),(r.1,r.2,()),())) (fun _=>True) (by simp[k8]) trivial fun i C hi _ hC=>?_
 dsimp only at hC⊢
 refine dR (fun h1=>?_) fun h1=>?_
 ·have hC:=hC h1 trivial
  have hp:=hs _ (List.getElem_mem h1)
  have e:=Lg (lo:=r.1) (hi:=r.2) (n:=n) h1
  have hlen:=Dm (l.take i) r.1 r.2 n
  rw[List.length_take] at hlen
  refine dk h1 (bf ?_)
  refine ai _ (QS r l[i].1) (cM (fun mV=>au fun _=>?_) fun mV=>?_)
  ·have mV:rI r.1 r.2 l[i].1=true:=mV
   refine fW (fun aY=>ai _ (Fe _ _ hp.1 hp.2) (bM (by dsimp only;omega) ?_)) fun o0=>?_
   ·rw[w1 (by omega)]
    rw[e,if_pos ⟨mV,aY⟩] at hC
    exact hC
   ·rw[w1 (by omega)]
    rw[e,if_neg (fun h=>o0 h.2)] at hC
    exact hC
  ·have mV:rI r.1 r.2 l[i].1=false:=mV
   refine bP rfl ?_
   rw[w1 (by omega)]
   rw[e,if_neg (fun h=>by rw[mV] at h;cases h.1)] at hC
   exact hC
 ·obtain rfl:i=l.length:=by omega
  rw[List.take_length];exact hk
theorem Uv (l:List Pr) (hl:l.length≤1000000) (hs:AF l):aiZ l [] (l,()):=XF l [] fun H K hk=>by
 unfold UU
 refine cN l.length (fun i=>((l.drop i,[],l.take i,()),())) (fun _=>True) (by simp) trivial fun i C hi _ hC=>?_
 dsimp only at hC⊢
 refine au fun _=>fW (fun h=>?_) fun h=>?_
 ·have h1:i<l.length:=by rw[List.length_drop] at h;omega
  have hC:=hC h1 trivial
  have hp:=hs _ (List.getElem_mem h1)
  have hd:(l.drop i)[0]?=some l[i]:=by rw[List.getElem?_drop];exact List.getElem?_eq_getElem h1
  refine bf (au fun _=>bP (by rw[List.length_drop,beq_eq_false_iff_ne];omega) (au fun _=>bP rfl ?_))
  refine cd rfl (b_ (i:=0) rfl hd (b_ (i:=0) rfl hd (ai _ (Fe _ _ hp.1 hp.2) (gj (a:=1) (b:=(l.drop i).length) rfl rfl (by rw[List.length_drop];omega) (Nat.le_refl _) (bM (by rw[List.length_take];omega) ?_)))))
  rw[fT,List.drop_drop]
  rw[bH h1] at hC
  exact hC
 ·have:i=l.length:=by rw[List.length_drop] at h;omega
  subst this
  refine au fun _=>bP rfl ?_
  rw[List.take_length];exact hk
theorem auq {H:HP} {n:Nat} {l:List Pr} {m:Int} (hn:H n=some ⟨JE,(l,m)⟩) (hr:cH l) (hl:l.length≤100000) (r:a_) (hm:eM r=true) (K:HT [(true,.cons (.one (.int .i64)) (.cons (.one .bool) (.cons (.row .byte) (.cons (.row (.cons (.row .byte) (.row .byte))) (.one (.int .u64))))))]→HP→Prop) (hk:K ((Dn l r m).2,()) (H.set n JE ((Dn l r m).1,m))):abr (some n) r H K:=SP _ _ _ _ (by
 unfold acf
 have hmk:r.kind≠6→gC r.key=true∧dC r.val=true:=fun h=>w7 hm h
 refine oK (fun h2=>?_) fun h2=>oK (fun h5=>?_) fun h5=>oK (fun h6=>?_) fun h6=>?_
 ·have h2:r.kind=2:=h2
  obtain⟨g1,g2⟩:=hmk (by omega)
  unfold Dn at hk
  rw[if_neg (by omega),if_neg (by omega),if_neg (by omega),if_neg (by omega),if_neg (by omega)] at hk
  exact JF hn hr hl r g1 g2 _ hk
 ·have h5:r.kind=5:=h5
  obtain⟨g1,g2⟩:=hmk (by omega)
  exact ahJ hn hr hl r h5 g1 g2 _ hk
 ·have h6:r.kind=6:=h6
  unfold Dn at hk
  rw[if_pos h6] at hk
  simp only at hk
  rw[j_ hn] at hk
  exact nO (ql hn (ai _ (Zh l (r.key,r.to) r.nq (by omega) hr.short) hk))
 ·have h2:r.kind≠2:=h2
  have h5:r.kind≠5:=h5
  have h6:r.kind≠6:=h6
  obtain⟨g1,g2⟩:=hmk h6
  unfold Dn at hk
  rw[if_neg h6] at hk
  refine JD _ (Eh hn hr hl r.key) (bf (oK (fun h3=>?_) fun h3=>oK (fun h4=>?_) fun h4=>?_))
  ·have h3:r.kind=3:=h3
   rw[if_neg (by omega),if_pos h3] at hk
   exact nO (ql hn (ai _ (HD l r.key hr.sort (by omega) hr.short) (nO (ql hn hk))))
  ·have h4:r.kind=4:=h4
   rw[if_neg (by omega),if_neg (by omega),if_pos h4] at hk
   refine bN (fun hh=>?_) fun hh=>?_
   ·have hh:cK l r.key=false:=hh
    rw[if_neg (by rw[hh];simp)] at hk
    exact JF hn hr hl r g1 g2 _ hk
   ·have hh:cK l r.key=true:=hh
    rw[if_pos hh] at hk
    simp only at hk
    rw[j_ hn] at hk
    exact hk
  ·have h3:r.kind≠3:=h3
   have h4:r.kind≠4:=h4
   have h1:r.kind=1:=by
    unfold eM at hm
    rw[if_neg h6] at hm
    simp only[Bool.and_eq_true,decide_eq_true_eq] at hm
    omega
   rw[if_pos h1] at hk
   simp only at hk
   rw[j_ hn] at hk
   exact hk)
theorem xS (r:a_):S22 r (eM r,()):=aeX r fun H K hk=>by
 unfold A22
 refine bf ?_
 have fin:∀b:Bool,b=uI r→(bE (V:=(Unit×Bool×Int×Bool×Unit)×(Int×Int×Int×List UInt8×List UInt8×List UInt8×List UInt8×Int×Unit)×Unit) (fun x3 H4=>af x3.1.2.2.2.1 (af x3.1.2.1 (ck Tryz.prog 37 [(false,.row .byte)] (x3.2.1.2.2.2.1,()) [(false,.one .bool)] fun x5=>K (x5.1,()) H4) (K (false,()) H4)) (af ((x3.1.2.2.1:Int)==6) (af x3.1.2.1 (ck Tryz.prog 16 [(true,.cons (.row .byte) (.row .byte))] ((x3.2.1.2.2.2.1,x3.2.1.2.2.2.2.2.2.1),()) [(false,.one .bool)] fun x6=>af x6.1 (af (decide (x3.2.1.2.2.2.2.2.2.2.1≥1)) (K (decide (x3.2.1.2.2.2.2.2.2.2.1≤100),()) H4) (K (false,()) H4)) (K (false,()) H4)) (K (false,()) H4)) (K (false,()) H4))) fun B7=>af ((r.2.2.1:Int)==1) (B7 (((),b,r.2.2.1,(r.2.2.1:Int)==1,()),(r.1,r.2.1,r.2.2.1,r.2.2.2.1,r.2.2.2.2.1,r.2.2.2.2.2.1,r.2.2.2.2.2.2.1,r.2.2.2.2.2.2.2,()),()) H) (af ((r.2.2.1:Int)==2) (B7 (((),b,r.2.2.1,(r.2.2.1:Int)==2,()),(r.1,r.2.1,r.2.2.1,r.2.2.2.1,r.2.2.2.2.1,r.2.2.2.2.2.1,r.2.2.2.2.2.2.1,r.2.2.2.2.2.2.2,()),()) H) (af ((r.2.2.1:Int)==3) (B7 (((),b,r.2.2.1,(r.2.2.1:Int)==3,()),(r.1,r.2.1,r.2.2.1,r.2.2.2.1,r.2.2.2.2.1,r.2.2.2.2.2.1,r.2.2.2.2.2.2.1,r.2.2.2.2.2.2.2,()),()) H) (af ((r.2.2.1:Int)==4) (B7 (((),b,r.2.2.1,(r.2.2.1:Int)==4,()),(r.1,r.2.1,r.2.2.1,r.2.2.2.1,r.2.2.2.2.1,r.2.2.2.2.2.1,r.2.2.2.2.2.2.1,r.2.2.2.2.2.2.2,()),()) H) (B7 (((),b,r.2.2.1,(r.2.2.1:Int)==5,()),(r.1,r.2.1,r.2.2.1,r.2.2.2.1,r.2.2.2.2.1,r.2.2.2.2.2.1,r.2.2.2.2.2.2.1,r.2.2.2.2.2.2.2,()),()) H))))):=fun b hb=>by
  refine bf ?_
  unfold eM at hk
  rw[←hb] at hk
  have tail:∀c:Bool,c=(decide (1≤r.kind)&&decide (r.kind≤5))→af c (af b (ck Tryz.prog 37 [(false,.row .byte)] (r.key,()) [(false,.one .bool)] fun x5=>K (x5.1,()) H) (K (false,()) H)) (af ((r.kind:Int)==6) (af b (ck Tryz.prog 16 [(true,.cons (.row .byte) (.row .byte))] ((r.key,r.to),()) [(false,.one .bool)] fun x6=>af x6.1 (af (decide (r.nq≥1)) (K (decide (r.nq≤100),()) H) (K (false,()) H)) (K (false,()) H)) (K (false,()) H)) (K (false,()) H)):=fun c hc=>by
   refine cM (fun h=>?_) fun h=>?_
   ·rw[h] at hc
    have GL:=hc.symm
    rw[Bool.and_eq_true,decide_eq_true_eq,decide_eq_true_eq] at GL
    rw[if_neg (by omega),←hc,Bool.true_and] at hk
    refine cM (fun h2=>ai _ (JB _) ?_) fun h2=>?_
    ·rw[h2,Bool.true_and] at hk;exact hk
    ·rw[h2,Bool.false_and] at hk;exact hk
   ·rw[h] at hc
    refine oK (fun h6=>?_) fun h6=>?_
    ·rw[if_pos h6] at hk
     refine cM (fun h2=>ai _ (nr _) (cM (fun h3=>fW (fun h4=>?_) fun h4=>?_) fun h3=>?_)) fun h2=>?_
     ·have h3:dm r.key r.to=true:=h3
      rw[h2,h3,decide_eq_true (show 1≤r.nq from h4)] at hk;exact hk
     ·have h3:dm r.key r.to=true:=h3
      rw[h2,h3,decide_eq_false (show ¬1≤r.nq from h4)] at hk;exact hk
     ·have h3:dm r.key r.to=false:=h3
      rw[h2,h3] at hk;exact hk
     ·rw[h2,Bool.false_and] at hk;exact hk
    ·rw[if_neg h6,←hc,Bool.false_and,Bool.and_false] at hk;exact hk
  have kd:∀q:Int,1≤q→q≤5→r.kind=q→((r.kind:Int)==q)=(decide (1≤r.kind)&&decide (r.kind≤5)):=fun q h1 h2 h=>by
   rw[h,decide_eq_true h1,decide_eq_true h2];simp
  refine oK (fun h=>tail _ (kd 1 (by omega) (by omega) h)) fun n1=>oK (fun h=>tail _ (kd 2 (by omega) (by omega) h)) fun n2=>oK (fun h=>tail _ (kd 3 (by omega) (by omega) h)) fun n3=>oK (fun h=>tail _ (kd 4 (by omega) (by omega) h)) fun n4=>tail _ ?_
  show((r.kind:Int)==5)=_
  have n1:r.kind≠1:=n1
  have n2:r.kind≠2:=n2
  have n3:r.kind≠3:=n3
  have n4:r.kind≠4:=n4
  rw[Bool.eq_iff_iff]
  simp only[beq_iff_eq,Bool.and_eq_true,decide_eq_true_eq]
  omega
 refine fW (fun h1=>fW (fun h2=>ai _ (sP _) (cM (fun h3=>ai _ (sP _) (fin _ ?_)) fun h3=>fin _ ?_)) fun h2=>fin _ ?_) fun h1=>fin _ ?_
 ·have h3:dC r.val=true:=h3
  show dC r.kB=uI r
  unfold uI
  rw[h3,decide_eq_true (show(0:Int)≤r.1 from h1),decide_eq_true (show(0:Int)≤r.2.1 from h2)];rfl
 ·have h3:dC r.val=false:=h3
  unfold uI
  rw[h3];simp
 ·unfold uI
  rw[decide_eq_false (show ¬(0:Int)≤r.2.1 from h2)];simp
 ·unfold uI
  rw[decide_eq_false (show ¬(0:Int)≤r.1 from h1)];simp
theorem ZX (l:List Pr) (reqs:List a_) (a8:Int) (hr:cH l) (hl:l.length≤1000) (hq:reqs.length≤1000):S97 l reqs a8 ((dv a8 l reqs).1,(dv a8 l reqs).2,()):=aeW l reqs a8 fun H K hk=>by
 unfold A97
 refine ai _ (Uv l (by omega) hr.short) fun n hn=>au fun _=>?_
 refine gY reqs.length (fun i x H'=>x=((n,(dv a8 l (reqs.take i)).2,reqs,(reqs.length:Int),(i:Int),()),())∧H'=H.set n JE ((dv a8 l (reqs.take i)).1,a8)) ⟨by simp[dv],by simp[dv]⟩ ?_
 rintro i x H' C hi ⟨rfl,rfl⟩ hC
 dsimp only at hC⊢
 refine dR (fun h1=>dk h1 (ai _ (xS reqs[i]) ?_)) fun h1=>?_
 ·have hC:=hC h1
  obtain⟨g1,g2⟩:=HK a8 (reqs.take i) hr
  have gl:=tD a8 l (reqs.take i)
  rw[List.length_take] at g2 gl
  have e:=Qc a8 l (reqs.take i) reqs[i]
  rw[←bH h1] at e
  refine bN (fun hm=>bM (by omega) ?_) fun hm=>?_
  ·rw[w1 (by omega)]
   have hm:eM reqs[i]=false:=hm
   have e2:zT (dv a8 l (reqs.take i)).1 reqs[i] a8=((dv a8 l (reqs.take i)).1,Fc 1):=if_neg (by rw[hm];simp)
   exact hC _ _ ⟨by rw[e,e2];rfl,by rw[e,e2]⟩
  ·have hm:eM reqs[i]=true:=hm
   have e2:zT (dv a8 l (reqs.take i)).1 reqs[i] a8=Dn (dv a8 l (reqs.take i)).1 reqs[i] a8:=if_pos hm
   refine auq (Sp _ _ _ _) g1 (by omega) reqs[i] hm _ (bM (by omega) ?_)
   rw[set_set,w1 (by omega)]
   exact hC _ _ ⟨by rw[e,e2],by rw[e,e2]⟩
 ·obtain rfl:i=reqs.length:=by omega
  refine ql (Sp _ _ _ _) ?_
  rw[Zg hn,List.take_length];exact hk
theorem Zi (a:eH):S14 a a (true,()):=aeY a a fun H K hk=>by
 unfold A14
 refine ai _ (Zj _ _) (cd (by simp) (cd (by simp) (cd (by simp) ?_)))
 rw[decide_eq_true rfl];exact hk
def ym (r:a_):Bool:=decide ((r.key.length:Int)≤100)&&(decide ((r.val.length:Int)≤100)&&(decide ((r.kB.length:Int)≤100)&&decide ((r.to.length:Int)≤100)))
theorem Zk (r:a_):S6 r (ym r,()):=amm r fun H K hk=>by
 unfold A6
 unfold ym at hk
 refine au fun _=>fW (fun h1=>?_) fun h1=>?_
 ·rw[decide_eq_true (show(r.key.length:Int)≤100 from h1),Bool.true_and] at hk
  refine au fun _=>fW (fun h2=>?_) fun h2=>?_
  ·rw[decide_eq_true (show(r.val.length:Int)≤100 from h2),Bool.true_and] at hk
   refine au fun _=>fW (fun h3=>?_) fun h3=>?_
   ·rw[decide_eq_true (show(r.kB.length:Int)≤100 from h3),Bool.true_and] at hk
    exact au fun _=>hk
   ·rw[decide_eq_false (show ¬(r.kB.length:Int)≤100 from h3),Bool.false_and] at hk;exact hk
  ·rw[decide_eq_false (show ¬(r.val.length:Int)≤100 from h2),Bool.false_and] at hk;exact hk
 ·rw[decide_eq_false (show ¬(r.key.length:Int)≤100 from h1),Bool.false_and] at hk;exact hk
abbrev WW:AK:=.cons (.one (.int .i64)) (.cons (.one (.int .i64)) (.cons (.one (.int .i64)) (.cons (.row .byte) (.cons (.row .byte) (.cons (.row .byte) (.cons (.row .byte) (.one (.int .i64))))))))
abbrev RSk:AK:=.cons (.one (.int .i64)) (.cons (.one .bool) (.cons (.row .byte) (.cons (.row (.cons (.row .byte) (.row .byte))) (.one (.int .u64)))))
abbrev jR:AK:=.cons (.one (.int .i64)) (.cons WW RSk)
def er (c:Int):Value:=if c=0 then .nilIface else .iface 62 (.int .i64 c)
theorem dP (c:Int):cB (er c)=true:=by unfold er;split<;>rfl
theorem k9 (c:Int):bj (er c)=decide (c=0):=by unfold er;split<;>rename_i h<;>simp[bj,h]
theorem wH {c:Int} (h:c≠0):(Value.iface 62 (.int .i64 c))=er c:=by rw[er,if_neg h]
theorem auz:Tryz.prog.underlying 62=some (.int .i64):=by kernel_rfl
theorem auA:(Tryz.prog.info? 62).map (·.comparable)=some true:=by kernel_rfl
theorem anh {a b:Int} {K:Bool→Prop} (hb:b≠0) (hk:K (decide (a=b))):Qz Tryz.prog (er a) (.iface 62 (.int .i64 b)) K:=by
 have hi:=auA
 cases hh:Tryz.prog.info? 62 with
 |none=>rw[hh] at hi;cases hi
 |some i=>
  rw[hh] at hi
  simp only[Option.map_some,Option.some.injEq] at hi
  by_cases ha:a=0
  ·refine⟨decide (a=b),.inr (.inr (.inl ⟨62,.int .i64 b,by rw[ha];rfl,rfl,?_⟩)),hk⟩
   simp only[decide_eq_false_iff_not];omega
  ·refine⟨decide (a=b),.inl ⟨62,.i64,a,b,i,by rw[er,if_neg ha],rfl,auz,hh,hi,?_⟩,hk⟩
   rw[Bool.eq_iff_iff];simp
structure cF (H:HP) (n b:Nat) (s:Sl) (l:List One):Prop where
 bo:H n=some ⟨.one .sl,s⟩
 arr:pT H b jR 106 s l
 bR:Kl s b l.length
 le:l.length≤32
theorem cF.ne {H:HP} {n b:Nat} {s:Sl} {l:List One} (h:cF H n b s l):n≠b:=fun e=>by
 subst e
 have h1:=h.bo
 have h2:=h.arr
 unfold pT at h2
 rw[h1] at h2
 injection h2 with h2
 injection h2 with h2
 cases h2
theorem cF.le' {H H':HP} {n b:Nat} {s:Sl} {l:List One} (h:cF H n b s l) (hl:H.le H'):cF H' n b s l:=⟨hl.get h.bo,hl.get h.arr,h.bR,h.le⟩
theorem cF.put {H:HP} {n b:Nat} {s:Sl} {l l':List One} (h:cF H n b s l) (he:l'.length=l.length):cF (H.set b (.arr jR 106) (s,l')) n b s l':=
 ⟨by rw[di h.ne];exact h.bo,cq _ _ _ _,by rw[he];exact h.bR,by rw[he];exact h.le⟩
theorem MO {s:Sl} {b n:Nat} (h:Kl s b n) (i:Int):decide (i<((s.len:Nat):Int))=decide (i<(n:Int)):=by rw[h.len]
abbrev LG (b:Nat) (i:Nat):Addr:=Oe b i 14
theorem VL {H:HP} {n b:Nat} {s:Sl} {l:List One} (h:cF H n b s l) (i:Int) (K:HT [(false,.one .ptr)]→HP→Prop) (hk:K ((jQ l i).map (fun _=>LG b i.toNat),()) H):C57 (some n) i H K:=Yf _ _ _ _ (by
 unfold A57
 refine fW (fun h0=>?_) fun h0=>ax (aF h.bo (fW (fun h1=>?_) fun h1=>ax (aF h.bo ?_)))
 ·have h0:i<0:=h0
  rw[HM (by omega)] at hk;exact hk
 ·have h1:i≥((s.len:Nat):Int):=h1
  rw[h.bR.len] at h1
  rw[HM (by omega)] at hk;exact hk
 ·have h1:¬i≥((s.len:Nat):Int):=h1
  have h0:¬i<0:=h0
  rw[h.bR.len] at h1
  obtain⟨j,rfl,hj,hx⟩:=Y8 (l:=l) (i:=i) (by omega) (by omega)
  rw[hx] at hk
  exact jk h.bR.bR rfl (by rw[h.bR.len];exact hj) (by rw[Addr.add_zero'];simpa using hk))
theorem uM {l:List One} {i:Int} {x:One} (hx:jQ l i=some x):l[i.toNat]?=some x:=by
 obtain⟨j,rfl,hj⟩:=q7 hx
 rw[Int.toNat_natCast];exact hj
theorem MK {H:HP} {n b:Nat} {s:Sl} {l:List One} (h:cF H n b s l) (i:Int) (K:HT [(false,.one (.int .i64))]→HP→Prop) (hk:K (stS l i,()) H):C73 (some n) i H K:=Yg _ _ _ _ (by
 unfold A73
 refine cI _ (VL h i) ?_
 unfold stS at hk
 cases hx:jQ l i with
 |none=>rw[hx] at hk;exact bP rfl hk
 |some x=>
  rw[hx] at hk
  exact cd rfl (jv (gT h.arr (uM hx) hk)))
theorem UB {H:HP} {m:Nat} {st:Int} (hm:H m=some ⟨.one (.int .i64),st⟩) (x:One) (K:HT [(false,.one .bool)]→HP→Prop) (hk:K ((x.1:Int)==st,()) H):C62 x (some m) H K:=Yh _ _ _ _ (by
 unfold A62
 exact ax (aF hm hk))
theorem ahS {H:HP} {b m t:Nat} {s:Sl} {l:List One} (ha:pT H b jR t s l) (hs:Kl s b l.length) (hl:l.length≤1000) (p:One→Bool) (hp:∀x (K:HT [(false,.one .bool)]→HP→Prop),K (p x,()) H→C62 x (some m) H K) (K:HT [(false,.one (.int .i64))]→HP→Prop) (hk:K (oF p l,()) H):C61 s [m] H K:=DJ _ _ _ _ (by
 unfold Wk
 refine cN l.length (fun i=>((s,[m],((s.len:Nat):Int),(i:Int),()),())) (fun i=>∀j (h:j<l.length),j<i→p l[j]=false) rfl (fun j h h0=>absurd h0 (Nat.not_lt_zero j)) fun i C hi hP hC=>?_
 dsimp only at hC⊢
 rw[MO hs]
 refine dR (fun h1=>?_) fun h1=>?_
 ·refine jk hs.bR rfl (by rw[hs.len];exact h1) (gT ha (List.getElem?_eq_getElem h1) (uw ⟨rfl,hp _ _ (cM (fun hb=>?_) fun hb=>?_)⟩))
  ·rw[(Eb h1 hb hP).1] at hk;exact hk
  ·rw[w1 (by omega)]
   refine hC h1 fun j h h2=>?_
   rcases Nat.lt_or_ge j i with h3|h3
   ·exact hP j h h3
   ·obtain rfl:j=i:=by omega
    exact hb
 ·rw[(Ec fun j h=>hP j h (by omega)).1] at hk;exact hk)
theorem MM {H:HP} {n b:Nat} {s:Sl} {l:List One} (h:cF H n b s l) (st:Int) (K:HT [(false,.one (.int .i64))]→HP→Prop) (hk:K (oG l st,()) H):C41 (some n) st H K:=uU rfl (Yi _ _ _ _ (by
 unfold A41
 intro m hm
 have h':=h.le' (dI (k:=.one (.int .i64)) (x:=st) hm)
 refine ax (aF h'.bo (cI _ (ahS h'.arr h'.bR (by have:=h.le;omega) (fun x=>(x.1:Int)==st) fun x K hk=>UB (cq _ _ _ _) x K hk) ?_))
 exact⟨H,dI hm,hk⟩))
theorem Zz {H:HP} {m:Nat} {r:a_} (hm:H m=some ⟨WW,r⟩) (x:One) (K:HT [(false,.one .bool)]→HP→Prop) (hk:K (oU r x,()) H):P.C40 x (some m) H K:=P.Yu _ _ _ _ (by
 unfold P.A40
 unfold oU at hk
 refine ax (cM (fun hb=>?_) fun hb=>?_)
 ·rw[if_pos hb] at hk;exact aF hm hk
 ·rw[if_neg (by rw[hb];simp)] at hk;exact hk)
theorem ZA {H:HP} {b m t:Nat} {s:Sl} {l:List One} (ha:pT H b jR t s l) (hs:Kl s b l.length) (hl:l.length≤1000) (p:One→Bool) (hp:∀x (K:HT [(false,.one .bool)]→HP→Prop),K (p x,()) H→P.C40 x (some m) H K) (K:HT [(false,.one (.int .i64))]→HP→Prop) (hk:K (oF p l,()) H):P.C61 s [m] H K:=P.DJ _ _ _ _ (by
 unfold P.Wk
 refine cN l.length (fun i=>((s,[m],((s.len:Nat):Int),(i:Int),()),())) (fun i=>∀j (h:j<l.length),j<i→p l[j]=false) rfl (fun j h h0=>absurd h0 (Nat.not_lt_zero j)) fun i C hi hP hC=>?_
 dsimp only at hC⊢
 rw[MO hs]
 refine dR (fun h1=>?_) fun h1=>?_
 ·refine jk hs.bR rfl (by rw[hs.len];exact h1) (gT ha (List.getElem?_eq_getElem h1) (uw ⟨rfl,hp _ _ (cM (fun hb=>?_) fun hb=>?_)⟩))
  ·rw[(Eb h1 hb hP).1] at hk;exact hk
  ·rw[w1 (by omega)]
   refine hC h1 fun j h h2=>?_
   rcases Nat.lt_or_ge j i with h3|h3
   ·exact hP j h h3
   ·obtain rfl:j=i:=by omega
    exact hb
 ·rw[(Ec fun j h=>hP j h (by omega)).1] at hk;exact hk)
theorem ahT {H:HP} {b m t:Nat} {s:Sl} {l:List One} (ha:pT H b jR t s l) (hs:Kl s b l.length) (hl:l.length≤1000) {r:a_} (hm:H m=some ⟨WW,r⟩) (K:HT [(false,.one .bool)]→HP→Prop) (hk:K (l.any (oU r),()) H):P.C42 s [m] H K:=P.Yv _ _ _ _ (by
 unfold P.A42
 refine cI _ (ZA ha hs hl (oU r) fun x K hk=>Zz hm x K hk) ?_
 have:decide (oF (oU r) l≥0)=l.any (oU r):=by
  rw[Bool.eq_iff_iff,decide_eq_true_eq];exact HN
 show K (decide (oF (oU r) l≥0),()) H
 rw[this];exact hk)
theorem MP (r:a_) (hr:kS r):S43 r (r,()):=afB r fun H K hk=>by
 unfold A43
 obtain⟨h1,h2,h3,h4⟩:=hr
 exact ai _ (bJ _ (by show r.key.length≤_;omega)) (ai _ (bJ _ (by show r.val.length≤_;omega)) (ai _ (bJ _ (by show r.kB.length≤_;omega)) (ai _ (bJ _ (by show r.to.length≤_;omega)) hk)))
def j5 (a:eH):Prop:=a.2.2.1.length≤100∧a.2.2.2.1.length≤1000∧∀p∈a.2.2.2.1,p.1.length≤1000∧p.2.length≤1000
theorem ahU (a:eH) (ha:j5 a):S88 a (a,()):=afC a fun H K hk=>by
 obtain⟨h1,h2,h3⟩:=ha
 obtain⟨c,f,v,l,st⟩:=a
 simp only at h1 h2 h3
 unfold A88
 refine ai _ (bJ _ (by show v.length≤_;omega)) (au fun _=>?_)
 refine cN l.length (fun i=>(((),(),l,(l.length:Int),(i:Int),()),(c,f,v,l.take i,st,()),(0,false,(),(),0,()),())) (fun _=>True) (by simp) trivial fun i C hi _ hC=>?_
 dsimp only at hC⊢
 refine dR (fun aY=>?_) fun o0=>?_
 ·have hp:=h3 _ (List.getElem_mem aY)
  refine dk aY (ai _ (bJ _ (by omega)) (ai _ (bJ _ (by omega)) (bM (by rw[List.length_take];omega) ?_)))
  rw[w1 (by omega)]
  have:=hC aY trivial
  rw[bH aY] at this
  exact this
 ·obtain rfl:i=l.length:=by omega
  rw[List.take_length];exact hk
theorem ZB (l:List Int) (x:Int):aiT l x (oF (fun y=>x==y) l,()):=Yt l x fun H K hk=>by
 unfold U7
 refine au fun hlen=>?_
 refine cN l.length (fun i=>((l,x,(l.length:Int),(i:Int),()),())) (fun i=>∀j (h:j<l.length),j<i→(x==l[j])=false) rfl (fun j h h0=>absurd h0 (Nat.not_lt_zero j)) fun i C hi hP hC=>?_
 dsimp only at hC⊢
 refine dR (fun h1=>?_) fun h1=>?_
 ·refine dk h1 (cM (fun hb=>?_) fun hb=>?_)
  ·rw[(Eb (p:=fun y=>x==y) h1 hb hP).1] at hk;exact hk
  ·rw[w1 (by omega)]
   refine hC h1 fun j h h2=>?_
   rcases Nat.lt_or_ge j i with h3|h3
   ·exact hP j h h3
   ·obtain rfl:j=i:=by omega
    exact hb
 ·rw[(Ec (p:=fun y=>x==y) fun j h=>hP j h (by omega)).1] at hk;exact hk
theorem zi (l:List Int) (x:Int):S89 l x (decide (x∈l),()):=afD l x fun H K hk=>by
 unfold A89
 refine ai _ (ZB l x) ?_
 have:decide (oF (fun y=>x==y) l≥0)=decide (x∈l):=by
  rw[Bool.eq_iff_iff,decide_eq_true_eq,decide_eq_true_eq,ge_iff_le,HN,List.any_eq_true]
  constructor
  ·rintro⟨y,hy,h⟩;rw[beq_iff_eq] at h;subst h;exact hy
  ·exact fun h=>⟨x,h,by simp⟩
 show K (decide (oF (fun y=>x==y) l≥0),()) H
 rw[this];exact hk
theorem SA {H:HP} {n b:Nat} {s:Sl} {l:List One} (h:cF H n b s l) (i to:Int) (fr:List Int) (K:HT [(false,.one .any)]→HP→Prop) (hk:K (er (kJ l i to fr).1,()) (H.set b (.arr jR 106) (s,(kJ l i to fr).2))):C75 (some n) i to fr H K:=Yk _ _ _ _ _ _ (by
 unfold A75
 refine cI _ (VL h i) ?_
 unfold kJ at hk
 cases hx:jQ l i with
 |none=>rw[hx] at hk;simp only at hk;rw[hU h.arr] at hk;exact cd rfl hk
 |some x=>
  rw[hx] at hk
  simp only at hk
  refine bP rfl (jv (gT h.arr (uM hx) (ai _ (zi fr x.1) (bN (fun hb=>?_) fun hb=>?_))))
  ·have hb:decide (x.1∈fr)=false:=hb
   rw[if_neg (by simpa using hb)] at hk
   simp only at hk
   rw[hU h.arr] at hk;exact hk
  ·have hb:decide (x.1∈fr)=true:=hb
   rw[if_pos (by simpa using hb)] at hk
   exact jv (wJ h.arr (uM hx) hk))
theorem Zy {H:HP} {n b:Nat} {s:Sl} {l:List One} (h:cF H n b s l) (i:Int) (K:HT [(false,.one .any)]→HP→Prop) (hk:K (er (kJ l i 2 [1]).1,()) (H.set b (.arr jR 106) (s,(kJ l i 2 [1]).2))):C52 (some n) i H K:=Yl _ _ _ _ (by
 unfold A52
 exact SA h i 2 [1] _ hk)
theorem Uy {H:HP} {n b:Nat} {s:Sl} {l:List One} (h:cF H n b s l) (i:Int) (a:eH) (ha:j5 a) (K:HT [(false,.one .any)]→HP→Prop) (hk:K (er (dr l i a).1,()) (H.set b (.arr jR 106) (s,(dr l i a).2))):C69 (some n) i a H K:=Ym _ _ _ _ _ (by
 unfold A69
 refine SA h i 3 [2] _ ⟨dP _,?_⟩
 have h':=h.put (Dp l i 3 [2])
 generalize hT:kJ l i 3 [2]=T at h'⊢
 rw[k9]
 unfold dr at hk
 unfold kJ at hT
 cases hx:jQ l i with
 |none=>rw[hx] at hk hT;subst hT;exact cd rfl hk
 |some x=>
  rw[hx] at hk hT
  simp only[List.mem_singleton] at hk hT
  by_cases hb:x.1=2
  ·rw[if_pos hb] at hk hT
   subst hT
   obtain⟨j,rfl,hj⟩:=q7 hx
   have aY:=(List.getElem?_eq_some_iff.1 hj).1
   simp only[Int.toNat_natCast] at h' hk⊢
   have hg:(l.set j (3,x.2))[j]?=some (3,x.2):=by rw[List.getElem?_set,if_pos rfl,if_pos aY]
   refine bP rfl (ax (aF h'.bo (ai _ (ahU a ha) (jk h.bR.bR rfl (by rw[h.bR.len];exact aY) (wJ h'.arr hg ?_)))))
   show K _ ((H.set b (.arr jR 106) (s,l.set j (3,x.2))).set b (.arr jR 106) (s,(l.set j (3,x.2)).set j (3,x.2.1,a)))
   rw[nT,List.set_set]
   exact hk
  ·rw[if_neg hb] at hk hT
   subst hT
   exact cd rfl hk)
theorem ahO {H:HP} {n b:Nat} {s:Sl} {l:List One} (h:cF H n b s l) (r:a_) (hr:kS r) (K:HT [(false,.one (.int .i64)),(false,.one .any)]→HP→Prop) (hk:K ((jy l r).1,er (jy l r).2.1,()) (H.set b (.arr jR 106) (s,(jy l r).2.2))):C24 (some n) r H K:=uU rfl (Yj _ _ _ _ (by
 unfold A24
 intro m hm
 have hle:=dI (k:=WW) (x:=r) hm
 have h':=h.le' hle
 have dZ:(H.set m WW r) m=some ⟨WW,r⟩:=cq _ _ _ _
 have bm:m≠b:=fun e=>by subst e;have:=h.arr;unfold pT at this;rw[hm] at this;cases this
 refine MM h' 0 _ (aF dZ (ai _ (xS r) (bN (fun hb=>?_) fun hb=>ax (aF h'.bo (cI _ (ahT h'.arr h'.bR (by have:=h.le;omega) dZ) (cM (fun ht=>?_) fun ht=>fW (fun hf=>?_) fun hf=>ax (aF h'.bo (aF dZ (ai _ (MP r hr) ?_)))))))))
 ·have hb:eM r=false:=hb
  refine⟨H,hle,?_⟩
  unfold jy at hk
  rw[if_pos hb] at hk
  simp only at hk
  rw[hU h.arr] at hk;exact hk
 ·have hb:eM r=true:=hb
  have ht:l.any (oU r)=true:=ht
  refine⟨H,hle,?_⟩
  unfold jy at hk
  rw[if_neg (by rw[hb];simp),if_pos ht] at hk
  simp only at hk
  rw[hU h.arr] at hk;exact hk
 ·have hb:eM r=true:=hb
  have ht:l.any (oU r)=false:=ht
  have hf:oG l 0<0:=hf
  refine⟨H,hle,?_⟩
  unfold jy at hk
  rw[if_neg (by rw[hb];simp),if_neg (by rw[ht];simp),show l.findIdx? (fun x=>(x.1:Int)==0)=none from y4.1 hf] at hk
  simp only at hk
  rw[hU h.arr] at hk;exact hk
 ·have hb:eM r=true:=hb
  have ht:l.any (oU r)=false:=ht
  have hf:¬oG l 0<0:=hf
  cases hi:l.findIdx? (fun x=>(x.1:Int)==0) with
  |none=>exact absurd (y4.2 hi) hf
  |some i=>
   have aY:=(List.findIdx?_eq_some_iff_getElem.1 hi).1
   have hfi:oG l 0=(i:Int):=by unfold oG oF;rw[hi]
   refine jk h'.bR.bR hfi (by rw[h'.bR.len];exact aY) (wJ h'.arr (List.getElem?_eq_getElem aY) ?_)
   unfold jy at hk
   rw[if_neg (by rw[hb];simp),if_neg (by rw[ht];simp),hi] at hk
   exact⟨_,(dI hm).set,by show K (oG l 0,_) _;rw[hfi];exact hk⟩))
theorem aaY {H:HP} {n b:Nat} {s:Sl} {l:List One} (h:cF H n b s l) (ok:rK l) (i:Int) (K:HT [(true,WW),(false,.one .any)]→HP→Prop) (hk:K ((vP l i).1,er (vP l i).2,()) H):C72 (some n) i H K:=Yo _ _ _ _ (by
 unfold A72
 refine cI _ (VL h i) ?_
 unfold vP at hk
 cases hx:jQ l i with
 |none=>rw[hx] at hk;exact cd rfl hk
 |some x=>
  rw[hx] at hk
  simp only at hk
  refine bP rfl (jv (gT h.arr (uM hx) (cM (fun hb=>?_) fun hb=>jv (gT h.arr (uM hx) (ai _ (MP x.2.1 (xI ok hx).2.2.1) ?_)))))
  ·rw[if_pos (by simpa using hb)] at hk;exact hk
  ·rw[if_neg (by simpa using hb)] at hk;exact hk)
theorem ahP {H:HP} {n b:Nat} {s:Sl} {l:List One} (h:cF H n b s l) (ok:rK l) (i c q:Int) (K:HT [(true,RSk),(false,.one .any)]→HP→Prop) (hk:K ((mM l i c q).1,er (mM l i c q).2.1,()) (H.set b (.arr jR 106) (s,(mM l i c q).2.2))):C30 (some n) i c q H K:=Yn _ _ _ _ _ _ (by
 unfold A30
 refine cI _ (VL h i) ?_
 unfold mM at hk
 cases hx:jQ l i with
 |none=>rw[hx] at hk;simp only at hk;rw[hU h.arr] at hk;exact cd rfl hk
 |some x=>
  rw[hx] at hk
  simp only at hk
  have g:=uM hx
  have cJ:=xI ok hx
  refine bP rfl (jv (gT h.arr g (cM (fun h0=>?_) fun h0=>jv (gT h.arr g (cM (fun h1=>?_) fun h1=>jv (gT h.arr g (cM (fun h2=>?_) fun h2=>jv (gT h.arr g (cM (fun h3=>?_) fun h3=>jv (gT h.arr g (cM (fun h4=>?_) fun h4=>?_)))))))))))
  ·rw[if_pos (.inl (by simpa using h0))] at hk;simp only at hk;rw[hU h.arr] at hk;exact hk
  ·rw[if_pos (.inr (.inl (by simpa using h1)))] at hk;simp only at hk;rw[hU h.arr] at hk;exact hk
  ·rw[if_pos (.inr (.inr (by simpa using h2)))] at hk;simp only at hk;rw[hU h.arr] at hk;exact hk
  all_goals
   have h0:x.1≠0:=by simpa using h0
   have h1:x.2.1.1=c:=by simpa using h1
   have h2:x.2.1.2.1=q:=by simpa using h2
   rw[if_neg (by rintro(h|h|h)<;>contradiction)] at hk
  ·have h3:x.1=1:=by simpa using h3
   rw[if_pos (by omega)] at hk;simp only at hk;rw[hU h.arr] at hk;exact hk
  ·have h4:x.1=2:=by simpa using h4
   rw[if_pos (by omega)] at hk;simp only at hk;rw[hU h.arr] at hk;exact hk
  ·have h3:x.1≠1:=by simpa using h3
   have h4:x.1≠2:=by simpa using h4
   rw[if_neg (by have:=cJ.1;omega)] at hk
   refine jv (gT h.arr g (jv (gT h.arr g (jv (wJ h.arr g (cM (fun h5=>?_) fun h5=>?_))))))
   ·rw[if_pos (by simpa using h5)] at hk;exact hk
   ·rw[if_neg (by simpa using h5)] at hk;exact hk)
theorem Ss {H:HP} {n b:Nat} {s:Sl} {l:List One} (h:cF H n b s l) (K:HT [(false,.one (.int .i64))]→HP→Prop) (hk:K ((l.length:Int),()) H):C71 (some n) H K:=Yp _ _ _ (by
 unfold A71
 refine ax (aF h.bo ?_)
 show K (((s.len:Nat):Int),()) H
 rw[h.bR.len];exact hk)
theorem ahK {H:HP} (m:Int) (K:HT [(false,.ref),(false,.one .any)]→HP→Prop) (h0:¬(1≤m∧m≤32)→K (none,er 1,()) H)
 (h1:1≤m→m≤32→∀n b s (H':HP),H.le H'→H n=none→H b=none→cF H' n b s (List.replicate m.toNat vO)→K (some n,er 0,()) H'):C18 m H K:=Ye _ _ _ (by
 unfold A18
 refine fW (fun h=>h0 (by have h:m<1:=h;omega)) fun h=>fW (fun h'=>h0 (by have h:m>32:=h';omega)) fun h'=>?_
 have h:¬m<1:=h
 have h':¬m>32:=h'
 refine⟨by omega,Int.le_refl _,by omega,by omega,?_⟩
 refine xT (fun e=>?_) fun s b hb hs n hn=>?_
 ·have:=congrArg List.length e
  simp at this
  omega
 ·have vZ:n≠b:=fun e=>by subst e;rw[cq] at hn;cases hn
  have ZZ:H n=none:=by rw[di vZ] at hn;exact hn
  refine h1 (by omega) (by omega) n b s _ ((dI hb).trans (dI hn)) ZZ hb ⟨cq _ _ _ _,?_,by simpa using hs,by simp;omega⟩
  show((_:HP).set n _ _) b=_
  rw[di (Ne.symm vZ)]
  exact cq _ _ _ _)
abbrev mg:AK:=.cons (.one (.int .i64)) (.cons (.one (.int .u64)) (.cons (.one (.int .i64)) (.one (.int .i64))))
def qk (w now:Int):Bool:=decide (0≤w)&&(decide (0≤now)&&decide (now≤1099511627776))
theorem Ze (w now:Int):S44 w now (qk w now,()):=aeV w now fun H K hk=>by
 unfold A44
 unfold qk at hk
 refine fW (fun h=>fW (fun h'=>?_) fun h'=>?_) fun h=>?_
 ·rw[decide_eq_true (show 0≤w from h),decide_eq_true (show 0≤now from h')] at hk;exact hk
 ·rw[decide_eq_true (show 0≤w from h),decide_eq_false (show ¬0≤now from h')] at hk;exact hk
 ·rw[decide_eq_false (show ¬0≤w from h)] at hk;exact hk
def fy (x:mg.T) (now:Int):Int×Bool:=if x.2.2.1= -1∨x.2.2.2≤now then(0,false) else(x.2.2.1,true)
theorem Qo {H:HP} {n:Nat} {x:mg.T} (hn:H n=some ⟨mg,x⟩) (now:Int) (K:HT [(false,.one (.int .i64)),(false,.one .bool)]→HP→Prop) (hk:K ((fy x now).1,(fy x now).2,()) H):C45 (some n) now H K:=Xy _ _ _ _ (by
 unfold A45
 unfold fy at hk
 refine ax (aF hn (oK (fun h=>?_) fun h=>ax (aF hn (fW (fun h'=>?_) fun h'=>ax (aF hn ?_)))))
 ·rw[if_pos (.inl h)] at hk;exact hk
 ·rw[if_pos (.inr h')] at hk;exact hk
 ·rw[if_neg (fun hh=>hh.elim h h')] at hk;exact hk)
theorem Ut {H:HP} {n:Nat} {x:mg.T} (hn:H n=some ⟨mg,x⟩) (hw:0≤x.2.2.1) (K:HT [(false,.one .any)]→HP→Prop) (hk:K (er 0,()) H):C54 (some n) x.2.2.1 x.2.1 H K:=Xz _ _ _ _ _ (by
 unfold A54
 exact fW (fun h=>absurd h (Int.not_lt.2 hw)) fun _=>ax (aF hn (WI (fun h=>absurd rfl h) fun _=>ax (aF hn (WI (fun h=>absurd rfl h) fun _=>hk)))))
theorem Ll {H:HP} {n:Nat} {x:mg.T} (hn:H n=some ⟨mg,x⟩) (hw:0≤x.2.2.1) (K:HT [(false,.one .any)]→HP→Prop) (hk:K (er 0,()) (H.set n mg (x.1,x.2.1,-1,x.2.2.2))):C27 (some n) x.2.2.1 x.2.1 H K:=XA _ _ _ _ _ (by
 unfold A27
 exact cI _ (Ut hn hw) ⟨rfl,bP rfl (ax (aF hn hk))⟩)
theorem ahI {H:HP} (m:Int) (K:HT [(false,.ref),(false,.one .any)]→HP→Prop) (h0:¬(1≤m∧m≤1000)→K (none,er 1,()) H) (h1:1≤m→m≤1000→∀n,H n=none→K (some n,er 0,()) (H.set n mg (m,0,-1,0))):C19 m H K:=Xw _ _ _ (by
 unfold A19
 refine fW (fun h=>h0 (by have h:m<1:=h;omega)) fun h=>fW (fun h'=>h0 (by have h:m>1000:=h';omega)) fun h'=>?_
 have h:¬m<1:=h
 have h':¬m>1000:=h'
 intro n hn
 exact h1 (by omega) (by omega) n hn)
theorem Zf {H:HP} {n:Nat} {x:mg.T} (hn:H n=some ⟨mg,x⟩) (w now:Int) (K:HT [(false,.one (.int .u64)),(false,.one .any)]→HP→Prop) (h1:qk w now=false→K (0,er 1,()) H)
 (h7:qk w now=true→(fy x now).2=true→(fy x now).1≠w→K (0,er 7,()) H)
 (hk:qk w now=true→¬((fy x now).2=true∧(fy x now).1≠w)→∀e,K (e,er 0,()) (H.set n mg (x.1,e,w,IntKind.i64.wrap (now+x.1)))):C25 (some n) w now H K:=Xx _ _ _ _ _ (by
 unfold A25
 refine ai _ (Ze w now) (bN (fun h=>h1 h) fun hf=>cI _ (Qo hn now) ?_)
 have fin:∀(H':HP) (y:mg.T),H' n=some ⟨mg,y⟩→(∀z,H'.set n mg z=H.set n mg z)→y.1=x.1→¬((fy x now).2=true∧(fy x now).1≠w)→K (y.2.1,er 0,()) ((H'.set n mg (y.1,y.2.1,w,y.2.2.2)).set n mg (y.1,y.2.1,w,IntKind.i64.wrap (now+y.1))):=fun H' y hy hs he hh=>by
  rw[nT,hs,he]
  exact hk hf hh _
 refine cM (fun hh=>WI (fun bb=>h7 hf hh bb) fun heq=>?_) fun hh=>?_
 all_goals
  have dz:¬((fy x now).2=true∧(fy x now).1≠w):=by first|exact fun h=>h.2 heq|exact fun h=>absurd (h.1.symm.trans hh) (by decide)
  refine bf (ax (aF hn (WI (fun bb=>ax (aF hn (ax (aF hn ?_)))) fun he=>?_)))
  ·refine ax (aF (cq _ _ _ _) (ax (aF (cq _ _ _ _) (ax (aF (cq _ _ _ _) (ax (aF (cq _ _ _ _) ?_)))))))
   exact fin (H.set n mg (x.1,IntKind.u64.wrap (x.2.1+1),x.2.2)) (x.1,IntKind.u64.wrap (x.2.1+1),x.2.2) (cq _ _ _ _) (fun z=>nT _ _ _ _ _ _) rfl dz
  ·refine ax (aF hn (ax (aF hn (ax (aF (cq _ _ _ _) (ax (aF (cq _ _ _ _) ?_)))))))
   exact fin H x hn (fun _=>rfl) rfl dz)
set_option maxHeartbeats 0
def fU:TypeId→Option AK
 |192=>some (k_)
 |95=>some ((.one .sl))
 |3=>some ((.one (.int .i64)))
 |37=>some (aM)
 |101=>some (iP)
 |_=>none
def fV:FuncId→Option oW
 |22=>some ⟨M5,Ej,0⟩
 |35=>some ⟨QX,M_,0⟩
 |48=>some ⟨P48,QZ,1⟩
 |63=>some ⟨P63,V3,1⟩
 |64=>some ⟨P64,Ng,0⟩
 |67=>some ⟨P67,V4,1⟩
 |68=>some ⟨P68,Nh,0⟩
 |76=>some ⟨P76,V8,1⟩
 |77=>some ⟨P77,Ni,0⟩
 |78=>some ⟨P78,R78,2⟩
 |89=>some ⟨ZJ,Lq,0⟩
 |_=>none
theorem dQ:Tryz.prog.follows .mixedOrders=true:=by kernel_rfl
def A21 (H:HP) (K:HT R21→HP→Prop):Prop:=
 pd iP (⟨none,0,0⟩,⟨none,0,0⟩,0,0) H fun i1 H2=>K (some i1,()) H2
theorem Xj (H K) (h:A21 H K):C21 H K:=
 aa dQ Tryz.func21 (Eq.mp (by kernel_rfl:A21 H K=bq ⟨Tryz.prog,fV,fU,[],eD⟩ ⟨[],[]⟩ (.seq .n (.seq .n (.gh [.cls 2 iP] .n))) Tryz.f21 P21 (()) R21 H K) h)
def A76 (a0:Option Nat) (H:HP) (K:HT V8→HP→Prop):Prop:=
 ao a0 fun i1=>aJ iP i1 H fun(x2:tI)=>K (decide (((x2.1.len:Nat):Int)>0),()) H
theorem Xk (a0 H K) (h:A76 a0 H K):C76 a0 H K:=
 aa dQ Tryz.func76 (Eq.mp (by kernel_rfl:A76 a0 H K=bq ⟨Tryz.prog,fV,fU,[],eD⟩ ⟨[(6,.one .sl)],[]⟩ (.seq .n (.seq .n .n)) Tryz.f76 P76 (a0,()) V8 H K) h)
def A67 (a0:Option Nat) (H:HP) (K:HT V4→HP→Prop):Prop:=
 ao a0 fun i1=>aJ iP i1 H fun(x2:tI)=>af ((x2.2.2.1:Int)==0) (K (0,()) H) (ao a0 fun i3=>aJ iP i3 H fun(x4:tI)=>ao a0 fun i5=>aJ iP i5 H fun(x6:tI)=>dF x4.2.1 (IntKind.i64.wrap (x6.2.2.1 - 1)) 1 fun(x7:Addr)=>jg (.one (.int .i64)) x7 H fun n8=>K (n8,()) H)
theorem Xl (a0 H K) (h:A67 a0 H K):C67 a0 H K:=
 aa dQ Tryz.func67 (Eq.mp (by kernel_rfl:A67 a0 H K=bq ⟨Tryz.prog,fV,fU,[],eD⟩ ⟨[(11,.row (.one (.int .i64)))],[]⟩ (.seq .n (.seq (.seq .n (.cond (.seq .n .n) .n)) (.seq (.ord 0) .n))) Tryz.f67 P67 (a0,()) V4 H K) h)
def A63 (a0:Option Nat) (H:HP) (K:HT V3→HP→Prop):Prop:=
 ao a0 fun i1=>aJ iP i1 H fun(x2:tI)=>ao a0 fun i3=>aJ iP i3 H fun(x4:tI)=>af ((x2.2.2.1:Int)==((x4.2.1.len:Nat):Int)) (K (⟨none,0,0⟩,()) H) (ao a0 fun i5=>aJ iP i5 H fun(x6:tI)=>Z67 a0 H fun(x7:T67)=>ao a0 fun i8=>aJ iP i8 H fun(x9:tI)=>ao a0 fun i10=>aJ iP i10 H fun(br:tI)=>dF x9.2.1 br.2.2.1 1 fun(bL:Addr)=>jg (.one (.int .i64)) bL H fun vT=>ajv x6.1 14 x7.1 vT fun(l_:Sl)=>K (l_,()) H)
theorem Xm (a0 H K) (h:A63 a0 H K):C63 a0 H K:=
 aa dQ Tryz.func63 (Eq.mp (by kernel_rfl:A63 a0 H K=bq ⟨Tryz.prog,fV,fU,[],eD⟩ ⟨[(2,.one .sl),(10,.row (.one (.int .i64))),(16,.one .sl),(22,.row (.one (.int .i64))),(29,.one .sl)],[]⟩ (.seq .n (.seq (.seq (.ord 0) (.cond (.seq .n .n) .n)) (.seq (.ord 0) .n))) Tryz.f63 P63 (a0,()) V3 H K) h)
def A64 (a0:aO) (H:HP) (K:HT Ng→HP→Prop):Prop:=
 oI a0.2.2.2.1 fun(l1:od)=>oI a0.2.2.2.2.1 fun(l2:od)=>oI a0.2.2.2.2.2.1 fun(l3:od)=>oI a0.2.2.2.2.2.2.1 fun(l4:od)=>K ((a0.1,a0.2.1,a0.2.2.1,l1.1,l2.1,l3.1,l4.1,a0.2.2.2.2.2.2.2),()) H
theorem Xn (a0 H K) (h:A64 a0 H K):C64 a0 H K:=
 aa dQ Tryz.func64 (Eq.mp (by kernel_rfl:A64 a0 H K=bq ⟨Tryz.prog,fV,fU,[],eD⟩ ⟨[(4,.row .byte),(5,.row .byte),(7,.row .byte),(8,.row .byte),(10,.row .byte),(11,.row .byte),(13,.row .byte),(14,.row .byte)],[]⟩ (.seq .n (.seq (.ord 12844836833405434981253120) (.seq .n .n))) Tryz.f64 P64 (a0,()) Ng H K) h)
theorem aeP (a0) {r} (h:∀H K,K r H→A64 a0 H K):S64 a0 r:=fun H K hk=>Xn a0 H K (h H K hk)
def A68 (a0:kz) (H:HP) (K:HT Nh→HP→Prop):Prop:=
 oI a0.2.2.1 fun(l1:od)=>aP a0.2.2.2.1.length fun n2=>a9 (V:=(Unit×Unit×(List aq)×Int×Int×Unit)×(Int×Bool×List UInt8×(List aq)×Int×Unit)×(Int×Bool×Unit×Unit×Int×Unit)×Unit) (((),(),a0.2.2.2.1,n2,0,()),(a0.1,a0.2.1,l1.1,[],a0.2.2.2.2,()),(0,false,(),(),0,()),()) H fun x3 H4 B5=>af (decide (x3.1.2.2.2.2.1<x3.1.2.2.2.1)) (bT x3.1.2.2.1 x3.1.2.2.2.2.1 fun(l6:aq)=>oI l6.1 fun(l7:od)=>oI l6.2 fun(l8:od)=>cR x3.2.1.2.2.2.1.length 1 48 (B5 (((),(),x3.1.2.2.1,x3.1.2.2.2.1,IntKind.i64.wrap (x3.1.2.2.2.2.1+1),()),(x3.2.1.1,x3.2.1.2.1,x3.2.1.2.2.1,x3.2.1.2.2.2.1++[(l7.1,l8.1)],x3.2.1.2.2.2.2.1,()),(x3.2.2.1.1,x3.2.2.1.2.1,(),(),x3.2.2.1.2.2.2.2.1,()),()) H4)) (K ((x3.2.1.1,x3.2.1.2.1,x3.2.1.2.2.1,x3.2.1.2.2.2.1,x3.2.1.2.2.2.2.1),()) H4)
theorem Xo (a0 H K) (h:A68 a0 H K):C68 a0 H K:=
 aa dQ Tryz.func68 (Eq.mp (by kernel_rfl:A68 a0 H K=bq ⟨Tryz.prog,fV,fU,[],eD⟩ ⟨[(3,.row aj),(7,.row aj),(9,.row .byte),(10,.row .byte),(13,.row aj),(20,.row aj),(22,.row .byte),(23,.row .byte),(25,.row .byte),(26,.row .byte),(28,.row aj),(29,.own aj 56)],[((1,3),.own aj 56)]⟩ (.seq .n (.seq .n (.seq .n (.seq (.seq .n (.aC (.loop [1,2,13,14,15] [1,2] (.seq .n (.seq (.cond .n .n) (.seq (.aC (.seq .n (.ord 75557863725914323419136))) .n)))))) (.seq .n .n))))) Tryz.f68 P68 (a0,()) Nh H K) h)
theorem aeQ (a0) {r} (h:∀H K,K r H→A68 a0 H K):S68 a0 r:=fun H K hk=>Xo a0 H K (h H K hk)
def A46 (a0:Option Nat) (H:HP) (K:HT VY→HP→Prop):Prop:=
 Z63 a0 H fun(x1:T63)=>a9 (V:=((List aO)×Sl×Int×Int×Unit)×Unit) (([],x1.1,((x1.1.len:Nat):Int),0,()),()) H fun x2 H3 B4=>af (decide (x2.1.2.2.2.1<x2.1.2.2.1)) (dF x2.1.2.1 x2.1.2.2.2.1 14 fun(x5:Addr)=>jg FZ x5 H3 fun(x6:QV)=>Q64 (x6.2.1.1,x6.2.1.2.1,x6.2.1.2.2.1,x6.2.1.2.2.2.1,x6.2.1.2.2.2.2.1,x6.2.1.2.2.2.2.2.1,x6.2.1.2.2.2.2.2.2.1,x6.2.1.2.2.2.2.2.2.2) fun(x7:T64)=>cR x2.1.1.length 1 128 (B4 ((x2.1.1++[(x7.1.1,x7.1.2.1,x7.1.2.2.1,x7.1.2.2.2.1,x7.1.2.2.2.2.1,x7.1.2.2.2.2.2.1,x7.1.2.2.2.2.2.2.1,x7.1.2.2.2.2.2.2.2)],x2.1.2.1,x2.1.2.2.1,IntKind.i64.wrap (x2.1.2.2.2.1+1),()),()) H3)) (K (x2.1.1,()) H3)
theorem Xp (a0 H K) (h:A46 a0 H K):C46 a0 H K:=
 aa dQ Tryz.func46 (Eq.mp (by kernel_rfl:A46 a0 H K=bq ⟨Tryz.prog,fV,fU,[],eD⟩ ⟨[(2,.own aM 37),(3,.own aM 37),(7,.one .sl),(13,.own aM 37),(17,.row aM),(18,.own aM 37),(20,.own aM 37)],[]⟩ (.seq .n (.seq .n (.seq (.seq .n (.aC (.loop [3,7,8,9] [] (.seq .n (.seq (.cond .n .n) (.seq (.aC (.seq .n .n)) .n)))))) (.seq .n .n)))) Tryz.f46 P46 (a0,()) VY H K) h)
def A48 (a0:Option Nat) (H:HP) (K:HT QZ→HP→Prop):Prop:=
 ao a0 fun i1=>aJ iP i1 H fun(x2:tI)=>Z67 a0 H fun(x3:T67)=>af (decide (x2.2.2.2≥x3.1)) (K (0,(0,false,[],[],0),false,()) H) (ao a0 fun i4=>aJ iP i4 H fun(x5:tI)=>ao a0 fun i6=>aJ iP i6 H fun(x7:tI)=>dF x5.1 x7.2.2.2 14 fun(x8:Addr)=>jg FZ x8 H fun(x9:QV)=>Q68 (x9.2.2.1,x9.2.2.2.1,x9.2.2.2.2.1,x9.2.2.2.2.2.1,x9.2.2.2.2.2.2) fun(bp:T68)=>K (x9.1,(bp.1.1,bp.1.2.1,bp.1.2.2.1,bp.1.2.2.2.1,bp.1.2.2.2.2),true,()) H)
theorem Xq (a0 H K) (h:A48 a0 H K):C48 a0 H K:=
 aa dQ Tryz.func48 (Eq.mp (by kernel_rfl:A48 a0 H K=bq ⟨Tryz.prog,fV,fU,[],eD⟩ ⟨[(17,.one .sl)],[]⟩ (.seq .n (.seq (.seq (.ord 0) (.cond (.seq .n .n) .n)) (.seq (.ord 37778931862957161709568) (.seq (.ord 1180591620717411303424) .n)))) Tryz.f48 P48 (a0,()) QZ H K) h)
def A66 (a0:Option Nat) (a1:List kz) (H:HP) (K:HT R66→HP→Prop):Prop:=
 Z63 a0 H fun(x1:T63)=>af ((((x1.1.len:Nat):Int):Int)==0) (K (.iface 62 (.int .i64 10),()) H) (aP a1.length fun n2=>af (n2 !=((x1.1.len:Nat):Int)) (K (.iface 62 (.int .i64 1),()) H) (aP a1.length fun n3=>a9 (V:=(Option Nat×Sl×(List kz)×Int×Int×Unit)×Unit) ((a0,x1.1,a1,n3,0,()),()) H fun x4 H5 B6=>af (decide (x4.1.2.2.2.2.1<x4.1.2.2.2.1)) (bT x4.1.2.2.1 x4.1.2.2.2.2.1 fun(x7:kz)=>Q68 (x7.1,x7.2.1,x7.2.2.1,x7.2.2.2.1,x7.2.2.2.2) fun(x8:T68)=>dF x4.1.2.1 x4.1.2.2.2.2.1 14 fun(x9:Addr)=>xQ FZ x9 H5 fun(bp:QV) Ra=>B6 ((x4.1.1,x4.1.2.1,x4.1.2.2.1,x4.1.2.2.2.1,IntKind.i64.wrap (x4.1.2.2.2.2.1+1),()),()) (Ra (bp.1,bp.2.1,x8.1.1,x8.1.2.1,x8.1.2.2.1,x8.1.2.2.2.1,x8.1.2.2.2.2))) (ao x4.1.1 fun i12=>aJ iP i12 H5 fun(fG:tI)=>ao x4.1.1 fun i14=>aJ iP i14 H5 fun(dG:tI)=>K (.nilIface,()) (H5.set i14 iP (dG.1,dG.2.1,IntKind.i64.wrap (fG.2.2.1+1),dG.2.2.2)))))
theorem Xr (a0 a1 H K) (h:A66 a0 a1 H K):C66 a0 a1 H K:=
 aa dQ Tryz.func66 (Eq.mp (by kernel_rfl:A66 a0 a1 H K=bq ⟨Tryz.prog,fV,fU,[],eD⟩ ⟨[(1,.row dH),(4,.one .any),(5,.one .sl),(9,.one .sl),(11,.one .sl),(14,.one .any),(16,.row dH),(18,.one .sl),(21,.one .any),(22,.row dH),(29,.one .sl)],[]⟩ (.seq .n (.seq .n (.seq (.aC (.seq .n (.cond (.seq .n .n) (.seq .n (.cond (.seq .n .n) .n))))) (.seq (.seq .n (.aC (.loop [0,5,22,23,24] [] (.seq .n (.seq (.cond .n .n) (.seq (.aC (.seq .n .n)) .n)))))) (.seq .n (.seq .n .n)))))) Tryz.f66 P66 (a0,a1,()) R66 H K) h)
def A70 (a0:Option Nat) (H:HP) (K:HT R70→HP→Prop):Prop:=
 Z48 a0 H fun(x1:T48)=>af (! x1.2.2.1) (K (.iface 62 (.int .i64 10),()) H) (ao a0 fun i2=>aJ iP i2 H fun(x3:tI)=>ao a0 fun i4=>aJ iP i4 H fun(x5:tI)=>ao a0 fun i6=>aJ iP i6 (H.set i4 iP (x5.1,x5.2.1,x5.2.2.1,IntKind.i64.wrap (x3.2.2.2+1))) fun(x7:tI)=>ao a0 fun i8=>aJ iP i8 (H.set i4 iP (x5.1,x5.2.1,x5.2.2.1,IntKind.i64.wrap (x3.2.2.2+1))) fun(x9:tI)=>af ((x7.2.2.2:Int)==((x9.1.len:Nat):Int)) (ao a0 fun i10=>aJ iP i10 (H.set i4 iP (x5.1,x5.2.1,x5.2.2.1,IntKind.i64.wrap (x3.2.2.2+1))) fun(br:tI)=>K (.nilIface,()) ((H.set i4 iP (x5.1,x5.2.1,x5.2.2.1,IntKind.i64.wrap (x3.2.2.2+1))).set i10 iP (⟨none,0,0⟩,⟨none,0,0⟩,0,0))) (K (.nilIface,()) (H.set i4 iP (x5.1,x5.2.1,x5.2.2.1,IntKind.i64.wrap (x3.2.2.2+1)))))
theorem Xs (a0 H K) (h:A70 a0 H K):C70 a0 H K:=
 aa dQ Tryz.func70 (Eq.mp (by kernel_rfl:A70 a0 H K=bq ⟨Tryz.prog,fV,fU,[],eD⟩ ⟨[(2,.one .any),(14,.one .any),(29,.one .sl)],[]⟩ (.seq .n (.seq (.seq .n (.seq .n (.cond (.seq .n .n) .n))) (.seq .n (.seq (.seq (.ord 0) (.cond .n .n)) (.seq .n .n))))) Tryz.f70 P70 (a0,()) R70 H K) h)
def A53 (a0:Option Nat) (a1:List Int) (a2:List aO) (H:HP) (K:HT R53→HP→Prop):Prop:=
 Z76 a0 H fun(x1:T76)=>af x1.1 (K (.iface 62 (.int .i64 10),()) H) (aP a1.length fun n2=>aP a2.length fun n3=>af (n2 !=n3) (K (.iface 62 (.int .i64 1),()) H) (Q77 a1 a2 fun(x4:T77)=>af (! x4.1) (K (.iface 62 (.int .i64 1),()) H) (aP a2.length fun n5=>af (decide (n5>32)) (K (.iface 62 (.int .i64 2),()) H) (ao a0 fun i6=>aJ iP i6 H fun(x7:tI)=>JT FZ 139 x7.1 (H.del i6) fun(l8:List QV) H9=>JT (.one (.int .i64)) 3 x7.2.1 H9 fun(ZO:List Int) oX=>C78 a2 oX fun(Bt:T78) pA=>aP Bt.1.length fun Wd=>a9 (V:=(Unit×List Int×(List aO)×List Sl×Int×Int×Unit)×((List QV)×List Int×Int×Int×Unit)×Unit) (((),a1,a2,Bt.1,Wd,0,()),(l8,ZO,x7.2.2.1,x7.2.2.2,()),()) pA fun dG xR Q_=>af (decide (dG.1.2.2.2.2.2.1<dG.1.2.2.2.2.1)) (bT dG.1.2.2.2.1 dG.1.2.2.2.2.2.1 fun(d_:Sl)=>a9 (V:=(Unit×List Int×(List aO)×List Sl×Int×Int×Sl×Int×Int×Unit)×((List QV)×List Int×Int×Int×Unit)×Unit) (((),dG.1.2.1,dG.1.2.2.1,dG.1.2.2.2.1,dG.1.2.2.2.2.1,dG.1.2.2.2.2.2.1,d_,((d_.len:Nat):Int),0,()),(dG.2.1.1,dG.2.1.2.1,dG.2.1.2.2.1,dG.2.1.2.2.2.1,()),()) xR fun c8 uR B21=>af (decide (c8.1.2.2.2.2.2.2.2.2.1<c8.1.2.2.2.2.2.2.2.1)) (dF c8.1.2.2.2.2.2.2.1 c8.1.2.2.2.2.2.2.2.2.1 1 fun(kK:Addr)=>jg (.one (.int .i64)) kK uR fun ZR=>bT c8.1.2.1 ZR fun n24=>bT c8.1.2.2.1 ZR fun(gS:aO)=>Q64 (gS.1,gS.2.1,gS.2.2.1,gS.2.2.2.1,gS.2.2.2.2.1,gS.2.2.2.2.2.1,gS.2.2.2.2.2.2.1,gS.2.2.2.2.2.2.2) fun(gv:T64)=>cR c8.2.1.1.length 1 208 ((i6=i6)∧(B21 (((),c8.1.2.1,c8.1.2.2.1,c8.1.2.2.2.1,c8.1.2.2.2.2.1,c8.1.2.2.2.2.2.1,c8.1.2.2.2.2.2.2.1,c8.1.2.2.2.2.2.2.2.1,IntKind.i64.wrap (c8.1.2.2.2.2.2.2.2.2.1+1),()),(c8.2.1.1++[(n24,(gv.1.1,gv.1.2.1,gv.1.2.2.1,gv.1.2.2.2.1,gv.1.2.2.2.2.1,gv.1.2.2.2.2.2.1,gv.1.2.2.2.2.2.2.1,gv.1.2.2.2.2.2.2.2),0,false,[],[],0)],c8.2.1.2.1,c8.2.1.2.2.1,c8.2.1.2.2.2.1,()),()) uR))) (aP c8.2.1.1.length fun n27=>cR c8.2.1.2.1.length 1 8 ((i6=i6)∧(Q_ (((),c8.1.2.1,c8.1.2.2.1,c8.1.2.2.2.1,c8.1.2.2.2.2.1,IntKind.i64.wrap (c8.1.2.2.2.2.2.1+1),()),(c8.2.1.1,c8.2.1.2.1++[n27],c8.2.1.2.2.1,c8.2.1.2.2.2.1,()),()) uR)))) (rM FZ 139 dG.2.1.1 xR fun(xP:Sl) N2=>nbA xP i6 (rM (.one (.int .i64)) 3 dG.2.1.2.1 N2 fun(xO:Sl) H31=>nbA xO i6 (K (.nilIface,()) (H31.set i6 iP (xP,xO,dG.2.1.2.2.1,dG.2.1.2.2.2.1)))))))))
theorem Xt (a0 a1 a2 H K) (h:A53 a0 a1 a2 H K):C53 a0 a1 a2 H K:=
 aa dQ Tryz.func53 (Eq.mp (by kernel_rfl:A53 a0 a1 a2 H K=bq ⟨Tryz.prog,fV,fU,[],eD⟩ ⟨[(1,.row (.one (.int .i64))),(2,.row aM),(6,.one .any),(8,.one .sl),(14,.one .any),(16,.row (.one (.int .i64))),(18,.row aM),(22,.row (.one (.int .i64))),(23,.row aM),(27,.one .any),(29,.row aM),(32,.one .any),(33,.row aM),(34,.row (.one .sl)),(39,.one .sl),(40,.one .sl),(50,.one .sl),(51,.row (.one (.int .i64))),(55,.row aM),(61,.one .sl),(62,.own FZ 139),(70,.row (.one (.int .i64))),(74,.one .sl),(76,.row (.one (.int .i64))),(77,.own (.one (.int .i64)) 3)],[]⟩ (.seq .n (.seq (.aC (.seq .n (.cond (.seq .n .n) (.seq .n (.cond (.seq .n .n) (.seq .n (.cond (.seq .n .n) .n))))))) (.seq (.seq (.gh [.ze 0 iP,.ctk 0 0 FZ 139,.ctk 0 1 (.one (.int .i64)) 3] .n) (.aC (.loop [0,1,2,34,35,36] [0] (.seq .n (.seq (.cond .n .n) (.seq (.aC (.seq .n (.seq (.seq .n (.aC (.loop [0,1,2,34,35,36,40,41,42] [0] (.seq .n (.seq (.cond .n .n) (.seq (.aC (.seq .n (.ord 0))) .n)))))) (.ord 0)))) .n)))))) (.seq (.gh [.qC 32,.qC 33,.cls 0 iP] .n) .n)))) Tryz.f53 P53 (a0,a1,a2,()) R53 H K) h)
def A77 (a0:List Int) (a1:List aO) (H:HP) (K:HT Ni→HP→Prop):Prop:=
 aP a1.length fun n1=>a9 (V:=(List Int×(List aO)×(List aO)×Int×Int×Unit)×Unit) ((a0,a1,a1,n1,0,()),()) H fun x2 H3 B4=>af (decide (x2.1.2.2.2.2.1<x2.1.2.2.2.1)) (bT x2.1.2.2.1 x2.1.2.2.2.2.1 fun(x5:aO)=>Q22 (x5.1,x5.2.1,x5.2.2.1,x5.2.2.2.1,x5.2.2.2.2.1,x5.2.2.2.2.2.1,x5.2.2.2.2.2.2.1,x5.2.2.2.2.2.2.2) fun(x6:T22)=>af (! x6.1) (K (false,()) H3) (fe x2.1.1.length 0 x2.1.2.2.2.2.1 fun i7 i8=>bT x2.1.1 x2.1.2.2.2.2.1 fun n9=>Q89 (sub x2.1.1 i7 i8) n9 fun(bp:T89)=>af bp.1 (K (false,()) H3) (B4 ((x2.1.1,x2.1.2.1,x2.1.2.2.1,x2.1.2.2.2.1,IntKind.i64.wrap (x2.1.2.2.2.2.1+1),()),()) H3))) (aP x2.1.2.1.length fun F8=>K (decide (F8>0),()) H3)
theorem Xu (a0 a1 H K) (h:A77 a0 a1 H K):C77 a0 a1 H K:=
 aa dQ Tryz.func77 (Eq.mp (by kernel_rfl:A77 a0 a1 H K=bq ⟨Tryz.prog,fV,fU,[],eD⟩ ⟨[(0,.row (.one (.int .i64))),(1,.row aM),(7,.row aM),(18,.row (.one (.int .i64))),(20,.row (.one (.int .i64))),(21,.row (.one (.int .i64))),(28,.row aM)],[]⟩ (.seq .n (.seq (.seq .n (.aC (.loop [0,1,7,8,9] [] (.seq .n (.seq (.cond .n .n) (.seq (.aC (.seq .n (.seq (.ord 0) (.cond (.seq .n .n) .n)))) .n)))))) (.seq .n .n))) Tryz.f77 P77 (a0,a1,()) Ni H K) h)
theorem aeU (a0 a1) {r} (h:∀H K,K r H→A77 a0 a1 H K):S77 a0 a1 r:=fun H K hk=>Xu a0 a1 H K (h H K hk)
def S':TypeId→Option AK
 |192=>some (k_)
 |95=>some ((.one .sl))
 |3=>some ((.one (.int .i64)))
 |37=>some (aM)
 |_=>none
def Ta:FuncId→Option oW
 |_=>none
theorem KK:Tryz.prog.follows .mixedOrders=true:=by kernel_rfl
def A10 (a0:aO) (a1:aO) (H:HP) (K:HT MZ→HP→Prop):Prop:=
 af ((a0.1:Int)==a1.1) (af ((a0.2.1:Int)==a1.2.1) (af ((a0.2.2.1:Int)==a1.2.2.1) (af ((a0.2.2.2.2.2.2.2:Int)==a1.2.2.2.2.2.2.2) (af ((ByteArray.toList (kL a0.2.2.2.1):List UInt8)==(ByteArray.toList (kL a1.2.2.2.1))) (af ((ByteArray.toList (kL a0.2.2.2.2.1):List UInt8)==(ByteArray.toList (kL a1.2.2.2.2.1))) (af ((ByteArray.toList (kL a0.2.2.2.2.2.1):List UInt8)==(ByteArray.toList (kL a1.2.2.2.2.2.1))) (K ((ByteArray.toList (kL a0.2.2.2.2.2.2.1):List UInt8)==(ByteArray.toList (kL a1.2.2.2.2.2.2.1)),()) H) (K (false,()) H)) (K (false,()) H)) (K (false,()) H)) (K (false,()) H)) (K (false,()) H)) (K (false,()) H)) (K (false,()) H)
theorem Yd (a0 a1 H K) (h:A10 a0 a1 H K):C10 a0 a1 H K:=
 aa KK Tryz.func10 (Eq.mp (by kernel_rfl:A10 a0 a1 H K=bq ⟨Tryz.prog,Ta,S',[],iV⟩ ⟨[(33,.row .byte),(36,.row .byte),(42,.row .byte),(45,.row .byte),(51,.row .byte),(54,.row .byte),(60,.row .byte),(63,.row .byte)],[]⟩ (.seq .n (.seq .n .n)) Tryz.f10 P10 (a0,a1,()) MZ H K) h)
theorem afA (a0 a1) {r} (h:∀H K,K r H→A10 a0 a1 H K):S10 a0 a1 r:=fun H K hk=>Yd a0 a1 H K (h H K hk)
def Bq:TypeId→Option AK
 |192=>some (k_)
 |_=>none
def Br:FuncId→Option oW
 |22=>some ⟨M5,Ej,0⟩
 |36=>some ⟨QY,F2,0⟩
 |92=>some ⟨P92,R92,0⟩
 |96=>some ⟨P96,Nm,0⟩
 |97=>some ⟨P97,Nn,0⟩
 |_=>none
theorem vU:Tryz.prog.follows .mixedOrders=true:=by kernel_rfl
def A86 (a0:Bool) (a1:List UInt8) (a2:Bool) (a3:List (Int×Int×Int×List UInt8×List UInt8×List UInt8×List UInt8×Int)) (H:HP) (K:HT Nk→HP→Prop):Prop:=
 Q96 a3 fun(x1:T96)=>af (! x1.1) (K (([],false,[],false),.iface 62 (.int .i64 1),()) H) (af a0 (Q36 a1 fun(x2:T36)=>af (! x2.1) (K (([],false,[],false),.iface 62 (.int .i64 1),()) H) (bE (V:=(Bool×List UInt8×Bool×(List (Int×Int×Int×List UInt8×List UInt8×List UInt8×List UInt8×Int))×Unit×(List aq)×Int×Unit)×((List (Int×Bool×List UInt8×(List aq)×Int))×Bool×List UInt8×Bool×Unit)×Unit) (fun x3 H4=>bE (V:=(Bool×List UInt8×(List (Int×Int×Int×List UInt8×List UInt8×List UInt8×List UInt8×Int))×Unit×(List aq)×Int×Unit)×((List (Int×Bool×List UInt8×(List aq)×Int))×Bool×List UInt8×Bool×Unit)×Unit) (fun x5 H6=>Q97 x5.1.2.2.2.2.1 x5.1.2.2.1 x5.1.2.2.2.2.2.1 fun(x7:T97)=>aP x7.1.length fun n8=>bE (V:=(Bool×List UInt8×Unit×Unit×Unit)×((List (Int×Bool×List UInt8×(List aq)×Int))×Bool×List UInt8×Bool×Unit)×((List (Int×Bool×List UInt8×(List aq)×Int))×Bool×List UInt8×Bool×Unit)×Unit) (fun x9 sN=>bE (V:=(Unit×Unit×Unit)×((List (Int×Bool×List UInt8×(List aq)×Int))×Bool×List UInt8×Bool×Unit)×((List (Int×Bool×List UInt8×(List aq)×Int))×Bool×List UInt8×Bool×Unit)×Unit) (fun br qA=>K ((br.2.2.1.1,br.2.2.1.2.1,br.2.2.1.2.2.1,br.2.2.1.2.2.2.1),.nilIface,()) qA) fun F7=>af (! ((x9.2.2.1.2.1:Bool)==x9.1.1)) (F7 (((),(),()),(x9.2.1.1,x9.2.1.2.1,x9.2.1.2.2.1,x9.2.1.2.2.2.1,()),(x9.2.2.1.1,x9.2.2.1.2.1,x9.2.2.1.2.2.1,true,()),()) sN) (af x9.2.2.1.2.1 (Q92 x9.2.2.1.2.2.1 x9.1.2.1 fun(l_:T92)=>F7 (((),(),()),(x9.2.1.1,x9.2.1.2.1,x9.2.1.2.2.1,x9.2.1.2.2.2.1,()),(x9.2.2.1.1,x9.2.2.1.2.1,x9.2.2.1.2.2.1,! l_.1,()),()) sN) (F7 (((),(),()),(x9.2.1.1,x9.2.1.2.1,x9.2.1.2.2.1,x9.2.1.2.2.2.1,()),(x9.2.2.1.1,x9.2.2.1.2.1,x9.2.2.1.2.2.1,false,()),()) sN))) fun B15=>af (n8==1) (bT x7.1 0 fun(l16:aq)=>B15 ((x5.1.1,x5.1.2.1,(),(),()),(x5.2.1.1,x5.2.1.2.1,x5.2.1.2.2.1,x5.2.1.2.2.2.1,()),(x7.2.1,n8==1,l16.2,false,()),()) H6) (B15 ((x5.1.1,x5.1.2.1,(),(),()),(x5.2.1.1,x5.2.1.2.1,x5.2.1.2.2.1,x5.2.1.2.2.2.1,()),(x7.2.1,n8==1,[],false,()),()) H6)) fun Q_=>af x3.1.1 (Q_ ((x3.1.1,x3.1.2.1,x3.1.2.2.2.1,(),x3.1.2.2.2.2.2.1,1,()),(x3.2.1.1,x3.2.1.2.1,x3.2.1.2.2.1,x3.2.1.2.2.2.1,()),()) H4) (af x3.1.2.2.1 (Q_ ((x3.1.1,x3.1.2.1,x3.1.2.2.2.1,(),x3.1.2.2.2.2.2.1,1,()),(x3.2.1.1,x3.2.1.2.1,x3.2.1.2.2.1,x3.2.1.2.2.2.1,()),()) H4) (Q_ ((x3.1.1,x3.1.2.1,x3.1.2.2.2.1,(),x3.1.2.2.2.2.2.1,x3.1.2.2.2.2.2.2.1,()),(x3.2.1.1,x3.2.1.2.1,x3.2.1.2.2.1,x3.2.1.2.2.2.1,()),()) H4))) fun Q'=>af a0 (bT a3 0 fun(c8:Int×Int×Int×List UInt8×List UInt8×List UInt8×List UInt8×Int)=>cR 0 1 48 (Q' ((a0,a1,a2,a3,(),[(c8.2.2.2.1,a1)],0,()),([],false,[],false,()),()) H)) (Q' ((a0,a1,a2,a3,(),[],0,()),([],false,[],false,()),()) H))) (bE (V:=(Bool×List UInt8×Bool×(List (Int×Int×Int×List UInt8×List UInt8×List UInt8×List UInt8×Int))×Unit×(List aq)×Int×Unit)×((List (Int×Bool×List UInt8×(List aq)×Int))×Bool×List UInt8×Bool×Unit)×Unit) (fun dU oJ=>bE (V:=(Bool×List UInt8×(List (Int×Int×Int×List UInt8×List UInt8×List UInt8×List UInt8×Int))×Unit×(List aq)×Int×Unit)×((List (Int×Bool×List UInt8×(List aq)×Int))×Bool×List UInt8×Bool×Unit)×Unit) (fun kK El=>Q97 kK.1.2.2.2.2.1 kK.1.2.2.1 kK.1.2.2.2.2.2.1 fun(IY:T97)=>aP IY.1.length fun n25=>bE (V:=(Bool×List UInt8×Unit×Unit×Unit)×((List (Int×Bool×List UInt8×(List aq)×Int))×Bool×List UInt8×Bool×Unit)×((List (Int×Bool×List UInt8×(List aq)×Int))×Bool×List UInt8×Bool×Unit)×Unit) (fun gv Em=>bE (V:=(Unit×Unit×Unit)×((List (Int×Bool×List UInt8×(List aq)×Int))×Bool×List UInt8×Bool×Unit)×((List (Int×Bool×List UInt8×(List aq)×Int))×Bool×List UInt8×Bool×Unit)×Unit) (fun xP N2=>K ((xP.2.2.1.1,xP.2.2.1.2.1,xP.2.2.1.2.2.1,xP.2.2.1.2.2.2.1),.nilIface,()) N2) fun ZN=>af (! ((gv.2.2.1.2.1:Bool)==gv.1.1)) (ZN (((),(),()),(gv.2.1.1,gv.2.1.2.1,gv.2.1.2.2.1,gv.2.1.2.2.2.1,()),(gv.2.2.1.1,gv.2.2.1.2.1,gv.2.2.1.2.2.1,true,()),()) Em) (af gv.2.2.1.2.1 (Q92 gv.2.2.1.2.2.1 gv.1.2.1 fun(Bp:T92)=>ZN (((),(),()),(gv.2.1.1,gv.2.1.2.1,gv.2.1.2.2.1,gv.2.1.2.2.2.1,()),(gv.2.2.1.1,gv.2.2.1.2.1,gv.2.2.1.2.2.1,! Bp.1,()),()) Em) (ZN (((),(),()),(gv.2.1.1,gv.2.1.2.1,gv.2.1.2.2.1,gv.2.1.2.2.2.1,()),(gv.2.2.1.1,gv.2.2.1.2.1,gv.2.2.1.2.2.1,false,()),()) Em))) fun B32=>af (n25==1) (bT IY.1 0 fun(l33:aq)=>B32 ((kK.1.1,kK.1.2.1,(),(),()),(kK.2.1.1,kK.2.1.2.1,kK.2.1.2.2.1,kK.2.1.2.2.2.1,()),(IY.2.1,n25==1,l33.2,false,()),()) El) (B32 ((kK.1.1,kK.1.2.1,(),(),()),(kK.2.1.1,kK.2.1.2.1,kK.2.1.2.2.1,kK.2.1.2.2.2.1,()),(IY.2.1,n25==1,[],false,()),()) El)) fun B34=>af dU.1.1 (B34 ((dU.1.1,dU.1.2.1,dU.1.2.2.2.1,(),dU.1.2.2.2.2.2.1,1,()),(dU.2.1.1,dU.2.1.2.1,dU.2.1.2.2.1,dU.2.1.2.2.2.1,()),()) oJ) (af dU.1.2.2.1 (B34 ((dU.1.1,dU.1.2.1,dU.1.2.2.2.1,(),dU.1.2.2.2.2.2.1,1,()),(dU.2.1.1,dU.2.1.2.1,dU.2.1.2.2.1,dU.2.1.2.2.2.1,()),()) oJ) (B34 ((dU.1.1,dU.1.2.1,dU.1.2.2.2.1,(),dU.1.2.2.2.2.2.1,dU.1.2.2.2.2.2.2.1,()),(dU.2.1.1,dU.2.1.2.1,dU.2.1.2.2.1,dU.2.1.2.2.2.1,()),()) oJ))) fun B35=>af a0 (bT a3 0 fun(mO:Int×Int×Int×List UInt8×List UInt8×List UInt8×List UInt8×Int)=>cR 0 1 48 (B35 ((a0,a1,a2,a3,(),[(mO.2.2.2.1,a1)],0,()),([],false,[],false,()),()) H)) (B35 ((a0,a1,a2,a3,(),[],0,()),([],false,[],false,()),()) H)))
theorem Xb (a0 a1 a2 a3 H K) (h:A86 a0 a1 a2 a3 H K):C86 a0 a1 a2 a3 H K:=
 aa vU Tryz.func86 (Eq.mp (by kernel_rfl:A86 a0 a1 a2 a3 H K=bq ⟨Tryz.prog,Br,Bq,[],ch⟩ ⟨[(1,.row .byte),(3,.row (.cons (.one (.int .i64)) (.cons (.one (.int .i64)) (.cons (.one (.int .i64)) (.cons (.row .byte) (.cons (.row .byte) (.cons (.row .byte) (.cons (.row .byte) (.one (.int .i64)))))))))),(9,.one .any),(10,.own aj 56),(12,.row (.cons (.one (.int .i64)) (.cons (.one .bool) (.cons (.row .byte) (.cons (.row aj) (.one (.int .u64))))))),(14,.row (.cons (.one (.int .i64)) (.cons (.one (.int .i64)) (.cons (.one (.int .i64)) (.cons (.row .byte) (.cons (.row .byte) (.cons (.row .byte) (.cons (.row .byte) (.one (.int .i64)))))))))),(20,.row .byte),(26,.one .any),(28,.own aj 56),(29,.row (.cons (.one (.int .i64)) (.cons (.one (.int .i64)) (.cons (.one (.int .i64)) (.cons (.row .byte) (.cons (.row .byte) (.cons (.row .byte) (.cons (.row .byte) (.one (.int .i64)))))))))),(32,.row .byte),(33,.row .byte),(35,.row aj),(36,.own aj 56),(42,.own aj 56),(43,.row (.cons (.one (.int .i64)) (.cons (.one (.int .i64)) (.cons (.one (.int .i64)) (.cons (.row .byte) (.cons (.row .byte) (.cons (.row .byte) (.cons (.row .byte) (.one (.int .i64)))))))))),(46,.row aj),(47,.row (.cons (.one (.int .i64)) (.cons (.one .bool) (.cons (.row .byte) (.cons (.row aj) (.one (.int .u64))))))),(48,.row (.cons (.one (.int .i64)) (.cons (.one .bool) (.cons (.row .byte) (.cons (.row aj) (.one (.int .u64))))))),(49,.own aj 56),(55,.own aj 56),(58,.row .byte),(69,.row .byte),(70,.row .byte)],[]⟩ (.seq .n (.seq (.seq .n (.cond (.seq .n .n) .n)) (.seq .n (.seq .n (.join [(0,.v (.one .bool)),(1,.v (.row .byte)),(2,.v (.one .bool)),(3,.v (.row (.cons (.one (.int .i64)) (.cons (.one (.int .i64)) (.cons (.one (.int .i64)) (.cons (.row .byte) (.cons (.row .byte) (.cons (.row .byte) (.cons (.row .byte) (.one (.int .i64))))))))))),(8,.v (.bx 8 0)),(10,.v (.own aj 56)),(11,.v (.one (.int .i64)))] [(8,[.row (.cons (.one (.int .i64)) (.cons (.one .bool) (.cons (.row .byte) (.cons (.row aj) (.one (.int .u64)))))),.one .bool,.row .byte,.one .bool])] (.seq .n (.cond .n .n)) (.join [(0,.v (.one .bool)),(1,.v (.row .byte)),(3,.v (.row (.cons (.one (.int .i64)) (.cons (.one (.int .i64)) (.cons (.one (.int .i64)) (.cons (.row .byte) (.cons (.row .byte) (.cons (.row .byte) (.cons (.row .byte) (.one (.int .i64))))))))))),(8,.v (.bx 8 0)),(10,.v (.own aj 56)),(11,.v (.one (.int .i64)))] [(8,[.row (.cons (.one (.int .i64)) (.cons (.one .bool) (.cons (.row .byte) (.cons (.row aj) (.one (.int .u64)))))),.one .bool,.row .byte,.one .bool])] (.seq .n (.cond .n .n)) (.seq .n (.seq .n (.join [(0,.v (.one .bool)),(1,.v (.row .byte)),(8,.v (.bx 8 0)),(13,.v (.bx 13 0))] [(8,[.row (.cons (.one (.int .i64)) (.cons (.one .bool) (.cons (.row .byte) (.cons (.row aj) (.one (.int .u64)))))),.one .bool,.row .byte,.one .bool]),(13,[.row (.cons (.one (.int .i64)) (.cons (.one .bool) (.cons (.row .byte) (.cons (.row aj) (.one (.int .u64)))))),.one .bool,.row .byte,.one .bool])] (.seq .n (.cond .n .n)) (.join [(8,.v (.bx 8 0)),(13,.v (.bx 13 0))] [(8,[.row (.cons (.one (.int .i64)) (.cons (.one .bool) (.cons (.row .byte) (.cons (.row aj) (.one (.int .u64)))))),.one .bool,.row .byte,.one .bool]),(13,[.row (.cons (.one (.int .i64)) (.cons (.one .bool) (.cons (.row .byte) (.cons (.row aj) (.one (.int .u64)))))),.one .bool,.row .byte,.one .bool])] .n (.seq .n .n))))))))))) Tryz.f86 P86 (a0,a1,a2,a3,()) Nk H K) h)
theorem aeJ (a0 a1 a2 a3) {r} (h:∀H K,K r H→A86 a0 a1 a2 a3 H K):S86 a0 a1 a2 a3 r:=fun H K hk=>Xb a0 a1 a2 a3 H K (h H K hk)
def A96 (a0:List (Int×Int×Int×List UInt8×List UInt8×List UInt8×List UInt8×Int)) (H:HP) (K:HT Nm→HP→Prop):Prop:=
 aP a0.length fun n1=>a9 (V:=((List (Int×Int×Int×List UInt8×List UInt8×List UInt8×List UInt8×Int))×(List (Int×Int×Int×List UInt8×List UInt8×List UInt8×List UInt8×Int))×Int×Int×Unit)×Unit) ((a0,a0,n1,0,()),()) H fun x2 H3 B4=>af (decide (x2.1.2.2.2.1<x2.1.2.2.1)) (bT x2.1.2.1 x2.1.2.2.2.1 fun(x5:Int×Int×Int×List UInt8×List UInt8×List UInt8×List UInt8×Int)=>Q22 (x5.1,x5.2.1,x5.2.2.1,x5.2.2.2.1,x5.2.2.2.2.1,x5.2.2.2.2.2.1,x5.2.2.2.2.2.2.1,x5.2.2.2.2.2.2.2) fun(x6:T22)=>af (! x6.1) (K (false,()) H3) (af ((x5.2.2.1:Int)==6) (K (false,()) H3) (bT x2.1.1 0 fun(x7:Int×Int×Int×List UInt8×List UInt8×List UInt8×List UInt8×Int)=>Q92 x5.2.2.2.1 x7.2.2.2.1 fun(x8:T92)=>af (! x8.1) (K (false,()) H3) (B4 ((x2.1.1,x2.1.2.1,x2.1.2.2.1,IntKind.i64.wrap (x2.1.2.2.2.1+1),()),()) H3)))) (aP x2.1.1.length fun n9=>K (decide (n9>0),()) H3)
theorem Xc (a0 H K) (h:A96 a0 H K):C96 a0 H K:=
 aa vU Tryz.func96 (Eq.mp (by kernel_rfl:A96 a0 H K=bq ⟨Tryz.prog,Br,Bq,[],ch⟩ ⟨[(0,.row (.cons (.one (.int .i64)) (.cons (.one (.int .i64)) (.cons (.one (.int .i64)) (.cons (.row .byte) (.cons (.row .byte) (.cons (.row .byte) (.cons (.row .byte) (.one (.int .i64)))))))))),(5,.row (.cons (.one (.int .i64)) (.cons (.one (.int .i64)) (.cons (.one (.int .i64)) (.cons (.row .byte) (.cons (.row .byte) (.cons (.row .byte) (.cons (.row .byte) (.one (.int .i64)))))))))),(21,.row .byte),(22,.row (.cons (.one (.int .i64)) (.cons (.one (.int .i64)) (.cons (.one (.int .i64)) (.cons (.row .byte) (.cons (.row .byte) (.cons (.row .byte) (.cons (.row .byte) (.one (.int .i64)))))))))),(25,.row .byte),(30,.row (.cons (.one (.int .i64)) (.cons (.one (.int .i64)) (.cons (.one (.int .i64)) (.cons (.row .byte) (.cons (.row .byte) (.cons (.row .byte) (.cons (.row .byte) (.one (.int .i64))))))))))],[]⟩ (.seq .n (.seq (.seq .n (.aC (.loop [0,5,6,7] [] (.seq .n (.seq (.cond .n .n) (.seq (.aC (.seq .n (.seq (.ord 0) (.cond (.seq .n .n) .n)))) .n)))))) (.seq .n .n))) Tryz.f96 P96 (a0,()) Nm H K) h)
theorem aeK (a0) {r} (h:∀H K,K r H→A96 a0 H K):S96 a0 r:=fun H K hk=>Xc a0 H K (h H K hk)
theorem Lv {V:Type} {B:V→HP→Prop} {A:(V→HP→Prop)→Prop} (P:V→HP→Prop) (hB:∀v H,P v H→B v H) (h:∀C:V→HP→Prop,(∀v H,P v H→C v H)→A C):bE B A:=h B hB
def JV (l:List a_):Key:=match l with|[]=>[]|r::_=>r.key
theorem w6 {l:List a_} (h:0<l.length):JV l=(l[0]'h).key:=by
 cases l with
 |nil=>exact absurd h (by simp)
 |cons=>rfl
def okL (k:Key) (r:a_):Bool:=eM r&&(!((r.kind:Int)==6)&&decide (r.key=k))
def ZW (l:List a_) (j:Nat):Bool:=match l[j]? with|some p=>okL (JV l) p|none=>true
def rN (l:List a_):Bool:=decide (0<l.length)&&s_ l.length (ZW l)
theorem Rf {l:List a_} {i:Nat} (h:i<l.length):ZW l i=okL (JV l) l[i]:=by unfold ZW;rw[List.getElem?_eq_getElem h]
theorem N' (n:Nat) (f:Nat→Bool):s_ (n+1) f=(s_ n f&&f n):=by
 unfold s_
 rw[List.range_succ,List.all_append]
 simp
theorem amp (l:List a_):S96 l (rN l,()):=aeK l fun H K hk=>by
 unfold A96
 refine au fun _=>cN l.length (fun i=>((l,l,(l.length:Int),(i:Int),()),())) (fun i=>∀j,j<i→ZW l j=true) rfl (fun j h=>absurd h (Nat.not_lt_zero _)) fun i C hi hP hC=>?_
 dsimp only at hC⊢
 refine dR (fun h1=>?_) fun h1=>?_
 ·have h0:0<l.length:=by omega
  have no:ZW l i=false→K (false,()) H:=fun h=>by
   have:rN l=false:=by unfold rN;rw[su h1 h,Bool.and_false]
   rw[this] at hk;exact hk
  have e:=Rf h1
  unfold okL at e
  refine dk h1 (ai _ (xS l[i]) (bN (fun hm=>no ?_) fun hm=>oK (fun h6=>no ?_) fun h6=>b_ (i:=0) rfl (List.getElem?_eq_getElem h0) (ai _ (tc _ _) (bN (fun he=>no ?_) fun he=>?_))))
  ·rw[e,show eM l[i]=false from hm];rfl
  ·rw[e,show((l[i].kind:Int)==6)=true from beq_iff_eq.2 h6];simp
  ·rw[e,w6 h0,show decide (l[i].key=l[0].key)=false from he];simp
  ·rw[w1 (by omega)]
   refine hC h1 fun j hj=>?_
   rcases Nat.lt_or_ge j i with h3|h3
   ·exact hP j h3
   ·obtain rfl:j=i:=by omega
    rw[e,w6 h0,show decide (l[j].key=l[0].key)=true from he,show eM l[j]=true from hm,show((l[j].kind:Int)==6)=false from beq_eq_false_iff_ne.2 h6];rfl
 ·refine au fun _=>?_
  have:rN l=decide ((l.length:Int)>0):=by
   unfold rN
   rw[Oa fun j hj=>hP j (by omega),Bool.and_true]
   congr 1
   simp
  rw[←this];exact hk
abbrev Net:=List eH×Bool×Key×Bool
def acx (p:List Pr):Key:=match p with|[x]=>x.2|_=>[]
def Bz (has:Bool) (val:Key) (p:List Pr×List eH):Net:=(p.2,(p.1.length:Int)==1,acx p.1,if(((p.1.length:Int)==1)==has)=true then(if((p.1.length:Int)==1)=true then !decide (acx p.1=val) else false) else true)
def jz (has:Bool) (val:Key) (l:List a_):List Pr:=if has=true then [(JV l,val)] else []
def jT (has room:Bool):Int:=if has=true then 1 else if room=true then 1 else 0
def pf (has:Bool) (val:Key) (l:List a_):Bool:=rN l&&(!has||dC val)
def Ob (has:Bool) (val:Key) (room:Bool) (l:List a_):Net×Value×Unit:=if pf has val l=true then(Bz has val (dv (jT has room) (jz has val l) l),.nilIface,()) else(([],false,[],false),eC 1,())
theorem Rg {l:List a_} (h:rN l=true):0<l.length:=by
 unfold rN at h
 simp only[Bool.and_eq_true,decide_eq_true_eq] at h
 exact h.1
theorem Tf {l:List a_} (h:rN l=true):gC (JV l)=true:=by
 have h0:=Rg h
 unfold rN at h
 simp only[Bool.and_eq_true] at h
 have:=Tg.1 h.2 0 h0
 rw[Rf h0] at this
 unfold okL at this
 simp only[Bool.and_eq_true,Bool.not_eq_true',beq_eq_false_iff_ne] at this
 rw[w6 h0]
 exact(w7 this.1 this.2.1).1
theorem td {has:Bool} {val:Key} {l:List a_} (h:pf has val l=true):cH (jz has val l):=by
 unfold pf at h
 simp only[Bool.and_eq_true,Bool.or_eq_true,Bool.not_eq_true'] at h
 unfold jz
 cases has with
 |false=>exact cH.nil
 |true=>
  have hv:dC val=true:=by rcases h.2 with h|h;cases h;exact h
  have:=cH.nil.put (Tf h.1) hv
  exact this
theorem Gg (a8:Int) (hm:a8≤1):∀(q:List a_) {p:List Pr},cH p→p.length≤1→(dv a8 p q).1.length≤1
 |[],p,_,h=>h
 |r::q,p,hp,h=>by
  have h1:=(DK hp r a8).1
  have h2:=Ti hp r a8
  exact Gg a8 hm q h1 (by rcases h2 with h2|h2<;>omega)
theorem Tj (has room:Bool):jT has room≤1:=by cases has<;>cases room<;>decide
theorem Lw {has:Bool} {val:Key} {room:Bool} {l:List a_} (h:pf has val l=true):(dv (jT has room) (jz has val l) l).1=[]∨∃q,(dv (jT has room) (jz has val l) l).1=[q]:=by
 have:=Gg (jT has room) (Tj has room) l (td h) (by unfold jz;split<;>simp)
 generalize (dv (jT has room) (jz has val l) l).1=p at this
 match p,this with
 |[],_=>exact .inl rfl
 |[q],_=>exact .inr ⟨q,rfl⟩
 |_::_::_,h=>simp at h
theorem amq (has:Bool) (val:Key) (room:Bool) (l:List a_) (hq:l.length≤1000):S86 has val room l (Ob has val room l):=aeJ has val room l fun H K hk=>by
 unfold A86
 have no:pf has val l=false→K (([],false,[],false),eC 1,()) H:=fun h=>by
  unfold Ob at hk
  rw[if_neg (by rw[h];simp)] at hk;exact hk
 refine ai _ (amp l) (bN (fun hf=>no ?_) fun hf=>?_)
 ·unfold pf;rw[show rN l=false from hf];rfl
 have hf:rN l=true:=hf
 have h0:=Rg hf
 have yes:pf has val l=true→K (Bz has val (dv (jT has room) (jz has val l) l),.nilIface,()) H:=fun h=>by
  unfold Ob at hk
  rw[if_pos h] at hk;exact hk
 cases has with
 |true=>
  refine cd rfl (ai _ (sP val) (bN (fun hv=>no ?_) fun hv=>?_))
  ·unfold pf;rw[show dC val=false from hv];simp
  have ld:pf true val l=true:=by unfold pf;rw[hf,show dC val=true from hv];rfl
  have hk:=yes ld
  have ho:=Lw (room:=room) ld
  have hr:=td ld
  have ca:=ZX (jz true val l) l 1 hr (by simp[jz]) hq
  have er:jz true val l=[(l[0].key,val)]:=by unfold jz;rw[w6 h0];rfl
  have em:jT true room=1:=rfl
  rw[em] at hk ho
  generalize dv 1 (jz true val l) l=pa at hk ho ca
  rw[er] at ca
  obtain⟨p,a⟩:=pa
  dsimp only at ho ca
  refine bf (cd rfl (b_ (i:=0) rfl (List.getElem?_eq_getElem h0) (bM (by decide) (bf (cd rfl (ai _ ca (au fun _=>?_)))))))
  rcases ho with rfl|⟨q,rfl⟩
  ·exact bf (bP rfl (bf (cd rfl hk)))
  ·exact bf (cd rfl (b_ (i:=0) rfl rfl (bf (bP rfl (cd rfl (ai _ (tc _ _) hk))))))
 |false=>
  refine bP rfl ?_
  have ld:pf false val l=true:=by unfold pf;rw[hf];rfl
  have hk:=yes ld
  have ho:=Lw (room:=room) ld
  have hr:=td ld
  have ca:=ZX (jz false val l) l (jT false room) hr (by simp[jz]) hq
  generalize dv (jT false room) (jz false val l) l=pa at hk ho ca
  obtain⟨p,a⟩:=pa
  dsimp only at ho ca
  refine bf (bP rfl ?_)
  cases room with
  |true=>
   refine bf (bP rfl (cd rfl (ai _ ca (au fun _=>?_))))
   rcases ho with rfl|⟨q,rfl⟩
   ·exact bf (bP rfl (bf (bP rfl (bP rfl hk))))
   ·exact bf (cd rfl (b_ (i:=0) rfl rfl (bf (cd rfl hk))))
  |false=>
   refine bf (bP rfl (bP rfl (ai _ ca (au fun _=>?_))))
   rcases ho with rfl|⟨q,rfl⟩
   ·exact bf (bP rfl (bf (bP rfl (bP rfl hk))))
   ·exact bf (cd rfl (b_ (i:=0) rfl rfl (bf (cd rfl hk))))
theorem Fi {r:a_} (h:ym r=true):kS r:=by
 unfold ym at h
 simp only[Bool.and_eq_true,decide_eq_true_eq] at h
 exact⟨by omega,by omega,by omega,by omega⟩
theorem Qr (a:a_):S10 a a (true,()):=afA a a fun H K hk=>by
 unfold A10
 refine cd (by simp) (cd (by simp) (cd (by simp) (cd (by simp) (cd (by simp) (cd (by simp) (cd (by simp) ?_))))))
 rw[beq_self_eq_true];exact hk
def Xg:TypeId→Option AK
 |192=>some (k_)
 |95=>some ((.one .sl))
 |3=>some ((.one (.int .i64)))
 |37=>some (aM)
 |114=>some ((.row aM))
 |_=>none
def Xh:FuncId→Option oW
 |90=>some ⟨P90,R90,2⟩
 |91=>some ⟨ZK,Lr,0⟩
 |92=>some ⟨P92,R92,0⟩
 |_=>none
theorem N3:Tryz.prog.follows .mixedOrders=true:=by kernel_rfl
def A78 (a0:List aO) (H:HP) (K:HT R78→HP→Prop):Prop:=
 C90 a0 H fun(x1:T90) H2=>JT (.one (.int .i64)) 3 x1.1 H2 fun(l3:List Int) H4=>aP l3.length fun n5=>a9 (V:=((List aO)×List Sl×List Int×Int×Int×Unit)×Unit) ((a0,[],l3,n5,0,()),()) H4 fun x6 H7 B8=>af (decide (x6.1.2.2.2.2.1<x6.1.2.2.2.1)) (cS x6.1.2.2.2.2.1 x6.1.2.2.1.length fun i9=>gN x6.1.2.2.1 i9 fun xN=>aP x6.1.2.1.length fun F8=>af (decide ((IntKind.i64.wrap (F8 - 1))≥0)) (bT x6.1.1 xN fun(bL:aO)=>Q91 (bL.1,bL.2.1,bL.2.2.1,bL.2.2.2.1,bL.2.2.2.2.1,bL.2.2.2.2.2.1,bL.2.2.2.2.2.2.1,bL.2.2.2.2.2.2.2) fun(fG:T91)=>af ((fG.1:Int)==0) (cS (IntKind.i64.wrap (F8 - 1)) x6.1.2.1.length fun i14=>gN x6.1.2.1 i14 fun(dG:Sl)=>dF dG 0 1 fun(sO:Addr)=>jg (.one (.int .i64)) sO H7 fun n17=>bT x6.1.1 n17 fun(d_:aO)=>Q91 (d_.1,d_.2.1,d_.2.2.1,d_.2.2.2.1,d_.2.2.2.2.1,d_.2.2.2.2.2.1,d_.2.2.2.2.2.2.1,d_.2.2.2.2.2.2.2) fun(c8:T91)=>af ((c8.1:Int)==0) (bT x6.1.1 xN fun(dU:aO)=>Q92 d_.2.2.2.1 dU.2.2.2.1 fun(oZ:T92)=>af oZ.1 (cS (IntKind.i64.wrap (F8 - 1)) x6.1.2.1.length fun i22=>gN x6.1.2.1 i22 fun(gw:Sl)=>JT (.one (.int .i64)) 3 gw H7 fun(l24:List Int) H25=>cR l24.length 1 8 (rM (.one (.int .i64)) 3 (l24++[xN]) H25 fun(gv:Sl) Em=>cS (IntKind.i64.wrap (F8 - 1)) x6.1.2.1.length fun i28=>gN x6.1.2.1 i28 fun(rl:Sl)=>B8 ((x6.1.1,List.set x6.1.2.1 i28 gv,x6.1.2.2.1,x6.1.2.2.2.1,IntKind.i64.wrap (x6.1.2.2.2.2.1+1),()),()) Em)) (rM (.one (.int .i64)) 3 [xN] H7 fun(xO:Sl) H31=>cR x6.1.2.1.length 1 24 (B8 ((x6.1.1,x6.1.2.1++[xO],x6.1.2.2.1,x6.1.2.2.2.1,IntKind.i64.wrap (x6.1.2.2.2.2.1+1),()),()) H31))) (rM (.one (.int .i64)) 3 [xN] H7 fun(N1:Sl) Wg=>cR x6.1.2.1.length 1 24 (B8 ((x6.1.1,x6.1.2.1++[N1],x6.1.2.2.1,x6.1.2.2.2.1,IntKind.i64.wrap (x6.1.2.2.2.2.1+1),()),()) Wg))) (rM (.one (.int .i64)) 3 [xN] H7 fun(mn:Sl) ZQ=>cR x6.1.2.1.length 1 24 (B8 ((x6.1.1,x6.1.2.1++[mn],x6.1.2.2.1,x6.1.2.2.2.1,IntKind.i64.wrap (x6.1.2.2.2.2.1+1),()),()) ZQ))) (rM (.one (.int .i64)) 3 [xN] H7 fun(mO:Sl) F6=>cR x6.1.2.1.length 1 24 (B8 ((x6.1.1,x6.1.2.1++[mO],x6.1.2.2.1,x6.1.2.2.2.1,IntKind.i64.wrap (x6.1.2.2.2.2.1+1),()),()) F6))) (K (x6.1.2.1,()) H7)
theorem Xi (a0 H K) (h:A78 a0 H K):C78 a0 H K:=
 aa N3 Tryz.func78 (Eq.mp (by kernel_rfl:A78 a0 H K=bq ⟨Tryz.prog,Xh,Xg,[62],Fk⟩ ⟨[(0,.row aM),(2,.own (.one .sl) 35),(3,.own (.one .sl) 35),(8,.row aM),(9,.own (.one (.int .i64)) 3),(15,.own (.one .sl) 35),(21,.row aM),(28,.row aM),(29,.own (.one .sl) 35),(32,.one .sl),(42,.row .byte),(43,.row aM),(47,.row .byte),(50,.own (.one .sl) 35),(52,.own (.one .sl) 35),(55,.one .sl),(57,.one .sl),(58,.own (.one (.int .i64)) 3),(60,.own (.one .sl) 35),(62,.one .sl),(63,.row (.one .sl)),(64,.own (.one .sl) 35),(66,.own (.one .sl) 35)],[]⟩ (.seq .n (.seq .n (.seq (.seq (.lst [[],[],[.tak 9 (.one (.int .i64)) 3]]) (.aC (.loop [0,3,9,10,11] [] (.seq .n (.seq (.cond .n .n) (.seq (.aC (.seq .n (.seq .n (.seq (.seq .n (.cond (.seq .n (.seq (.ord 0) (.cond (.seq (.lst [[],[],[],[],[],[],[],[],[.tak 55 (.one (.int .i64)) 3],[.qC 3712]]) .n) .n))) .n)) (.lst [[],[],[],[.qC 3968]]))))) .n)))))) (.seq .n .n)))) Tryz.f78 P78 (a0,()) R78 H K) h)
def wY:TypeId→Option AK
 |192=>some (k_)
 |95=>some ((.one .sl))
 |3=>some ((.one (.int .i64)))
 |37=>some (aM)
 |114=>some ((.row aM))
 |_=>none
def wZ:FuncId→Option oW
 |32=>some ⟨QW,F1,0⟩
 |91=>some ⟨ZK,Lr,0⟩
 |101=>some ⟨abk,Np,2⟩
 |102=>some ⟨UJ,JI,1⟩
 |103=>some ⟨Nq,zX,0⟩
 |_=>none
theorem qB:Tryz.prog.follows .mixedOrders=true:=by kernel_rfl
def A91 (a0:aO) (H:HP) (K:HT Lr→HP→Prop):Prop:=
 af ((a0.2.2.1:Int)==6) (K (1,()) H) (K (0,()) H)
theorem Xd (a0 H K) (h:A91 a0 H K):C91 a0 H K:=
 aa qB Tryz.func91 (Eq.mp (by kernel_rfl:A91 a0 H K=bq ⟨Tryz.prog,wZ,wY,[],iV⟩ ⟨[],[]⟩ (.seq .n (.seq (.seq .n (.cond (.seq .n .n) .n)) (.seq .n .n))) Tryz.f91 ZK (a0,()) Lr H K) h)
theorem aeL (a0) {r} (h:∀H K,K r H→A91 a0 H K):S91 a0 r:=fun H K hk=>Xd a0 H K (h H K hk)
def US (a0:List Int) (H:HP) (K:HT zX→HP→Prop):Prop:=
 aP a0.length fun n1=>a9 (V:=(Int×List Int×Int×Int×Unit)×Unit) ((0,a0,n1,0,()),()) H fun x2 H3 B4=>af (decide (x2.1.2.2.2.1<x2.1.2.2.1)) (bT x2.1.2.1 x2.1.2.2.2.1 fun n5=>af (n5 !=x2.1.1) (K (n5,()) H3) (B4 ((x2.1.1,x2.1.2.1,x2.1.2.2.1,IntKind.i64.wrap (x2.1.2.2.2.1+1),()),()) H3)) (K (x2.1.1,()) H3)
theorem SH (a0 H K) (h:US a0 H K):aso a0 H K:=
 aa qB Tryz.func103 (Eq.mp (by kernel_rfl:US a0 H K=bq ⟨Tryz.prog,wZ,wY,[],iV⟩ ⟨[(0,.row (.one (.int .i64))),(6,.row (.one (.int .i64)))],[]⟩ (.seq .n (.seq .n (.seq (.seq .n (.aC (.loop [3,6,7,8] [] (.seq .n (.seq (.cond .n .n) (.seq (.aC (.seq .n (.seq .n (.cond (.seq .n .n) .n)))) .n)))))) (.seq .n .n)))) Tryz.f103 Nq (a0,()) zX H K) h)
theorem Xe (a0) {r} (h:∀H K,K r H→US a0 H K):aiU a0 r:=fun H K hk=>SH a0 H K (h H K hk)
def A90 (a0:List aO) (H:HP) (K:HT R90→HP→Prop):Prop:=
 pd (.row aM) a0 H fun i1 H2=>aJ (.row aM) i1 H2 fun(l3:List aO)=>aP l3.length fun n4=>a9 (V:=(Nat×List Int×Int×Int×Unit)×Unit) ((i1,[],n4,0,()),()) H2 fun x5 H6 B7=>af (decide (x5.1.2.2.2.1<x5.1.2.2.1)) (cR x5.1.2.1.length 1 8 (B7 ((x5.1.1,x5.1.2.1++[x5.1.2.2.2.1],x5.1.2.2.1,IntKind.i64.wrap (x5.1.2.2.2.1+1),()),()) H6)) (rM (.one (.int .i64)) 3 x5.1.2.1 H6 fun(x8:Sl) H9=>UI x8 [x5.1.1] H9 fun(bp:arW) oX=>K (x8,()) oX)
theorem Xf (a0 H K) (h:A90 a0 H K):C90 a0 H K:=
 aa qB Tryz.func90 (Eq.mp (by kernel_rfl:A90 a0 H K=bq ⟨Tryz.prog,wZ,wY,[],iV⟩ ⟨[(0,.row aM),(2,.dead),(3,.own (.one (.int .i64)) 3),(5,.row aM),(10,.own (.one (.int .i64)) 3),(12,.row (.one (.int .i64))),(13,.own (.one (.int .i64)) 3),(15,.one .sl),(18,.own (.one (.int .i64)) 3)],[]⟩ (.seq .n (.seq (.gh [.cls 1 (.row aM)] .n) (.seq (.seq .n (.aC (.loop [1,3,6,7] [1] (.seq .n (.seq (.cond .n .n) (.seq (.aC (.seq .n .n)) .n)))))) (.seq (.gh [.qC 255] .n) (.seq .n .n))))) Tryz.f90 P90 (a0,()) R90 H K) h)
def acd (a0:Int) (a1:Int) (a2:Option Nat) (H:HP) (K:HT JI→HP→Prop):Prop:=
 ao a2 fun i1=>aJ (.row aM) i1 H fun(l2:List aO)=>bT l2 a0 fun(x3:aO)=>aJ (.row aM) i1 H fun(l4:List aO)=>bT l4 a1 fun(x5:aO)=>M8 x3.2.2.2.1 x5.2.2.2.1 fun(x6:MY)=>aJ (.row aM) i1 H fun(l7:List aO)=>bT l7 a0 fun(x8:aO)=>Q91 (x8.1,x8.2.1,x8.2.2.1,x8.2.2.2.1,x8.2.2.2.2.1,x8.2.2.2.2.2.1,x8.2.2.2.2.2.2.1,x8.2.2.2.2.2.2.2) fun(x9:T91)=>aJ (.row aM) i1 H fun(ZO:List aO)=>bT ZO a1 fun(br:aO)=>Q91 (br.1,br.2.1,br.2.2.1,br.2.2.2.1,br.2.2.2.2.1,br.2.2.2.2.2.1,br.2.2.2.2.2.2.1,br.2.2.2.2.2.2.2) fun(bL:T91)=>asp [x6.1,IntKind.i64.wrap (x9.1 - bL.1)] fun(fG:arX)=>K (fG.1,()) H
theorem SI (a0 a1 a2 H K) (h:acd a0 a1 a2 H K):JJ a0 a1 a2 H K:=
 aa qB Tryz.func102 (Eq.mp (by kernel_rfl:acd a0 a1 a2 H K=bq ⟨Tryz.prog,wZ,wY,[],iV⟩ ⟨[(6,.row aM),(10,.row .byte),(11,.row aM),(15,.row .byte),(17,.row aM),(22,.row aM),(28,.row (.one (.int .i64)))],[]⟩ (.seq (.gh [.ZP 2] .n) (.seq (.ord 0) .n)) Tryz.f102 UJ (a0,a1,a2,()) JI H K) h)
def mZ:TypeId→Option AK
 |192=>some (k_)
 |95=>some ((.one .sl))
 |3=>some ((.one (.int .i64)))
 |37=>some (aM)
 |_=>none
def m0:FuncId→Option oW
 |102=>some ⟨UJ,JI,1⟩
 |121=>some ⟨abz,NF,2⟩
 |137=>some ⟨abP,NT,2⟩
 |138=>some ⟨abQ,NU,2⟩
 |148=>some ⟨abU,NW,2⟩
 |152=>some ⟨abW,NX,2⟩
 |_=>none
theorem jS:Tryz.prog.follows .mixedOrders=true:=by kernel_rfl
def U8 (a0:Sl) (a1:List Nat) (H:HP) (K:HT Np→HP→Prop):Prop:=
 abA a0 ((a0.len:Nat):Int) a1 H fun(x1:asf) H2=>K () H2
theorem Gd (a0 a1 H K) (h:U8 a0 a1 H K):UI a0 a1 H K:=
 aa jS Tryz.func101 (Eq.mp (by kernel_rfl:U8 a0 a1 H K=bq ⟨Tryz.prog,m0,mZ,[],Fk⟩ ⟨[(0,.one .sl),(4,.one .sl),(5,.one .sl)],[]⟩ .n Tryz.f101 abk (a0,a1,()) Np H K) h)
def U9 (a0:Sl) (a1:Int) (a2:List Nat) (H:HP) (K:HT NF→HP→Prop):Prop:=
 a9 (V:=(Sl×Int×List Nat×Int×Int×Int×Unit)×Unit) ((a0,a1,a2,20,0,20,()),()) H fun x1 H2 B3=>af (decide (x1.1.2.2.2.2.2.1≤x1.1.2.1)) (UR x1.1.1 x1.1.2.2.2.2.1 x1.1.2.2.2.2.2.1 x1.1.2.2.1 H2 fun(x4:aih) H5=>B3 ((x1.1.1,x1.1.2.1,x1.1.2.2.1,x1.1.2.2.2.1,x1.1.2.2.2.2.2.1,IntKind.i64.wrap (x1.1.2.2.2.2.2.1+x1.1.2.2.2.1),()),()) H5) (UR x1.1.1 x1.1.2.2.2.2.1 x1.1.2.1 x1.1.2.2.1 H2 fun(x6:aih) H7=>a9 (V:=(Sl×Int×List Nat×Int×Unit)×Unit) ((x1.1.1,x1.1.2.1,x1.1.2.2.1,x1.1.2.2.2.1,()),()) H7 fun x8 H9 En=>af (decide (x8.1.2.2.2.1<x8.1.2.1)) (a9 (V:=(Sl×Int×List Nat×Int×Int×Int×Unit)×Unit) ((x8.1.1,x8.1.2.1,x8.1.2.2.1,x8.1.2.2.2.1,0,IntKind.i64.wrap (2*x8.1.2.2.2.1),()),()) H9 fun br qA F7=>af (decide (br.1.2.2.2.2.2.1≤br.1.2.1)) (JS br.1.1 br.1.2.2.2.2.1 (IntKind.i64.wrap (br.1.2.2.2.2.1+br.1.2.2.2.1)) br.1.2.2.2.2.2.1 br.1.2.2.1 qA fun(l_:UH) H15=>F7 ((br.1.1,br.1.2.1,br.1.2.2.1,br.1.2.2.2.1,br.1.2.2.2.2.2.1,IntKind.i64.wrap (br.1.2.2.2.2.2.1+(IntKind.i64.wrap (2*br.1.2.2.2.1))),()),()) H15) (af (decide ((IntKind.i64.wrap (br.1.2.2.2.2.1+br.1.2.2.2.1))<br.1.2.1)) (JS br.1.1 br.1.2.2.2.2.1 (IntKind.i64.wrap (br.1.2.2.2.2.1+br.1.2.2.2.1)) br.1.2.1 br.1.2.2.1 qA fun(sO:UH) H17=>En ((br.1.1,br.1.2.1,br.1.2.2.1,IntKind.i64.wrap (br.1.2.2.2.1*2),()),()) H17) (En ((br.1.1,br.1.2.1,br.1.2.2.1,IntKind.i64.wrap (br.1.2.2.2.1*2),()),()) qA))) (K () H9))
theorem Ge (a0 a1 a2 H K) (h:U9 a0 a1 a2 H K):abA a0 a1 a2 H K:=
 aa jS Tryz.func121 (Eq.mp (by kernel_rfl:U9 a0 a1 a2 H K=bq ⟨Tryz.prog,m0,mZ,[],Fk⟩ ⟨[(0,.one .sl),(14,.one .sl),(23,.one .sl),(36,.one .sl),(55,.one .sl)],[]⟩ (.seq .n (.seq .n (.seq (.aC (.loop [0,1,2,6,7,8] [] (.seq (.seq .n (.cond .n .n)) (.aC (.seq .n (.seq .n .n)))))) (.seq .n (.aC (.loop [0,1,2,6] [] (.seq (.seq .n (.cond .n .n)) (.aC (.seq .n (.seq (.aC (.loop [0,1,2,6,7,8] [] (.seq (.seq .n (.cond .n .n)) (.aC (.seq .n (.seq .n .n)))))) (.seq (.seq .n (.seq .n (.cond .n .n))) .n))))))))))) Tryz.f121 abz (a0,a1,a2,()) NF H K) h)
def U_ (a0:Sl) (a1:Int) (a2:Int) (a3:List Nat) (H:HP) (K:HT NT→HP→Prop):Prop:=
 a9 (V:=(Sl×Int×Int×List Nat×Int×Unit)×Unit) ((a0,a1,a2,a3,IntKind.i64.wrap (a1+1),()),()) H fun x1 H2 B3=>af (decide (x1.1.2.2.2.2.1<x1.1.2.2.1)) (a9 (V:=(Sl×Int×Int×List Nat×Int×Int×Unit)×Unit) ((x1.1.1,x1.1.2.1,x1.1.2.2.1,x1.1.2.2.2.1,x1.1.2.2.2.2.1,x1.1.2.2.2.2.1,()),()) H2 fun x4 H5 B6=>af (decide (x4.1.2.2.2.2.2.1>x4.1.2.1)) (dF x4.1.1 x4.1.2.2.2.2.2.1 1 fun(x7:Addr)=>jg (.one (.int .i64)) x7 H5 fun n8=>dF x4.1.1 (IntKind.i64.wrap (x4.1.2.2.2.2.2.1 - 1)) 1 fun(x9:Addr)=>jg (.one (.int .i64)) x9 H5 fun xN=>By x4.1.2.2.2.1 fun i11 (Bt:List Nat)=>((Bt:List Nat)=[])∧(JJ n8 xN (some i11) H5 fun(fG:UF) F5=>af (decide (fG.1<0)) (dF x4.1.1 (IntKind.i64.wrap (x4.1.2.2.2.2.2.1 - 1)) 1 fun(dG:Addr)=>jg (.one (.int .i64)) dG F5 fun n16=>dF x4.1.1 x4.1.2.2.2.2.2.1 1 fun(gO:Addr)=>jg (.one (.int .i64)) gO F5 fun n18=>dF x4.1.1 x4.1.2.2.2.2.2.1 1 fun(c8:Addr)=>xQ (.one (.int .i64)) c8 F5 fun n20 B21=>dF x4.1.1 (IntKind.i64.wrap (x4.1.2.2.2.2.2.1 - 1)) 1 fun(kK:Addr)=>xQ (.one (.int .i64)) kK (B21 n16) fun ZR B24=>B6 ((x4.1.1,x4.1.2.1,x4.1.2.2.1,x4.1.2.2.2.1,x4.1.2.2.2.2.1,IntKind.i64.wrap (x4.1.2.2.2.2.2.1 - 1),()),()) (B24 n18)) (B3 ((x4.1.1,x4.1.2.1,x4.1.2.2.1,x4.1.2.2.2.1,IntKind.i64.wrap (x4.1.2.2.2.2.1+1),()),()) F5))) (B3 ((x4.1.1,x4.1.2.1,x4.1.2.2.1,x4.1.2.2.2.1,IntKind.i64.wrap (x4.1.2.2.2.2.1+1),()),()) H5)) (K () H2)
theorem Gf (a0 a1 a2 a3 H K) (h:U_ a0 a1 a2 a3 H K):UR a0 a1 a2 a3 H K:=
 aa jS Tryz.func137 (Eq.mp (by kernel_rfl:U_ a0 a1 a2 a3 H K=bq ⟨Tryz.prog,m0,mZ,[],Fk⟩ ⟨[(0,.one .sl),(23,.one .sl),(27,.one .sl),(37,.one .sl),(39,.one .sl),(42,.one .sl),(47,.one .sl)],[]⟩ (.seq .n (.aC (.loop [0,1,2,3,8] [] (.seq (.seq .n (.cond .n .n)) (.seq (.aC (.seq .n (.aC (.loop [0,1,2,3,8,9] [] (.seq (.seq (.ord 0) (.cond .n .n)) (.seq (.aC (.ord 163840)) .n)))))) .n))))) Tryz.f137 abP (a0,a1,a2,a3,()) NT H K) h)
def FB (a0:Sl) (a1:Int) (a2:Int) (a3:Int) (a4:List Nat) (H:HP) (K:HT NU→HP→Prop):Prop:=
 af ((IntKind.i64.wrap (a2 - a1):Int)==1) (a9 (V:=(Sl×Int×List Nat×Int×Int×Unit)×Unit) ((a0,a1,a4,a2,a3,()),()) H fun x1 H2 B3=>af (decide (x1.1.2.2.2.1<x1.1.2.2.2.2.1)) ((((0:Int)≤1))∧(dF x1.1.1 (IntKind.i64.wrap (gA .u64 (IntKind.u64.wrap (IntKind.i64.wrap (x1.1.2.2.2.1+x1.1.2.2.2.2.1))) 1)) 1 fun(x4:Addr)=>jg (.one (.int .i64)) x4 H2 fun n5=>dF x1.1.1 x1.1.2.1 1 fun(x6:Addr)=>jg (.one (.int .i64)) x6 H2 fun n7=>By x1.1.2.2.1 fun i8 (l9:List Nat)=>((l9:List Nat)=[])∧(JJ n5 n7 (some i8) H2 fun(bp:UF) oX=>af (decide (bp.1<0)) (B3 ((x1.1.1,x1.1.2.1,x1.1.2.2.1,IntKind.i64.wrap ((IntKind.i64.wrap (gA .u64 (IntKind.u64.wrap (IntKind.i64.wrap (x1.1.2.2.2.1+x1.1.2.2.2.2.1))) 1))+1),x1.1.2.2.2.2.1,()),()) oX) (B3 ((x1.1.1,x1.1.2.1,x1.1.2.2.1,x1.1.2.2.2.1,IntKind.i64.wrap (gA .u64 (IntKind.u64.wrap (IntKind.i64.wrap (x1.1.2.2.2.1+x1.1.2.2.2.2.1))) 1),()),()) oX)))) (a9 (V:=(Sl×Int×Int×Unit)×Unit) ((x1.1.1,x1.1.2.2.2.1,x1.1.2.1,()),()) H2 fun bL pA B14=>af (decide (bL.1.2.2.1<(IntKind.i64.wrap (bL.1.2.1 - 1)))) (dF bL.1.1 (IntKind.i64.wrap (bL.1.2.2.1+1)) 1 fun(dG:Addr)=>jg (.one (.int .i64)) dG pA fun n16=>dF bL.1.1 bL.1.2.2.1 1 fun(gO:Addr)=>jg (.one (.int .i64)) gO pA fun n18=>dF bL.1.1 bL.1.2.2.1 1 fun(c8:Addr)=>xQ (.one (.int .i64)) c8 pA fun n20 B21=>dF bL.1.1 (IntKind.i64.wrap (bL.1.2.2.1+1)) 1 fun(kK:Addr)=>xQ (.one (.int .i64)) kK (B21 n16) fun ZR B24=>B14 ((bL.1.1,bL.1.2.1,IntKind.i64.wrap (bL.1.2.2.1+1),()),()) (B24 n18)) (K () pA))) (af ((IntKind.i64.wrap (a3 - a2):Int)==1) (a9 (V:=(Sl×Int×List Nat×Int×Int×Unit)×Unit) ((a0,a2,a4,a1,a2,()),()) H fun gS ZM B27=>af (decide (gS.1.2.2.2.1<gS.1.2.2.2.2.1)) ((((0:Int)≤1))∧(dF gS.1.1 gS.1.2.1 1 fun(xP:Addr)=>jg (.one (.int .i64)) xP ZM fun n29=>dF gS.1.1 (IntKind.i64.wrap (gA .u64 (IntKind.u64.wrap (IntKind.i64.wrap (gS.1.2.2.2.1+gS.1.2.2.2.2.1))) 1)) 1 fun(xO:Addr)=>jg (.one (.int .i64)) xO ZM fun n31=>By gS.1.2.2.1 fun i32 (l33:List Nat)=>((l33:List Nat)=[])∧(JJ n29 n31 (some i32) ZM fun(mn:UF) ZQ=>af (! (decide (mn.1<0))) (B27 ((gS.1.1,gS.1.2.1,gS.1.2.2.1,IntKind.i64.wrap ((IntKind.i64.wrap (gA .u64 (IntKind.u64.wrap (IntKind.i64.wrap (gS.1.2.2.2.1+gS.1.2.2.2.2.1))) 1))+1),gS.1.2.2.2.2.1,()),()) ZQ) (B27 ((gS.1.1,gS.1.2.1,gS.1.2.2.1,gS.1.2.2.2.1,IntKind.i64.wrap (gA .u64 (IntKind.u64.wrap (IntKind.i64.wrap (gS.1.2.2.2.1+gS.1.2.2.2.2.1))) 1),()),()) ZQ)))) (a9 (V:=(Sl×Int×Int×Unit)×Unit) ((gS.1.1,gS.1.2.2.2.1,gS.1.2.1,()),()) ZM fun mO F6 B38=>af (decide (mO.1.2.2.1>mO.1.2.1)) (dF mO.1.1 (IntKind.i64.wrap (mO.1.2.2.1 - 1)) 1 fun(x39:Addr)=>jg (.one (.int .i64)) x39 F6 fun n40=>dF mO.1.1 mO.1.2.2.1 1 fun(Bx:Addr)=>jg (.one (.int .i64)) Bx F6 fun n42=>dF mO.1.1 mO.1.2.2.1 1 fun(IX:Addr)=>xQ (.one (.int .i64)) IX F6 fun n44 B45=>dF mO.1.1 (IntKind.i64.wrap (mO.1.2.2.1 - 1)) 1 fun(x46:Addr)=>xQ (.one (.int .i64)) x46 (B45 n40) fun n47 B48=>B38 ((mO.1.1,mO.1.2.1,IntKind.i64.wrap (mO.1.2.2.1 - 1),()),()) (B48 n42)) (K () F6))) ((((0:Int)≤1))∧(bE (V:=(Sl×Int×Int×Int×List Nat×Int×Int×Int×Int×Unit)×Unit) (fun AR H50=>a9 (V:=(Sl×Int×Int×Int×List Nat×Int×Int×Int×Int×Int×Unit)×Unit) ((AR.1.1,AR.1.2.1,AR.1.2.2.1,AR.1.2.2.2.1,AR.1.2.2.2.2.1,AR.1.2.2.2.2.2.1,AR.1.2.2.2.2.2.2.1,AR.1.2.2.2.2.2.2.2.1,AR.1.2.2.2.2.2.2.2.2.1,IntKind.i64.wrap (AR.1.2.2.2.2.2.2.1 - 1),()),()) H50 fun fv Wm B53=>af (decide (fv.1.2.2.2.2.2.2.2.1<fv.1.2.2.2.2.2.2.2.2.1)) ((((0:Int)≤1))∧(dF fv.1.1 (IntKind.i64.wrap (fv.1.2.2.2.2.2.2.2.2.2.1 - (IntKind.i64.wrap (gA .u64 (IntKind.u64.wrap (IntKind.i64.wrap (fv.1.2.2.2.2.2.2.2.1+fv.1.2.2.2.2.2.2.2.2.1))) 1)))) 1 fun(iQ:Addr)=>jg (.one (.int .i64)) iQ Wm fun n55=>dF fv.1.1 (IntKind.i64.wrap (gA .u64 (IntKind.u64.wrap (IntKind.i64.wrap (fv.1.2.2.2.2.2.2.2.1+fv.1.2.2.2.2.2.2.2.2.1))) 1)) 1 fun(x56:Addr)=>jg (.one (.int .i64)) x56 Wm fun n57=>By fv.1.2.2.2.2.1 fun i58 (l59:List Nat)=>((l59:List Nat)=[])∧(JJ n55 n57 (some i58) Wm fun(x60:UF) H61=>af (! (decide (x60.1<0))) (B53 ((fv.1.1,fv.1.2.1,fv.1.2.2.1,fv.1.2.2.2.1,fv.1.2.2.2.2.1,fv.1.2.2.2.2.2.1,fv.1.2.2.2.2.2.2.1,IntKind.i64.wrap ((IntKind.i64.wrap (gA .u64 (IntKind.u64.wrap (IntKind.i64.wrap (fv.1.2.2.2.2.2.2.2.1+fv.1.2.2.2.2.2.2.2.2.1))) 1))+1),fv.1.2.2.2.2.2.2.2.2.1,fv.1.2.2.2.2.2.2.2.2.2.1,()),()) H61) (B53 ((fv.1.1,fv.1.2.1,fv.1.2.2.1,fv.1.2.2.2.1,fv.1.2.2.2.2.1,fv.1.2.2.2.2.2.1,fv.1.2.2.2.2.2.2.1,fv.1.2.2.2.2.2.2.2.1,IntKind.i64.wrap (gA .u64 (IntKind.u64.wrap (IntKind.i64.wrap (fv.1.2.2.2.2.2.2.2.1+fv.1.2.2.2.2.2.2.2.2.1))) 1),fv.1.2.2.2.2.2.2.2.2.2.1,()),()) H61)))) (bE (V:=(Sl×Int×Int×List Nat×Int×Int×Int×Unit)×Unit) (fun vW H63=>bE (V:=(Sl×Int×List Nat×Int×Int×Unit)×Unit) (fun zf H65=>bE (V:=(Sl×Int×List Nat×Int×Int×Bool×Unit)×Unit) (fun Rb H67=>af Rb.1.2.2.2.2.2.1 (JS Rb.1.1 Rb.1.2.2.2.1 Rb.1.2.2.2.2.1 Rb.1.2.1 Rb.1.2.2.1 H67 fun(N5:UH) H69=>K () H69) (K () H67)) fun B70=>af (decide (zf.1.2.2.2.1<zf.1.2.2.2.2.1)) (B70 ((zf.1.1,zf.1.2.1,zf.1.2.2.1,zf.1.2.2.2.1,zf.1.2.2.2.2.1,decide (zf.1.2.2.2.2.1<zf.1.2.1),()),()) H65) (B70 ((zf.1.1,zf.1.2.1,zf.1.2.2.1,zf.1.2.2.2.1,zf.1.2.2.2.2.1,false,()),()) H65)) fun B71=>bE (V:=(Sl×Int×Int×List Nat×Int×Int×Int×Bool×Unit)×Unit) (fun zg H73=>af zg.1.2.2.2.2.2.2.2.1 (JS zg.1.1 zg.1.2.1 zg.1.2.2.2.2.2.1 zg.1.2.2.2.2.1 zg.1.2.2.2.1 H73 fun(x74:UH) H75=>B71 ((zg.1.1,zg.1.2.2.1,zg.1.2.2.2.1,zg.1.2.2.2.2.1,zg.1.2.2.2.2.2.2.1,()),()) H75) (B71 ((zg.1.1,zg.1.2.2.1,zg.1.2.2.2.1,zg.1.2.2.2.2.1,zg.1.2.2.2.2.2.2.1,()),()) H73)) fun B76=>af (decide (vW.1.2.1<vW.1.2.2.2.2.2.1)) (B76 ((vW.1.1,vW.1.2.1,vW.1.2.2.1,vW.1.2.2.2.1,vW.1.2.2.2.2.1,vW.1.2.2.2.2.2.1,vW.1.2.2.2.2.2.2.1,decide (vW.1.2.2.2.2.2.1<vW.1.2.2.2.2.1),()),()) H63) (B76 ((vW.1.1,vW.1.2.1,vW.1.2.2.1,vW.1.2.2.2.1,vW.1.2.2.2.2.1,vW.1.2.2.2.2.2.1,vW.1.2.2.2.2.2.2.1,false,()),()) H63)) fun B77=>bE (V:=(Sl×Int×Int×Int×List Nat×Int×Int×Int×Bool×Unit)×Unit) (fun tN H79=>af tN.1.2.2.2.2.2.2.2.2.1 (abV tN.1.1 tN.1.2.2.2.2.2.2.1 tN.1.2.2.1 tN.1.2.2.2.2.2.2.2.1 tN.1.2.2.2.2.1 H79 fun(x80:asl) H81=>B77 ((tN.1.1,tN.1.2.1,tN.1.2.2.2.1,tN.1.2.2.2.2.1,tN.1.2.2.2.2.2.1,tN.1.2.2.2.2.2.2.1,tN.1.2.2.2.2.2.2.2.1,()),()) H81) (B77 ((tN.1.1,tN.1.2.1,tN.1.2.2.2.1,tN.1.2.2.2.2.1,tN.1.2.2.2.2.2.1,tN.1.2.2.2.2.2.2.1,tN.1.2.2.2.2.2.2.2.1,()),()) H79)) fun ZU=>af (decide (fv.1.2.2.2.2.2.2.2.1<fv.1.2.2.1)) (ZU ((fv.1.1,fv.1.2.1,fv.1.2.2.1,fv.1.2.2.2.1,fv.1.2.2.2.2.1,fv.1.2.2.2.2.2.1,fv.1.2.2.2.2.2.2.2.1,IntKind.i64.wrap (fv.1.2.2.2.2.2.2.1 - fv.1.2.2.2.2.2.2.2.1),decide (fv.1.2.2.1<(IntKind.i64.wrap (fv.1.2.2.2.2.2.2.1 - fv.1.2.2.2.2.2.2.2.1))),()),()) Wm) (ZU ((fv.1.1,fv.1.2.1,fv.1.2.2.1,fv.1.2.2.2.1,fv.1.2.2.2.2.1,fv.1.2.2.2.2.2.1,fv.1.2.2.2.2.2.2.2.1,IntKind.i64.wrap (fv.1.2.2.2.2.2.2.1 - fv.1.2.2.2.2.2.2.2.1),false,()),()) Wm))) fun B83=>af (decide (a2>(IntKind.i64.wrap (gA .u64 (IntKind.u64.wrap (IntKind.i64.wrap (a1+a3))) 1)))) (B83 ((a0,a1,a2,a3,a4,IntKind.i64.wrap (gA .u64 (IntKind.u64.wrap (IntKind.i64.wrap (a1+a3))) 1),IntKind.i64.wrap ((IntKind.i64.wrap (gA .u64 (IntKind.u64.wrap (IntKind.i64.wrap (a1+a3))) 1))+a2),IntKind.i64.wrap ((IntKind.i64.wrap ((IntKind.i64.wrap (gA .u64 (IntKind.u64.wrap (IntKind.i64.wrap (a1+a3))) 1))+a2))- a3),IntKind.i64.wrap (gA .u64 (IntKind.u64.wrap (IntKind.i64.wrap (a1+a3))) 1),()),()) H) (B83 ((a0,a1,a2,a3,a4,IntKind.i64.wrap (gA .u64 (IntKind.u64.wrap (IntKind.i64.wrap (a1+a3))) 1),IntKind.i64.wrap ((IntKind.i64.wrap (gA .u64 (IntKind.u64.wrap (IntKind.i64.wrap (a1+a3))) 1))+a2),a1,a2,()),()) H))))
theorem Tc (a0 a1 a2 a3 a4 H K) (h:FB a0 a1 a2 a3 a4 H K):JS a0 a1 a2 a3 a4 H K:=
 aa jS Tryz.func138 (Eq.mp (by kernel_rfl:FB a0 a1 a2 a3 a4 H K=bq ⟨Tryz.prog,m0,mZ,[],Fk⟩ ⟨[(0,.one .sl),(4,.mo 102),(41,.one .sl),(45,.one .sl),(61,.one .sl),(63,.one .sl),(66,.one .sl),(71,.one .sl),(93,.one .sl),(97,.one .sl),(113,.one .sl),(115,.one .sl),(118,.one .sl),(123,.one .sl),(159,.one .sl),(165,.one .sl),(186,.one .sl),(200,.one .sl),(214,.one .sl)],[]⟩ (.seq (.seq .n (.cond (.seq .n (.seq .n (.seq (.aC (.loop [0,1,4,10,11] [] (.seq (.seq .n (.cond .n .n)) (.aC (.seq .n (.seq (.ord 0) (.cond .n .n))))))) (.seq (.seq .n (.aC (.loop [0,10,13] [] (.seq (.seq .n (.cond .n .n)) (.seq (.aC (.ord 163840)) .n))))) .n)))) .n)) (.seq (.seq .n (.cond (.seq .n (.seq .n (.seq (.aC (.loop [0,2,4,14,15] [] (.seq (.seq .n (.cond .n .n)) (.aC (.seq .n (.seq (.ord 0) (.cond .n .n))))))) (.seq (.seq .n (.aC (.loop [0,14,17] [] (.seq (.seq .n (.cond .n .n)) (.seq (.aC (.ord 163840)) .n))))) .n)))) .n)) (.seq .n (.seq .n (.seq .n (.join [(0,.v (.one .sl)),(1,.v (.one (.int .i64))),(2,.v (.one (.int .i64))),(3,.v (.one (.int .i64))),(4,.v (.mo 102)),(18,.v (.one (.int .i64))),(19,.v (.one (.int .i64))),(20,.v (.one (.int .i64))),(21,.v (.one (.int .i64)))] [] (.seq .n (.cond (.seq .n .n) (.seq .n .n))) (.seq .n (.seq (.aC (.loop [0,1,2,3,4,18,19,20,21,22] [] (.seq (.seq .n (.cond .n .n)) (.aC (.seq .n (.seq (.ord 0) (.cond .n .n))))))) (.seq .n (.join [(0,.v (.one .sl)),(1,.v (.one (.int .i64))),(3,.v (.one (.int .i64))),(4,.v (.mo 102)),(18,.v (.one (.int .i64))),(20,.v (.one (.int .i64))),(24,.v (.one (.int .i64)))] [] (.join [(0,.v (.one .sl)),(1,.v (.one (.int .i64))),(2,.v (.one (.int .i64))),(3,.v (.one (.int .i64))),(4,.v (.mo 102)),(18,.v (.one (.int .i64))),(20,.v (.one (.int .i64))),(24,.v (.one (.int .i64))),(185,.v (.one .bool))] [] .n (.cond .n .n)) (.join [(0,.v (.one .sl)),(3,.v (.one (.int .i64))),(4,.v (.mo 102)),(18,.v (.one (.int .i64))),(24,.v (.one (.int .i64)))] [] (.join [(0,.v (.one .sl)),(1,.v (.one (.int .i64))),(3,.v (.one (.int .i64))),(4,.v (.mo 102)),(18,.v (.one (.int .i64))),(20,.v (.one (.int .i64))),(24,.v (.one (.int .i64))),(199,.v (.one .bool))] [] .n (.cond .n .n)) (.join [(0,.v (.one .sl)),(3,.v (.one (.int .i64))),(4,.v (.mo 102)),(18,.v (.one (.int .i64))),(24,.v (.one (.int .i64))),(213,.v (.one .bool))] [] .n (.cond .n .n))))))))))))) Tryz.f138 abQ (a0,a1,a2,a3,a4,()) NU H K) h)
def acv (a0:Sl) (a1:Int) (a2:Int) (a3:Int) (a4:List Nat) (H:HP) (K:HT NW→HP→Prop):Prop:=
 a9 (V:=(Sl×Int×List Nat×Int×Int×Unit)×Unit) ((a0,a2,a4,IntKind.i64.wrap (a2 - a1),IntKind.i64.wrap (a3 - a2),()),()) H fun x1 H2 B3=>af ((x1.1.2.2.2.1:Int)!=x1.1.2.2.2.2.1) (af (decide (x1.1.2.2.2.1>x1.1.2.2.2.2.1)) (NY x1.1.1 (IntKind.i64.wrap (x1.1.2.1 - x1.1.2.2.2.1)) x1.1.2.1 x1.1.2.2.2.2.1 x1.1.2.2.1 H2 fun(x4:abj) H5=>B3 ((x1.1.1,x1.1.2.1,x1.1.2.2.1,IntKind.i64.wrap (x1.1.2.2.2.1 - x1.1.2.2.2.2.1),x1.1.2.2.2.2.1,()),()) H5) (NY x1.1.1 (IntKind.i64.wrap (x1.1.2.1 - x1.1.2.2.2.1)) (IntKind.i64.wrap ((IntKind.i64.wrap (x1.1.2.1+x1.1.2.2.2.2.1))- x1.1.2.2.2.1)) x1.1.2.2.2.1 x1.1.2.2.1 H2 fun(x6:abj) H7=>B3 ((x1.1.1,x1.1.2.1,x1.1.2.2.1,x1.1.2.2.2.1,IntKind.i64.wrap (x1.1.2.2.2.2.1 - x1.1.2.2.2.1),()),()) H7)) (NY x1.1.1 (IntKind.i64.wrap (x1.1.2.1 - x1.1.2.2.2.1)) x1.1.2.1 x1.1.2.2.2.1 x1.1.2.2.1 H2 fun(x8:abj) H9=>K () H9)
theorem Td (a0 a1 a2 a3 a4 H K) (h:acv a0 a1 a2 a3 a4 H K):abV a0 a1 a2 a3 a4 H K:=
 aa jS Tryz.func148 (Eq.mp (by kernel_rfl:acv a0 a1 a2 a3 a4 H K=bq ⟨Tryz.prog,m0,mZ,[],Fk⟩ ⟨[(0,.one .sl),(24,.one .sl),(35,.one .sl),(50,.one .sl)],[]⟩ (.seq .n (.seq .n (.seq (.aC (.loop [0,2,4,10,11] [] (.seq (.seq .n (.cond .n .n)) (.aC (.seq .n (.cond (.seq .n .n) (.seq .n .n))))))) .n))) Tryz.f148 abU (a0,a1,a2,a3,a4,()) NW H K) h)
def acw (a0:Sl) (a1:Int) (a2:Int) (a3:Int) (a4:List Nat) (H:HP) (K:HT NX→HP→Prop):Prop:=
 a9 (V:=(Sl×Int×Int×Int×Int×Unit)×Unit) ((a0,a1,a2,a3,0,()),()) H fun x1 H2 B3=>af (decide (x1.1.2.2.2.2.1<x1.1.2.2.2.1)) (dF x1.1.1 (IntKind.i64.wrap (x1.1.2.2.1+x1.1.2.2.2.2.1)) 1 fun(x4:Addr)=>jg (.one (.int .i64)) x4 H2 fun n5=>dF x1.1.1 (IntKind.i64.wrap (x1.1.2.1+x1.1.2.2.2.2.1)) 1 fun(x6:Addr)=>jg (.one (.int .i64)) x6 H2 fun n7=>dF x1.1.1 (IntKind.i64.wrap (x1.1.2.1+x1.1.2.2.2.2.1)) 1 fun(x8:Addr)=>xQ (.one (.int .i64)) x8 H2 fun n9 En=>dF x1.1.1 (IntKind.i64.wrap (x1.1.2.2.1+x1.1.2.2.2.2.1)) 1 fun(br:Addr)=>xQ (.one (.int .i64)) br (En n5) fun n12 F7=>B3 ((x1.1.1,x1.1.2.1,x1.1.2.2.1,x1.1.2.2.2.1,IntKind.i64.wrap (x1.1.2.2.2.2.1+1),()),()) (F7 n7)) (K () H2)
theorem Te (a0 a1 a2 a3 a4 H K) (h:acw a0 a1 a2 a3 a4 H K):NY a0 a1 a2 a3 a4 H K:=
 aa jS Tryz.func152 (Eq.mp (by kernel_rfl:acw a0 a1 a2 a3 a4 H K=bq ⟨Tryz.prog,m0,mZ,[],Fk⟩ ⟨[(0,.one .sl),(16,.one .sl),(20,.one .sl),(24,.one .sl),(30,.one .sl)],[]⟩ (.seq .n (.aC (.loop [0,1,2,3,10] [] (.seq (.seq .n (.cond .n .n)) (.seq (.aC (.ord 10485760)) .n))))) Tryz.f152 abW (a0,a1,a2,a3,a4,()) NX H K) h)
abbrev IK:AK:=.one (.int .i64)
abbrev Hx (H:HP) (aC t:Nat) (s:Sl) (xs:List Int):HP:=H.set aC (.arr IK t) (s,xs)
structure I0 (H:HP) (aC t:Nat) (s:Sl) (n:Nat) (c:Nat) (cmp:Int→Int→Int) (lt:Int→Int→Prop):Prop where
 bR:s.a=some ⟨aC,0,none⟩
 len:s.len=n
 pE:n≤1000000
 cmp:∀(xs:List Int) (y x:Int) (K:HT [(false,.one (.int .i64))]→HP→Prop),(lt x y∨lt y x)→K (cmp y x,()) (Hx H aC t s xs)→ae Tryz.prog 102 [(false,IK),(false,IK),(false,.ref)] (y,x,some c,()) [(false,IK)] (Hx H aC t s xs) K
section
variable {H:HP} {aC t:Nat} {s:Sl} {n c:Nat} {cmp:Int→Int→Int} {lt:Int→Int→Prop}
theorem MQ (g:I0 H aC t s n c cmp lt) {xs:List Int} {i:Nat} {x z:Int} {K:Int→Prop} (hz:z=(i:Int)) (hl:xs.length=n) (hx:xs[i]?=some x) (h:K x):dF s z 1 fun p=>jg IK p (Hx H aC t s xs) K:=
 jk g.bR hz (by rw[g.len,←hl];exact(List.getElem?_eq_some_iff.1 hx).1) (gT (cq _ _ _ _) hx h)
theorem swI (g:I0 H aC t s n c cmp lt) {xs:List Int} {p q:Nat} {xp xq zp zq:Int} {K:Int→Int→(Int→HP)→Prop} (hp:zp=(p:Int)) (hq:zq=(q:Int)) (hl:xs.length=n) (hxp:xs[p]?=some xp) (hxq:xs[q]?=some xq) (h:K xp xq fun v=>Hx H aC t s ((xs.set q xp).set p v)):
 dF s zp 1 fun a1=>jg IK a1 (Hx H aC t s xs) fun n1=>dF s zq 1 fun a2=>jg IK a2 (Hx H aC t s xs) fun n2=>dF s zq 1 fun a3=>xQ IK a3 (Hx H aC t s xs) fun _ B1=>dF s zp 1 fun a4=>xQ IK a4 (B1 n1) fun _ B2=>K n1 n2 B2:=by
 refine MQ g hp hl hxp (MQ g hq hl hxq ?_)
 refine jk g.bR hq (by rw[g.len,←hl];exact(List.getElem?_eq_some_iff.1 hxq).1) (wJ (cq _ _ _ _) hxq ?_)
 have hlp:=(List.getElem?_eq_some_iff.1 hxp).1
 refine jk g.bR hp (by rw[g.len,←hl];exact hlp) (wJ (e:=IK) (xs:=xs.set q xp) (x:=(xs.set q xp)[p]'(by rw[List.length_set];exact hlp)) (t:=t) (s:=s) ?_ (List.getElem?_eq_getElem _) ?_)
 ·exact cq _ _ _ _
 ·have e:(fun v:Int=>((Hx H aC t s xs).set aC (.arr IK t) (s,xs.set q xp)).set aC (.arr IK t) (s,(xs.set q xp).set p v))=fun v=>Hx H aC t s ((xs.set q xp).set p v):=funext fun v=>by rw[nT,nT]
  show K xp xq (fun v:Int=>((Hx H aC t s xs).set aC (.arr IK t) (s,xs.set q xp)).set aC (.arr IK t) (s,(xs.set q xp).set p v))
  rw[e]
  exact h
theorem QU (g:I0 H aC t s n c cmp lt) (P A M B Q:List Int) (yg:A.length=B.length) (hl:(P++(A++(M++(B++Q)))).length=n) {za zb zn:Int} (ha:za=(P.length:Int)) (hb:zb=((P.length+A.length+M.length:Nat):Int)) (hn:zn=(A.length:Int)) (K:HT []→HP→Prop) (hk:K () (Hx H aC t s (P++(B++(M++(A++Q)))))):
 NY s za zb zn [c] (Hx H aC t s (P++(A++(M++(B++Q))))) K:=Te _ _ _ _ _ _ _ (by
 subst ha hb hn
 unfold acw
 have kv:=g.pE
 simp only[List.length_append] at hl
 refine gY A.length (fun i v H'=>v=((s,(P.length:Int),((P.length+A.length+M.length:Nat):Int),(A.length:Int),(i:Int),()),())∧H'=Hx H aC t s (P++(B.take i++(A.drop i++(M++(A.take i++(B.drop i++Q))))))) ⟨rfl,by simp⟩ ?_
 rintro i v H' C hi ⟨rfl,rfl⟩ hC
 dsimp only at hC⊢
 refine dR (fun h1=>?_) fun h1=>?_
 ·have EF:i<B.length:=by omega
  have eA:=drop_cons h1
  have eB:=drop_cons EF
  have e:P++(B.take i++(A.drop i++(M++(A.take i++(B.drop i++Q)))))=(P++B.take i)++A[i]::((A.drop (i+1)++(M++A.take i))++B[i]::(B.drop (i+1)++Q)):=by rw[eA,eB];simp only[List.append_assoc,List.cons_append]
  have l1:(P++B.take i).length=P.length+i:=by simp;omega
  have l2:(A.drop (i+1)++(M++A.take i)).length=A.length - 1+M.length:=by simp;omega
  rw[e]
  refine swI g (p:=P.length+A.length+M.length+i) (q:=P.length+i) (by rw[wI (by omega) (by omega)];omega) (by rw[wI (by omega) (by omega)];omega) (by simp;omega) (sZ (by rw[l1,l2];omega)) (iU l1.symm) ?_
  dsimp only
  rw[xJ l1.symm (by rw[l1,l2];omega)]
  refine hC h1 _ _ ⟨by rw[w1 (by omega)],?_⟩
  rw[bH EF,bH h1]
  simp only[List.append_assoc,List.cons_append,List.nil_append]
 ·obtain rfl:i=A.length:=by omega
  have e1:B.take A.length=B:=by rw[yg,List.take_length]
  have e2:B.drop A.length=[]:=by rw[yg,List.drop_length]
  rw[e1,e2,List.take_length,List.drop_length]
  simpa using hk)
theorem ano (g:I0 H aC t s n c cmp lt) (P A B Q:List Int) (hA:A≠[]) (hB:B≠[]) (hl:(P++(A++(B++Q))).length=n) {za zm zb:Int} (ha:za=(P.length:Int)) (hm:zm=((P.length+A.length:Nat):Int)) (hb:zb=((P.length+A.length+B.length:Nat):Int)) (K:HT []→HP→Prop) (hk:K () (Hx H aC t s (P++(B++(A++Q))))):
 abV s za zm zb [c] (Hx H aC t s (P++(A++(B++Q)))) K:=Td _ _ _ _ _ _ _ (by
 subst ha hm hb
 unfold acv
 have kv:=g.pE
 have lA:0<A.length:=List.length_pos_iff.2 hA
 have lB:0<B.length:=List.length_pos_iff.2 hB
 have uh:=hl
 simp only[List.length_append] at hl
 rw[show IntKind.i64.wrap (((P.length+A.length:Nat):Int)- (P.length:Int))=(A.length:Int) from by rw[wI (by omega) (by omega)];omega,show IntKind.i64.wrap (((P.length+A.length+B.length:Nat):Int)- ((P.length+A.length:Nat):Int))=(B.length:Int) from by rw[wI (by omega) (by omega)];omega]
 refine gG (fun v H'=>∃X A' B' Y:List Int,v=((s,((P.length+A.length:Nat):Int),[c],(A'.length:Int),(B'.length:Int),()),())∧0<A'.length∧0<B'.length∧X.length+A'.length=A.length∧H'=Hx H aC t s (P++(X++(A'++(B'++(Y++Q)))))∧X++(B'++(A'++Y))=B++A) (fun v _=>(v.1.2.2.2.1+v.1.2.2.2.2.1).toNat) ⟨[],A,B,[],rfl,lA,lB,by simp,by simp,by simp⟩ ?_
 rintro v H' ⟨X,A',B',Y,rfl,l1,l2,l3,rfl,e⟩
 dsimp only
 have eL:=congrArg List.length e
 simp only[List.length_append] at eL
 refine cM (fun bb=>fW (fun HC=>?_) fun HC=>?_) fun bb=>?_
 ·have HC:(A'.length:Int)>(B'.length:Int):=HC
  have eA:A'.take B'.length++A'.drop B'.length=A':=List.take_append_drop _ _
  have h1:(A'.take B'.length).length=B'.length:=by simp;omega
  have h2:(A'.drop B'.length).length=A'.length - B'.length:=by simp
  have e1:P++(X++(A'++(B'++(Y++Q))))=(P++X)++(A'.take B'.length++(A'.drop B'.length++(B'++(Y++Q)))):=by rw[←List.append_assoc (A'.take _),eA];simp
  rw[e1]
  refine QU g (P++X) (A'.take B'.length) (A'.drop B'.length) B' (Y++Q) h1 (by rw[←e1];simp;omega) (by rw[wI (by omega) (by omega)];simp;omega) (by simp;omega) (by rw[h1]) _ ?_
  refine⟨⟨X++B',A'.drop B'.length,A'.take B'.length,Y,?_,by omega,by omega,by simp;omega,by simp,?_⟩,?_⟩
  ·rw[wI (by omega) (by omega),h1,h2,show((A'.length - B'.length:Nat):Int)=(A'.length:Int)- (B'.length:Int) from by omega]
  ·rw[←e,←List.append_assoc (A'.take _),eA];simp
  ·rw[wI (by omega) (by omega)];omega
 ·have HC:¬(A'.length:Int)>(B'.length:Int):=HC
  have bb:(A'.length:Int)≠(B'.length:Int):=by simpa using bb
  have eB:B'.take (B'.length - A'.length)++B'.drop (B'.length - A'.length)=B':=List.take_append_drop _ _
  have h1:(B'.take (B'.length - A'.length)).length=B'.length - A'.length:=by simp
  have h2:(B'.drop (B'.length - A'.length)).length=A'.length:=by simp;omega
  have e1:P++(X++(A'++(B'++(Y++Q))))=(P++X)++(A'++(B'.take (B'.length - A'.length)++(B'.drop (B'.length - A'.length)++(Y++Q)))):=by rw[←List.append_assoc (B'.take _),eB];simp
  rw[e1]
  refine QU g (P++X) A' (B'.take (B'.length - A'.length)) (B'.drop (B'.length - A'.length)) (Y++Q) h2.symm (by rw[←e1];simp;omega) (by rw[wI (by omega) (by omega)];simp;omega) (by rw[wI (x:=((P.length+A.length:Nat):Int)+(B'.length:Int)) (by omega) (by omega),wI (by omega) (by omega)];simp;omega) rfl _ ?_
  refine⟨⟨X,B'.drop (B'.length - A'.length),B'.take (B'.length - A'.length),A'++Y,?_,by omega,by omega,by omega,by simp,?_⟩,?_⟩
  ·rw[wI (by omega) (by omega),h1,h2,show((B'.length - A'.length:Nat):Int)=(B'.length:Int)- (A'.length:Int) from by omega]
  ·rw[←e,←List.append_assoc (B'.take _),←List.append_assoc (B'.take _++_)];simp only[eB];simp
  ·rw[wI (by omega) (by omega)];omega
 ·have bb:(A'.length:Int)=(B'.length:Int):=by simpa using bb
  rw[show P++(X++(A'++(B'++(Y++Q))))=(P++X)++(A'++([]++(B'++(Y++Q)))) from by simp]
  refine QU g (P++X) A' [] B' (Y++Q) (by omega) (by simp;omega) (by rw[wI (by omega) (by omega)];simp;omega) (by simp;omega) rfl _ ?_
  rw[show(P++X)++(B'++([]++(A'++(Y++Q))))=P++((X++(B'++(A'++Y)))++Q) from by simp,e]
  simpa using hk)
theorem aba (g:I0 H aC t s n c cmp lt) (P S Q:List Int) (hl:(P++(S++Q)).length=n) (ho:Dr cmp lt S) {za zb:Int} (ha:za=(P.length:Int)) (hb:zb=((P.length+S.length:Nat):Int)) (K:HT []→HP→Prop) (hk:∀C:List Int,C.Perm S→eO lt C→K () (Hx H aC t s (P++(C++Q)))):
 UR s za zb [c] (Hx H aC t s (P++(S++Q))) K:=Gf _ _ _ _ _ _ (by
 subst ha hb
 unfold U_
 have kv:=g.pE
 simp only[List.length_append] at hl
 rw[w1 (by omega)]
 refine gY S.length (fun r v H'=>∃D:List Int,v=((s,(P.length:Int),((P.length+S.length:Nat):Int),[c],((P.length+1+r:Nat):Int),()),())∧D.Perm (S.take (r+1))∧eO lt D∧H'=Hx H aC t s (P++(D++(S.drop (r+1)++Q)))) ⟨S.take 1,rfl,.refl _,?_,by rw[←List.append_assoc (S.take 1),List.take_append_drop]⟩ ?_
 ·cases S with
  |nil=>exact .nil
  |cons x S=>simp
 rintro r v H' C hr ⟨D,rfl,hp,hD,rfl⟩ hC
 dsimp only at hC⊢
 refine dR (fun h1=>?_) fun h1=>?_
 ·have aY:r+1<S.length:=by omega
  obtain⟨y,R,eS,eT,eR⟩:∃y R,S.drop (r+1)=y::R∧S.take (r+1+1)=S.take (r+1)++[y]∧S.drop (r+1+1)=R:=⟨S[r+1],S.drop (r+1+1),drop_cons aY,bH aY,rfl⟩
  rw[eT,eR] at hC
  have lR:S.length=r+1+1+R.length:=by rw[←eR,List.length_drop];omega
  have hDl:=hp.length_eq
  rw[List.length_take] at hDl
  have hpw:∀z∈D,(cmp y z<0↔lt y z)∧(lt z y∨lt y z):=fun z hz=>by
   have h:=ho.pw
   rw[←List.take_append_drop (r+1) S,eS] at h
   exact(List.pairwise_append.1 h).2.2 z (hp.subset hz) _ List.mem_cons_self
  refine gG (fun v H'=>∃D1 D2:List Int,v=((s,(P.length:Int),((P.length+S.length:Nat):Int),[c],((P.length+1+r:Nat):Int),((P.length+D1.length:Nat):Int),()),())∧D1++D2=D∧(∀z∈D2,lt y z)∧H'=Hx H aC t s (P++(D1++y::(D2++(R++Q))))) (fun v _=>v.1.2.2.2.2.2.1.toNat) ⟨D,[],?_,by simp,by simp,by rw[eS];simp⟩ ?_
  ·rw[show P.length+D.length=P.length+1+r from by omega]
  rintro v H' ⟨D1,D2,rfl,e,h2,rfl⟩
  dsimp only
  have done:(∀z∈D1,lt z y)→C ((s,(P.length:Int),((P.length+S.length:Nat):Int),[c],IntKind.i64.wrap (((P.length+1+r:Nat):Int)+1),()),()) (Hx H aC t s (P++(D1++y::(D2++(R++Q))))):=fun h=>by
   refine hC (by omega) _ _ ⟨D1++y::D2,by rw[w1 (by omega),show P.length+1+r+1=P.length+1+(r+1) from by omega],?_,?_,by simp⟩
   ·refine List.Perm.trans List.perm_middle (.trans ?_ (List.perm_append_comm (l₁:=[y])))
    exact(List.Perm.cons _ (by rw[e];exact hp))
   ·rw[←e] at hD
    have:=dB.1 hD
    refine dB.2 ⟨this.1,List.pairwise_cons.2 ⟨h2,this.2.1⟩,fun x hx y hy=>?_⟩
    rcases List.mem_cons.1 hy with rfl|hy
    ·exact h x hx
    ·exact this.2.2 x hx y hy
  refine CL (fun h3=>?_) fun h3=>?_
  ·have bb:D1≠[]:=fun e=>by subst e;simp at h3
   obtain⟨E,z,rfl⟩:∃E z,D1=E++[z]:=⟨D1.dropLast,D1.getLast bb,(List.dropLast_concat_getLast bb).symm⟩
   have lE:(E++[z]).length=E.length+1:=by simp
   have eL:=congrArg List.length e
   simp only[List.length_append,List.length_cons,List.length_nil] at eL
   have shape:P++((E++[z])++y::(D2++(R++Q)))=(P++E)++z::([]++y::(D2++(R++Q))):=by simp
   have hlen:((P++E)++z::([]++y::(D2++(R++Q)))).length=n:=by simp;omega
   have lPE:(P++E).length=P.length+E.length:=by simp
   have wj:IntKind.i64.wrap (((P.length+(E++[z]).length:Nat):Int)- 1)=((P.length+E.length:Nat):Int):=by rw[wI (by omega) (by omega)];omega
   have abc:=done
   rw[shape] at abc⊢
   rw[wj]
   refine MQ g (i:=P.length+E.length+1) (x:=y) (z:=((P.length+(E++[z]).length:Nat):Int)) (by rw[lE,Nat.add_assoc]) hlen (sZ (by rw[lPE];simp)) (MQ g (x:=z) rfl hlen (iU lPE.symm) (uw ⟨rfl,g.cmp _ _ _ _ (hpw z (by rw[←e];simp)).2 (fW (fun h4=>?_) fun h4=>?_)⟩))
   ·have h4:cmp y z<0:=h4
    refine swI g (p:=P.length+E.length) (q:=P.length+E.length+1) (zq:=((P.length+(E++[z]).length:Nat):Int)) rfl (by rw[lE,Nat.add_assoc]) hlen (iU lPE.symm) (sZ (by rw[lPE];simp)) ?_
    dsimp only
    rw[List.set_comm _ _ (by omega),xJ lPE.symm (by rw[lPE];simp)]
    refine⟨⟨E,z::D2,rfl,by rw[←e];simp,fun w hw=>?_,by simp⟩,by rw[lE];omega⟩
    rcases List.mem_cons.1 hw with rfl|hw
    ·exact(hpw w (by rw[←e];simp)).1.1 h4
    ·exact h2 w hw
   ·have h4:¬cmp y z<0:=h4
    refine abc fun w hw=>?_
    have hz:=hpw z (by rw[←e];simp)
    have uY:lt z y:=hz.2.resolve_right fun h=>h4 (hz.1.2 h)
    rcases List.mem_append.1 hw with hw|hw
    ·have:eO lt (E++[z]):=by rw[←e] at hD;exact(dB.1 hD).1
     exact ho.tr _ _ _ ((dB.1 this).2.2 w hw z (by simp)) uY
    ·obtain rfl:w=z:=by simpa using hw
     exact uY
  ·have:D1=[]:=List.eq_nil_of_length_eq_zero (by omega)
   exact done fun z hz=>by subst this;simp at hz
 ·have e:S.take (r+1)=S:=List.take_of_length_le (by omega)
  rw[e] at hp
  rw[List.drop_eq_nil_of_le (show S.length≤r+1 by omega)]
  exact hk D hp hD)
end
theorem KH (i j:Nat) (h:i+j<9223372036854775807):IntKind.i64.wrap (gA .u64 (IntKind.u64.wrap (IntKind.i64.wrap ((i:Int)+(j:Int)))) 1)=(((i+j)/2:Nat):Int):=by
 rw[jd (x:=(i:Int)+j) (by omega) (by omega)]
 have h1:IntKind.u64.wrap ((i:Int)+(j:Int))=((i+j:Nat):Int):=by
  unfold IntKind.wrap
  simp only[IntKind.signed,IntKind.bits,Bool.false_and,Bool.false_eq_true,if_false]
  omega
 rw[h1]
 have h2:gA .u64 ((i+j:Nat):Int) 1=(((i+j)/2:Nat):Int):=by
  unfold gA
  have:(2:Int)^(min ((1:Int).toNat) IntKind.u64.bits)=2:=by decide
  rw[this,Int.fdiv_eq_ediv_of_nonneg _ (by omega)]
  omega
 rw[h2,jd (by omega) (by omega)]
theorem qn {V:Type} {B:V→HP→Prop} {A:(V→HP→Prop)→Prop} (P:V→HP→Prop) (hB:∀v H,P v H→B v H) (h:∀C:V→HP→Prop,(∀v H,P v H→C v H)→A C):bE B A:=h B hB
section
variable {H:HP} {aC t:Nat} {s:Sl} {n c:Nat} {cmp:Int→Int→Int} {lt:Int→Int→Prop}
theorem Ic {lt:Int→Int→Prop} {B1 B2:List Int} {x:Int} (h:eO lt (B1++B2)) (h1:∀y∈B1,lt y x) (h2:∀y∈B2,lt x y):eO lt (B1++x::B2):=by
 have:=dB.1 h
 refine dB.2 ⟨this.1,List.pairwise_cons.2 ⟨h2,this.2.1⟩,fun y hy z hz=>?_⟩
 rcases List.mem_cons.1 hz with rfl|hz
 ·exact h1 y hy
 ·exact this.2.2 y hy z hz
theorem MR {lt:Int→Int→Prop} (tr:∀x y z,lt x y→lt y z→lt x z) {B:List Int} (hB:eO lt B) {h:Nat} (hh:h<B.length) {x:Int} (hx:lt B[h] x):∀y∈B.take (h+1),lt y x:=fun y hy=>by
 rw[bH hh] at hy
 rcases List.mem_append.1 hy with hy|hy
 ·rw[←List.take_append_drop h B,drop_cons hh] at hB
  exact tr _ _ _ ((dB.1 hB).2.2 y hy _ List.mem_cons_self) hx
 ·obtain rfl:y=B[h]:=by simpa using hy
  exact hx
theorem MS {lt:Int→Int→Prop} (tr:∀x y z,lt x y→lt y z→lt x z) {B:List Int} (hB:eO lt B) {h:Nat} (hh:h<B.length) {x:Int} (hx:lt x B[h]):∀y∈B.drop h,lt x y:=fun y hy=>by
 rw[drop_cons hh] at hy
 rw[←List.take_append_drop h B,drop_cons hh] at hB
 rcases List.mem_cons.1 hy with rfl|hy
 ·exact hx
 ·exact tr _ _ _ hx ((List.pairwise_cons.1 (dB.1 hB).2.1).1 y hy)
theorem UC (g:I0 H aC t s n c cmp lt) (P B Q:List Int) (x:Int) (hl:(P++([x]++(B++Q))).length=n) (tr:∀x y z,lt x y→lt y z→lt x z) (hB:eO lt B) (ri:oV cmp lt [x] B) (K:HT []→HP→Prop) (hk:∀C:List Int,C.Perm ([x]++B)→eO lt C→K () (Hx H aC t s (P++(C++Q)))):
 FB s (P.length:Int) ((P.length+1:Nat):Int) ((P.length+1+B.length:Nat):Int) [c] (Hx H aC t s (P++([x]++(B++Q)))) K:=by
 unfold FB
 have kv:=g.pE
 have uh:=hl
 simp only[List.length_append,List.length_cons,List.length_nil] at hl
 refine cd (by rw[wI (by omega) (by omega),beq_iff_eq];omega) ?_
 refine gG (fun v H'=>H'=Hx H aC t s (P++([x]++(B++Q)))∧∃i j:Nat,v=((s,(P.length:Int),[c],((P.length+1+i:Nat):Int),((P.length+1+j:Nat):Int),()),())∧i≤j∧j≤B.length∧(∀y∈B.take i,lt y x)∧(∀y∈B.drop j,lt x y)) (fun v _=>(v.1.2.2.2.2.1 - v.1.2.2.2.1).toNat) ⟨rfl,0,B.length,rfl,Nat.zero_le _,Nat.le_refl _,by simp,by simp⟩ ?_
 rintro v H' ⟨rfl,i,j,rfl,GO,hj,h1,h2⟩
 dsimp only
 refine dR (fun h3=>?_) fun h3=>?_
 ·rw[KH _ _ (by omega)]
  obtain⟨h,rC,zB,hh3⟩:∃h,(P.length+1+i+(P.length+1+j))/2=P.length+1+h∧i≤h∧h<j:=⟨(i+j)/2,by omega,by omega,by omega⟩
  rw[rC]
  have MT:h<B.length:=by omega
  have ri:=ri x (by simp) B[h] (List.getElem_mem MT)
  have eB:P++([x]++(B++Q))=(P++[x]++B.take h)++B[h]::(B.drop (h+1)++Q):=by
   conv=>lhs;rw[←List.take_append_drop h B,drop_cons MT]
   simp only[List.append_assoc,List.cons_append]
  refine⟨by decide,MQ g (i:=P.length+1+h) rfl uh (x:=B[h]) (by rw[eB];exact iU (by simp;omega)) (MQ g (i:=P.length) rfl uh (x:=x) (iU rfl) (uw ⟨rfl,g.cmp _ _ _ _ ri.2 (fW (fun h4=>?_) fun h4=>?_)⟩))⟩
  ·have h4:cmp B[h] x<0:=h4
   rw[w1 (by omega)]
   refine⟨⟨rfl,h+1,j,by rw[Nat.add_assoc],by omega,hj,MR tr hB MT (ri.1.1 h4),h2⟩,by omega⟩
  ·have h4:¬cmp B[h] x<0:=h4
   refine⟨⟨rfl,i,h,rfl,by omega,by omega,h1,MS tr hB MT (ri.2.resolve_right fun hc=>h4 (ri.1.2 hc))⟩,by omega⟩
 ·obtain rfl:i=j:=by omega
  have key:eO lt (B.take i++x::B.drop i):=Ic (by rw[List.take_append_drop];exact hB) h1 h2
  have perm:(B.take i++x::B.drop i).Perm ([x]++B):=by
   refine List.perm_middle.trans ?_
   rw[List.take_append_drop];exact .refl _
  have G7:=hk _ perm key
  clear hk key perm
  generalize hB1:B.take i=B1 at G7
  have hB2:B=B1++B.drop i:=by rw[←hB1,List.take_append_drop]
  generalize B.drop i=B2 at G7 hB2
  have lB1:B1.length=i:=by rw[←hB1,List.length_take];omega
  subst hB2
  simp only[List.length_append] at hl hj
  refine gY B1.length (fun r v H'=>v=((s,((P.length+1+i:Nat):Int),((P.length+r:Nat):Int),()),())∧H'=Hx H aC t s (P++(B1.take r++x::(B1.drop r++(B2++Q))))) ⟨rfl,by simp⟩ ?_
  rintro r v H' C hr ⟨rfl,rfl⟩ hC
  dsimp only at hC⊢
  rw[show IntKind.i64.wrap (((P.length+1+i:Nat):Int)- 1)=((P.length+i:Nat):Int) from by rw[wI (by omega) (by omega)];omega]
  refine dR (fun h5=>?_) fun h5=>?_
  ·have mw:r<B1.length:=by omega
   have e:P++(B1.take r++x::(B1.drop r++(B2++Q)))=(P++B1.take r)++x::([]++B1[r]::(B1.drop (r+1)++(B2++Q))):=by
    rw[drop_cons mw];simp only[List.append_assoc,List.cons_append,List.nil_append]
   have l1:(P++B1.take r).length=P.length+r:=by simp;omega
   rw[e]
   refine swI g (p:=P.length+r+1) (q:=P.length+r) (by rw[w1 (by omega)]) rfl (by simp;omega) (sZ (by rw[l1];simp)) (iU l1.symm) ?_
   dsimp only
   rw[xJ l1.symm (by rw[l1];simp)]
   refine hC mw _ _ ⟨by rw[w1 (by omega)];rfl,?_⟩
   rw[bH mw]
   simp only[List.append_assoc,List.cons_append,List.nil_append]
  ·obtain rfl:r=B1.length:=by omega
   rw[List.take_length,List.drop_length]
   simpa using G7
theorem Qx (g:I0 H aC t s n c cmp lt) (P A Q:List Int) (y:Int) (hA1:A.length≠1) (hl:(P++(A++([y]++Q))).length=n) (tr:∀x y z,lt x y→lt y z→lt x z) (hA:eO lt A) (ri:oV cmp lt A [y]) (K:HT []→HP→Prop) (hk:∀C:List Int,C.Perm (A++[y])→eO lt C→K () (Hx H aC t s (P++(C++Q)))):
 FB s (P.length:Int) ((P.length+A.length:Nat):Int) ((P.length+A.length+1:Nat):Int) [c] (Hx H aC t s (P++(A++([y]++Q)))) K:=by
 unfold FB
 have kv:=g.pE
 have uh:=hl
 simp only[List.length_append,List.length_cons,List.length_nil] at hl
 refine bP (by rw[wI (by omega) (by omega),beq_eq_false_iff_ne];omega) (cd (by rw[wI (by omega) (by omega),beq_iff_eq];omega) ?_)
 refine gG (fun v H'=>H'=Hx H aC t s (P++(A++([y]++Q)))∧∃i j:Nat,v=((s,((P.length+A.length:Nat):Int),[c],((P.length+i:Nat):Int),((P.length+j:Nat):Int),()),())∧i≤j∧j≤A.length∧(∀x∈A.take i,lt x y)∧(∀x∈A.drop j,lt y x)) (fun v _=>(v.1.2.2.2.2.1 - v.1.2.2.2.1).toNat) ⟨rfl,0,A.length,rfl,Nat.zero_le _,Nat.le_refl _,by simp,by simp⟩ ?_
 rintro v H' ⟨rfl,i,j,rfl,GO,hj,h1,h2⟩
 dsimp only
 refine dR (fun h3=>?_) fun h3=>?_
 ·rw[KH _ _ (by omega)]
  obtain⟨h,rC,zB,hh3⟩:∃h,(P.length+i+(P.length+j))/2=P.length+h∧i≤h∧h<j:=⟨(i+j)/2,by omega,by omega,by omega⟩
  rw[rC]
  have MU:h<A.length:=by omega
  have ri:=ri A[h] (List.getElem_mem MU) y (by simp)
  have eA:P++(A++([y]++Q))=(P++A.take h)++A[h]::(A.drop (h+1)++([y]++Q)):=by
   conv=>lhs;rw[←List.take_append_drop h A,drop_cons MU]
   simp only[List.append_assoc,List.cons_append]
  have eY:P++(A++([y]++Q))=(P++A)++y::Q:=by simp
  refine⟨by decide,MQ g (i:=P.length+A.length) rfl uh (x:=y) (by rw[eY];exact iU (by simp)) (MQ g (i:=P.length+h) rfl uh (x:=A[h]) (by rw[eA];exact iU (by simp;omega)) (uw ⟨rfl,g.cmp _ _ _ _ ri.2 (bN (fun h4=>?_) fun h4=>?_)⟩))⟩
  ·have h4:¬cmp y A[h]<0:=of_decide_eq_false h4
   rw[w1 (by omega)]
   refine⟨⟨rfl,h+1,j,by rw[Nat.add_assoc],by omega,hj,MR tr hA MU (ri.2.resolve_right fun hc=>h4 (ri.1.2 hc)),h2⟩,by omega⟩
  ·have h4:cmp y A[h]<0:=of_decide_eq_true h4
   refine⟨⟨rfl,i,h,rfl,by omega,by omega,h1,MS tr hA MU (ri.1.1 h4)⟩,by omega⟩
 ·obtain rfl:i=j:=by omega
  have key:eO lt (A.take i++y::A.drop i):=Ic (by rw[List.take_append_drop];exact hA) h1 h2
  have perm:(A.take i++y::A.drop i).Perm (A++[y]):=by
   refine List.perm_middle.trans ?_
   rw[List.take_append_drop];exact List.perm_append_comm (l₁:=[y])
  have G7:=hk _ perm key
  clear hk key perm
  generalize amc:A.take i=A1 at G7
  have hA2:A=A1++A.drop i:=by rw[←amc,List.take_append_drop]
  generalize A.drop i=A2 at G7 hA2
  have lA1:A1.length=i:=by rw[←amc,List.length_take];omega
  subst hA2
  simp only[List.length_append] at hl hj
  refine gY A2.length (fun r v H'=>v=((s,((P.length+i:Nat):Int),((P.length+i+(A2.length - r):Nat):Int),()),())∧H'=Hx H aC t s (P++(A1++(A2.take (A2.length - r)++y::(A2.drop (A2.length - r)++Q))))) ⟨by simp;omega,by simp⟩ ?_
  rintro r v H' C hr ⟨rfl,rfl⟩ hC
  dsimp only at hC⊢
  refine CL (fun h5=>?_) fun h5=>?_
  ·have mw:r<A2.length:=by omega
   obtain⟨q,hq⟩:∃q,A2.length - r=q+1:=⟨A2.length - r - 1,by omega⟩
   have hq2:A2.length - (r+1)=q:=by omega
   have hqA:q<A2.length:=by omega
   rw[hq2] at hC
   rw[hq]
   have e:P++(A1++(A2.take (q+1)++y::(A2.drop (q+1)++Q)))=(P++A1++A2.take q)++A2[q]::([]++y::(A2.drop (q+1)++Q)):=by
    rw[bH hqA];simp only[List.append_assoc,List.cons_append,List.nil_append]
   have l1:(P++A1++A2.take q).length=P.length+i+q:=by simp;omega
   rw[e]
   refine swI g (p:=P.length+i+q) (q:=P.length+i+q+1) (by rw[wI (by omega) (by omega)];omega) (by omega) (by simp;omega) (iU l1.symm) (sZ (by rw[l1];simp)) ?_
   dsimp only
   rw[List.set_comm _ _ (by omega),xJ l1.symm (by rw[l1];simp)]
   refine hC mw _ _ ⟨by rw[wI (by omega) (by omega),show((P.length+i+(q+1):Nat):Int)- 1=((P.length+i+q:Nat):Int) from by omega],?_⟩
   rw[drop_cons hqA]
   simp only[List.append_assoc,List.cons_append,List.nil_append]
  ·have:A2.length - r=0:=by omega
   rw[this,List.take_zero,List.drop_zero]
   simpa using G7
end
section
variable {H:HP} {aC t:Nat} {s:Sl} {n c:Nat} {cmp:Int→Int→Int} {lt:Int→Int→Prop}
theorem DF {A:List Int} {k:Nat} (hk:k≤A.length) {a:Int} (h:(A.take k).getLast?=some a):0<k∧A[k - 1]?=some a:=by
 have h0:0<k:=by
  rcases Nat.eq_zero_or_pos k with e|e
  ·subst e;simp at h
  ·exact e
 refine⟨h0,?_⟩
 rw[List.getLast?_eq_getElem?,List.length_take,Nat.min_eq_left hk,List.getElem?_take] at h
 split at h
 ·exact h
 ·cases h
theorem head_drop {A:List Int} {k:Nat} {a:Int} (h:(A.drop k).head?=some a):A[k]?=some a:=by
 rw[List.head?_drop] at h;exact h
theorem KI (g:I0 H aC t s n c cmp lt) (tr:∀x y z,lt x y→lt y z→lt x z):∀(N:Nat) (P A B Q:List Int) (K:HT []→HP→Prop),A.length+B.length≤N→A≠[]→B≠[]→(P++(A++(B++Q))).length=n→eO lt A→eO lt B→oV cmp lt A B→(∀C:List Int,C.Perm (A++B)→eO lt C→K () (Hx H aC t s (P++(C++Q))))→∀{za zm zb:Int},za=(P.length:Int)→zm=((P.length+A.length:Nat):Int)→zb=((P.length+A.length+B.length:Nat):Int)→
 JS s za zm zb [c] (Hx H aC t s (P++(A++(B++Q)))) K
 |0,P,A,B,Q,K,hN,Jy,_,_,_,_,_,_,_,_,_,_,_,_=>absurd (List.eq_nil_of_length_eq_zero (by omega)) Jy
 |N+1,P,A,B,Q,K,hN,Jy,WR,hl,hA,hB,ri,hk,za,zm,zb,ea,em,eb=>Tc _ _ _ _ _ _ _ (by
  subst ea em eb
  have lA:0<A.length:=List.length_pos_iff.2 Jy
  have lB:0<B.length:=List.length_pos_iff.2 WR
  by_cases hA1:A.length=1
  ·obtain⟨x,rfl⟩:=List.length_eq_one_iff.1 hA1
   exact UC g P B Q x hl tr hB ri K hk
  by_cases hB1:B.length=1
  ·obtain⟨y,rfl⟩:=List.length_eq_one_iff.1 hB1
   exact Qx g P A Q y hA1 hl tr hA ri K hk
  unfold FB
  have kv:=g.pE
  have uh:=hl
  simp only[List.length_append] at hl
  refine bP (by rw[wI (by omega) (by omega),beq_eq_false_iff_ne];omega) (bP (by rw[wI (by omega) (by omega),beq_eq_false_iff_ne];omega) ⟨by decide,?_⟩)
  obtain⟨cG,auB⟩:∃cG,(P.length+(P.length+A.length+B.length))/2=cG:=⟨_,rfl⟩
  rw[KH _ _ (by omega),auB]
  rw[show IntKind.i64.wrap (((cG:Nat):Int)+((P.length+A.length:Nat):Int))=((cG+(P.length+A.length):Nat):Int) from by rw[wI (by omega) (by omega)];omega]
  refine qn (fun v H'=>∃st r:Nat,v=((s,(P.length:Int),((P.length+A.length:Nat):Int),((P.length+A.length+B.length:Nat):Int),[c],(cG:Int),((cG+(P.length+A.length):Nat):Int),(st:Int),(r:Int),()),())∧H'=Hx H aC t s (P++(A++(B++Q)))∧P.length≤st∧st≤r∧r≤P.length+A.length∧cG+(P.length+A.length)≤st+(P.length+A.length+B.length)∧r≤cG∧(st=P.length∨st+(P.length+A.length+B.length)=cG+(P.length+A.length))∧(r=cG∨r=P.length+A.length)) ?_ fun D hD=>?_
  ·rintro v H' ⟨st0,r0,rfl,rfl,f1,f2,f3,f4,f5,f6,f7⟩
   dsimp only
   rw[show IntKind.i64.wrap (((cG+(P.length+A.length):Nat):Int)- 1)=((cG+(P.length+A.length)- 1:Nat):Int) from by rw[wI (by omega) (by omega)];omega]
   refine gG (fun v H'=>H'=Hx H aC t s (P++(A++(B++Q)))∧∃st r:Nat,v=((s,(P.length:Int),((P.length+A.length:Nat):Int),((P.length+A.length+B.length:Nat):Int),[c],(cG:Int),((cG+(P.length+A.length):Nat):Int),(st:Int),(r:Int),((cG+(P.length+A.length)- 1:Nat):Int),()),())∧st0≤st∧st≤r∧r≤r0∧(st=st0∨∀x y,A[st - P.length - 1]?=some x→B[cG - st]?=some y→lt x y)∧(r=r0∨∀x y,A[r - P.length]?=some x→B[cG - r - 1]?=some y→lt y x)) (fun v _=>(v.1.2.2.2.2.2.2.2.2.1 - v.1.2.2.2.2.2.2.2.1).toNat) ⟨rfl,st0,r0,rfl,Nat.le_refl _,f2,Nat.le_refl _,.inl rfl,.inl rfl⟩ ?_
   rintro v H' ⟨rfl,st,r,rfl,g1,g2,g3,g4,g5⟩
   dsimp only
   refine dR (fun h3=>?_) fun h3=>?_
   ·rw[KH _ _ (by omega)]
    obtain⟨h,rC,zB,hh3⟩:∃h,(st+r)/2=h∧st≤h∧h<r:=⟨_,rfl,by omega,by omega⟩
    rw[rC]
    have MU:h - P.length<A.length:=by omega
    have MT:cG - h - 1<B.length:=by omega
    have ri:=ri A[h - P.length] (List.getElem_mem MU) B[cG - h - 1] (List.getElem_mem MT)
    have eA:(P++(A++(B++Q)))[h]?=some A[h - P.length]:=by
     rw[List.getElem?_append_right (by omega),List.getElem?_append_left MU,List.getElem?_eq_getElem MU]
    have eB:(P++(A++(B++Q)))[cG+(P.length+A.length)- 1 - h]?=some B[cG - h - 1]:=by
     rw[List.getElem?_append_right (by omega),List.getElem?_append_right (by omega),show cG+(P.length+A.length)- 1 - h - P.length - A.length=cG - h - 1 from by omega,List.getElem?_append_left MT,List.getElem?_eq_getElem MT]
    refine⟨by decide,MQ g (i:=cG+(P.length+A.length)- 1 - h) (by rw[wI (by omega) (by omega)];omega) uh eB (MQ g (i:=h) rfl uh eA (uw ⟨rfl,g.cmp _ _ _ _ ri.2 (bN (fun h4=>?_) fun h4=>?_)⟩))⟩
    ·have h4:¬cmp B[cG - h - 1] A[h - P.length]<0:=of_decide_eq_false h4
     rw[w1 (by omega)]
     refine⟨⟨rfl,h+1,r,rfl,by omega,by omega,g3,.inr fun x y hx hy=>?_,g5⟩,by omega⟩
     rw[show h+1 - P.length - 1=h - P.length from by omega,List.getElem?_eq_getElem MU] at hx
     rw[show cG - (h+1)=cG - h - 1 from by omega,List.getElem?_eq_getElem MT] at hy
     injection hx with hx
     injection hy with hy
     subst hx hy
     exact ri.2.resolve_right fun hc=>h4 (ri.1.2 hc)
    ·have h4:cmp B[cG - h - 1] A[h - P.length]<0:=of_decide_eq_true h4
     refine⟨⟨rfl,st,h,rfl,g1,by omega,by omega,g4,.inr fun x y hx hy=>?_⟩,by omega⟩
     rw[List.getElem?_eq_getElem MU] at hx
     rw[List.getElem?_eq_getElem MT] at hy
     injection hx with hx
     injection hy with hy
     subst hx hy
     exact ri.1.1 h4
   ·obtain rfl:st=r:=by omega
    rw[show IntKind.i64.wrap (((cG+(P.length+A.length):Nat):Int)- (st:Int))=((cG+(P.length+A.length)- st:Nat):Int) from by rw[wI (by omega) (by omega)];omega]
    have hkA:st - P.length≤A.length:=by omega
    have hkB:cG - st≤B.length:=by omega
    have adj:A.take (st - P.length)++A.drop (st - P.length)=A:=List.take_append_drop _ _
    have adk:B.take (cG - st)++B.drop (cG - st)=B:=List.take_append_drop _ _
    have rA:eO lt (A.take (st - P.length)++A.drop (st - P.length)):=by rw[adj];exact hA
    have rB:eO lt (B.take (cG - st)++B.drop (cG - st)):=by rw[adk];exact hB
    have WX:=dB.1 rA
    have WY:=dB.1 rB
    have hAB:∀x∈A.take (st - P.length),∀y∈B.drop (cG - st),lt x y:=My tr WX.1 WY.2.1 fun x y hx hy=>by
     obtain⟨hp,hx⟩:=DF hkA hx
     have hy:=head_drop hy
     rcases g4 with e|h
     ·have Wy:=(List.getElem?_eq_some_iff.1 hy).1
      exfalso
      rcases f6 with e'|e'<;>omega
     ·exact h x y hx hy
    have hBA:∀y∈B.take (cG - st),∀x∈A.drop (st - P.length),lt y x:=My tr WY.1 WX.2.1 fun y x hy hx=>by
     obtain⟨hp,hy⟩:=DF hkB hy
     have hx:=head_drop hx
     rcases g5 with e|h
     ·have GX:=(List.getElem?_eq_some_iff.1 hx).1
      exfalso
      rcases f7 with e'|e'<;>omega
     ·exact h x y hx hy
    have lA1:(A.take (st - P.length)).length=st - P.length:=by rw[List.length_take];omega
    have lA2:(A.drop (st - P.length)).length=A.length - (st - P.length):=List.length_drop
    have lB1:(B.take (cG - st)).length=cG - st:=by rw[List.length_take];omega
    have lB2:(B.drop (cG - st)).length=B.length - (cG - st):=List.length_drop
    have auC:oV cmp lt (A.take (st - P.length)) (B.take (cG - st)):=ri.sub (fun x hx=>List.mem_of_mem_take hx) fun y hy=>List.mem_of_mem_take hy
    have auD:oV cmp lt (A.drop (st - P.length)) (B.drop (cG - st)):=ri.sub (fun x hx=>List.mem_of_mem_drop hx) fun y hy=>List.mem_of_mem_drop hy
    have iO:((A.take (st - P.length)++B.take (cG - st))++(A.drop (st - P.length)++B.drop (cG - st))).Perm (A++B):=by
     conv=>rhs;rw[←adj,←adk]
     rw[List.append_assoc,List.append_assoc]
     refine List.Perm.append_left _ ?_
     rw[←List.append_assoc,←List.append_assoc]
     exact List.Perm.append_right _ List.perm_append_comm
    have start:P++(A++(B++Q))=P++(A.take (st - P.length)++(A.drop (st - P.length)++(B.take (cG - st)++(B.drop (cG - st)++Q)))):=by
     conv=>lhs;rw[←adj,←adk]
     simp only[List.append_assoc]
    generalize aEh:A.take (st - P.length)=A1 at*
    generalize aEi:A.drop (st - P.length)=A2 at*
    generalize aEj:B.take (cG - st)=B1 at*
    generalize aEk:B.drop (cG - st)=B2 at*
    have VF:P.length+(A1.length+(A2.length+(B1.length+(B2.length+Q.length))))=n:=by omega
    have auE:cG=P.length+A1.length+B1.length:=by omega
    have auF:cG+(P.length+A.length)- st=P.length+A1.length+B1.length+A2.length:=by omega
    have est:st=P.length+A1.length:=by omega
    have eb:P.length+A.length+B.length=P.length+A1.length+B1.length+A2.length+B2.length:=by omega
    have em:P.length+A.length=P.length+A1.length+A2.length:=by omega
    have fin:∀C1 C2:List Int,C1.Perm (A1++B1)→eO lt C1→C2.Perm (A2++B2)→eO lt C2→K () (Hx H aC t s (P++(C1++(C2++Q)))):=fun C1 C2 p1 r1 p2 r2=>by
     have:=hk (C1++C2) ((p1.append p2).trans iO) (dB.2 ⟨r1,r2,fun x hx y hy=>?_⟩)
     ·rw[List.append_assoc] at this;exact this
     ·rcases List.mem_append.1 (p1.subset hx) with hx|hx<;>rcases List.mem_append.1 (p2.subset hy) with hy|hy
      ·exact WX.2.2 x hx y hy
      ·exact hAB x hx y hy
      ·exact hBA x hx y hy
      ·exact WY.2.2 x hx y hy
    rw[auF,est,auE]
    refine qn (fun v H'=>v=((s,(P.length:Int),((P.length+A.length+B.length:Nat):Int),[c],((P.length+A1.length+B1.length:Nat):Int),((P.length+A1.length:Nat):Int),((P.length+A1.length+B1.length+A2.length:Nat):Int),()),())∧H'=Hx H aC t s (P++(A1++(B1++(A2++(B2++Q)))))) ?_ fun E hE=>?_
    ·rintro v H' ⟨rfl,rfl⟩
     dsimp only
     refine qn (fun v H'=>v=((s,((P.length+A.length+B.length:Nat):Int),[c],((P.length+A1.length+B1.length:Nat):Int),((P.length+A1.length+B1.length+A2.length:Nat):Int),()),())∧∃C1:List Int,C1.Perm (A1++B1)∧eO lt C1∧H'=Hx H aC t s (P++(C1++(A2++(B2++Q))))) ?_ fun E hE=>?_
     ·rintro v H' ⟨rfl,C1,p1,r1,rfl⟩
      dsimp only
      have l1:=p1.length_eq
      simp only[List.length_append] at l1
      refine qn (fun v H'=>∃f:Bool,v=((s,((P.length+A.length+B.length:Nat):Int),[c],((P.length+A1.length+B1.length:Nat):Int),((P.length+A1.length+B1.length+A2.length:Nat):Int),f,()),())∧(f=true↔A2≠[]∧B2≠[])∧H'=Hx H aC t s (P++(C1++(A2++(B2++Q))))) ?_ fun E hE=>?_
      ·rintro v H' ⟨f,rfl,hf,rfl⟩
       dsimp only
       refine cM (fun h=>?_) fun h=>?_
       ·have h:f=true:=h
        obtain⟨h1,h2⟩:=hf.1 h
        have shape:P++(C1++(A2++(B2++Q)))=(P++C1)++(A2++(B2++Q)):=by simp
        rw[shape]
        refine KI g tr N (P++C1) A2 B2 Q _ ?_ h1 h2 (by simp;omega) WX.2.1 WY.2.1 auD (fun C2 p2 r2=>?_) (by simp;omega) (by simp;omega) (by simp;omega)
        ·have:0<A1.length+B1.length:=by omega
         omega
        ·rw[List.append_assoc];exact fin C1 C2 p1 r1 p2 r2
       ·have h:f=false:=h
        have dz:¬(A2≠[]∧B2≠[]):=fun hc=>by rw[hf.2 hc] at h;cases h
        have:eO lt (A2++B2):=dB.2 ⟨WX.2.1,WY.2.1,fun x hx y hy=>absurd ⟨List.ne_nil_of_mem hx,List.ne_nil_of_mem hy⟩ dz⟩
        have:=fin C1 (A2++B2) p1 r1 (.refl _) this
        simpa using this
      ·have lx:∀L:List Int,L≠[]↔0<L.length:=fun L=>List.length_pos_iff.symm
       refine fW (fun h=>hE _ _ ⟨_,rfl,?_,rfl⟩) fun h=>hE _ _ ⟨_,rfl,?_,rfl⟩
       ·have h:((P.length+A1.length+B1.length:Nat):Int)<((P.length+A1.length+B1.length+A2.length:Nat):Int):=h
        rw[decide_eq_true_eq,lx,lx,eb]
        omega
       ·have h:¬((P.length+A1.length+B1.length:Nat):Int)<((P.length+A1.length+B1.length+A2.length:Nat):Int):=h
        rw[lx,lx]
        simp only[Bool.false_eq_true,false_iff]
        omega
     ·refine qn (fun v H'=>∃f:Bool,v=((s,(P.length:Int),((P.length+A.length+B.length:Nat):Int),[c],((P.length+A1.length+B1.length:Nat):Int),((P.length+A1.length:Nat):Int),((P.length+A1.length+B1.length+A2.length:Nat):Int),f,()),())∧(f=true↔A1≠[]∧B1≠[])∧H'=Hx H aC t s (P++(A1++(B1++(A2++(B2++Q)))))) ?_ fun F hF=>?_
      ·rintro v H' ⟨f,rfl,hf,rfl⟩
       dsimp only
       refine cM (fun h=>?_) fun h=>hE _ _ ⟨rfl,A1++B1,.refl _,?_,by simp⟩
       ·have h:f=true:=h
        obtain⟨h1,h2⟩:=hf.1 h
        refine KI g tr N P A1 B1 (A2++(B2++Q)) _ (by omega) h1 h2 (by simp;omega) WX.1 WY.1 auC (fun C1 p1 r1=>hE _ _ ⟨rfl,C1,p1,r1,rfl⟩) rfl rfl rfl
       ·have h:f=false:=h
        have dz:¬(A1≠[]∧B1≠[]):=fun hc=>by rw[hf.2 hc] at h;cases h
        exact dB.2 ⟨WX.1,WY.1,fun x hx y hy=>absurd ⟨List.ne_nil_of_mem hx,List.ne_nil_of_mem hy⟩ dz⟩
      ·have lx:∀L:List Int,L≠[]↔0<L.length:=fun L=>List.length_pos_iff.symm
       refine fW (fun h=>hF _ _ ⟨_,rfl,?_,rfl⟩) fun h=>hF _ _ ⟨_,rfl,?_,rfl⟩
       ·have h:(P.length:Int)<((P.length+A1.length:Nat):Int):=h
        rw[decide_eq_true_eq,lx,lx]
        omega
       ·have h:¬(P.length:Int)<((P.length+A1.length:Nat):Int):=h
        rw[lx,lx]
        simp only[Bool.false_eq_true,false_iff]
        omega
    ·
     refine qn (fun v H'=>∃f:Bool,v=((s,(P.length:Int),((P.length+A.length:Nat):Int),((P.length+A.length+B.length:Nat):Int),[c],((P.length+A1.length+B1.length:Nat):Int),((P.length+A1.length:Nat):Int),((P.length+A1.length+B1.length+A2.length:Nat):Int),f,()),())∧(f=true↔A2≠[]∧B1≠[])∧H'=Hx H aC t s (P++(A1++(A2++(B1++(B2++Q)))))) ?_ fun F hF=>?_
     ·rintro v H' ⟨f,rfl,hf,rfl⟩
      dsimp only
      refine cM (fun h=>?_) fun h=>hE _ _ ⟨rfl,?_⟩
      ·have h:f=true:=h
       obtain⟨h1,h2⟩:=hf.1 h
       have shape:P++(A1++(A2++(B1++(B2++Q))))=(P++A1)++(A2++(B1++(B2++Q))):=by simp
       rw[shape]
       refine ano g (P++A1) A2 B1 (B2++Q) h1 h2 (by simp;omega) (by simp) (by simp;omega) (by simp;omega) _ ?_
       exact hE _ _ ⟨rfl,by simp⟩
      ·have h:f=false:=h
       have dz:¬(A2≠[]∧B1≠[]):=fun hc=>by rw[hf.2 hc] at h;cases h
       by_cases h2:A2=[]
       ·rw[h2];simp
       ·have h3:B1=[]:=Classical.byContradiction fun hc=>dz ⟨h2,hc⟩
        rw[h3];simp
     ·have lx:∀L:List Int,L≠[]↔0<L.length:=fun L=>List.length_pos_iff.symm
      rw[start]
      refine fW (fun h=>hF _ _ ⟨_,rfl,?_,rfl⟩) fun h=>hF _ _ ⟨_,rfl,?_,rfl⟩
      ·have h:((P.length+A1.length:Nat):Int)<((P.length+A.length:Nat):Int):=h
       rw[decide_eq_true_eq,lx,lx]
       omega
      ·have h:¬((P.length+A1.length:Nat):Int)<((P.length+A.length:Nat):Int):=h
       rw[lx,lx]
       simp only[Bool.false_eq_true,false_iff]
       omega
  ·refine fW (fun h=>?_) fun h=>?_
   ·have h:((P.length+A.length:Nat):Int)>(cG:Int):=h
    refine hD _ _ ⟨cG+(P.length+A.length)- (P.length+A.length+B.length),cG,?_,rfl,by omega,by omega,by omega,by omega,by omega,.inr (by omega),.inl rfl⟩
    rw[wI (by omega) (by omega),show((cG+(P.length+A.length)- (P.length+A.length+B.length):Nat):Int)=((cG+(P.length+A.length):Nat):Int)- ((P.length+A.length+B.length:Nat):Int) from by omega]
   ·have h:¬((P.length+A.length:Nat):Int)>(cG:Int):=h
    exact hD _ _ ⟨P.length,P.length+A.length,rfl,rfl,by omega,by omega,by omega,by omega,by omega,.inl rfl,.inr rfl⟩)
end
end Go.Proofs.YtmoebnnbjppjbaaGreat
