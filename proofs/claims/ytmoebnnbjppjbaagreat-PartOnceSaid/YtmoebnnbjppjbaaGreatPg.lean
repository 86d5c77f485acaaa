/- Pg: texts of ours, one behind the other, in short writing (spaces and names cut by a program of ours): Pt4, Pt5, Pt6, Pt7, Pt8, Pt9, Pt10, Pt11, Pt12, Pt13, Pt14, Pt15, Pt16, Pt17. -/
import Derived.Test.YtmoebnnbjppjbaaGreatPf
import Derived.Test.YtmoebnnbjppjbaaGreatPd
set_option linter.unusedSimpArgs false
set_option linter.unusedVariables false
namespace Go.Proofs.YtmoebnnbjppjbaaGreat
open Go Go.Gp Go.Ga Go.Th
def bt (l:List One):Nat→List Int×List a_
 |0=>([],[])
 |k+1=>match l[k]? with
  |some x=>if x.1=2 then((bt l k).1++[(k:Int)],(bt l k).2++[x.2.1]) else bt l k
  |none=>bt l k
theorem s7 (l:List One):∀k,(bt l k).1.length≤k∧(bt l k).2.length=(bt l k).1.length
 |0=>by simp[bt]
 |k+1=>by
  have:=s7 l k
  unfold bt
  split
  ·split
   ·simp;omega
   ·omega
  ·omega
theorem MH {l:List One} {k:Nat} {x:One} (h:l[k]?=some x) (h2:x.1=2):bt l (k+1)=((bt l k).1++[(k:Int)],(bt l k).2++[x.2.1]):=by simp[bt,h,h2]
theorem MJ {l:List One} {k:Nat} {x:One} (h:l[k]?=some x) (h2:x.1≠2):bt l (k+1)=bt l k:=by simp[bt,h,h2]
theorem pQ {l:List One} {k:Nat} {x:One} (h:l[k]?=some x):jQ l (k:Int)=some x:=by
 unfold jQ
 simp[h]
theorem Qt {H:HP} {p n b:Nat} {s:Sl} {l:List One} {x:kN.T} (hp:H p=some ⟨kN,x⟩) (hx:x.2.2.2.2.1=some n) (hs:cF H n b s l) (ok:rK l) (hl:l.length≤1000) (K:HT [(false,.row (.one (.int .i64))),(false,.row aM)]→HP→Prop) (hk:K ((bt l l.length).1,(bt l l.length).2,()) H):C50 (some p) H K:=XP _ _ _ (by
 unfold A50
 refine ax (aF hp ?_)
 rw[hx]
 refine cI _ (fun K' bW=>Ss hs K' bW) ?_
 refine cN l.length (fun i=>((some p,(bt l i).1,(bt l i).2,(l.length:Int),(i:Int),()),())) (fun _=>True) rfl trivial ?_
 intro i C hi _ hC
 dsimp only
 have kT:=s7 l i
 refine dR (fun h=>?_) fun h=>?_
 ·have AT:C ((some p,(bt l (i+1)).1,(bt l (i+1)).2,(l.length:Int),IntKind.i64.wrap ((i:Int)+1),()),()) H:=by rw[w1 (by omega)];exact hC h trivial
  obtain⟨y,hy⟩:∃y,l[i]?=some y:=⟨_,List.getElem?_eq_getElem h⟩
  refine ax (aF hp ?_)
  rw[hx]
  refine cI _ (fun K' bW=>aaY hs ok (i:Int) K' bW) (bf ?_)
  have hn:=pQ hy
  by_cases h0:y.1=0
  ·have e:vP l (i:Int)=(KC,3):=by unfold vP;rw[hn];exact if_pos h0
   rw[e]
   refine⟨rfl,bP rfl (bP rfl ?_)⟩
   have:=AT
   rwa [MJ hy (by omega)] at this
  ·have e:vP l (i:Int)=(y.2.1,0):=by unfold vP;rw[hn];exact if_neg h0
   rw[e]
   refine⟨rfl,cd rfl (ax (aF hp ?_))⟩
   rw[hx]
   refine cI _ (fun K' bW=>MK hs (i:Int) K' bW) ?_
   have e2:stS l (i:Int)=y.1:=by unfold stS;rw[hn]
   rw[e2]
   have:=AT
   by_cases h2:y.1=2
   ·rw[MH hy h2] at this
    exact cd (beq_iff_eq.2 h2) (bM (by show((bt l i).1.length+1)*8≤_;omega) (bM (by show((bt l i).2.length+1)*128≤_;omega) this))
   ·rw[MJ hy h2] at this
    exact bP (beq_eq_false_iff_ne.2 h2) this
 ·obtain rfl:i=l.length:=by omega
  exact hk)
theorem IP {H:HP} {p n b:Nat} {s:Sl} {l:List One} {x:kN.T} (hp:H p=some ⟨kN,x⟩) (hx:x.2.2.2.2.1=some n) (uv:x.2.2.2.2.2.2.2.1≠3) (hs:cF H n b s l) (ok:rK l) (hl:l.length≤1000) (ld:∀(i:Nat) y,l[i]?=some y→y.1=1→lN x.2.1 y.2.1=true) (K:HT [(false,.one .bool)]→HP→Prop) (hk:K (false,()) H):C51 (some p) H K:=XO _ _ _ (by
 unfold A51
 refine ax (aF hp ?_)
 rw[hx]
 refine cI _ (fun K' bW=>Ss hs K' bW) ?_
 refine cN l.length (fun i=>((some p,(l.length:Int),(i:Int),()),())) (fun _=>True) rfl trivial ?_
 intro i C hi _ hC
 dsimp only
 refine dR (fun h=>?_) fun h=>hk
 have AT:C ((some p,(l.length:Int),IntKind.i64.wrap ((i:Int)+1),()),()) H:=by rw[w1 (by omega)];exact hC h trivial
 obtain⟨y,hy⟩:∃y,l[i]?=some y:=⟨_,List.getElem?_eq_getElem h⟩
 refine ax (aF hp ?_)
 rw[hx]
 refine cI _ (fun K' bW=>aaY hs ok (i:Int) K' bW) ?_
 have hn:=pQ hy
 by_cases h0:y.1=0
 ·have e:vP l (i:Int)=(KC,3):=by unfold vP;rw[hn];exact if_pos h0
  rw[e]
  exact⟨rfl,bP rfl AT⟩
 ·have e:vP l (i:Int)=(y.2.1,0):=by unfold vP;rw[hn];exact if_neg h0
  rw[e]
  refine⟨rfl,cd rfl (ax (aF hp ?_))⟩
  rw[hx]
  refine cI _ (fun K' bW=>MK hs (i:Int) K' bW) ?_
  have e2:stS l (i:Int)=y.1:=by unfold stS;rw[hn]
  rw[e2]
  refine oK (fun h1=>ax (aF hp (bP (beq_eq_false_iff_ne.2 uv) (cI _ (fun K' bW=>Sq hp y.2.1 K' bW) (bP ?_ AT))))) fun _=>AT
  rw[ld i y hy h1];rfl)
def Su (x:kN.T) (st:Int):kN.T:=(x.1,x.2.1,x.2.2.1,x.2.2.2.1,x.2.2.2.2.1,x.2.2.2.2.2.1,x.2.2.2.2.2.2.1,x.2.2.2.2.2.2.2.1,st)
def ML (p t n:Nat) (H H':HP):Prop:=∀m,m≠p→m≠t→m≠n→(H m).isSome→H' m=H m
theorem ML.refl (p t n:Nat) (H:HP):ML p t n H H:=fun _ _ _ _ _=>rfl
theorem Qu {H:HP} {p t n o:Nat} {ps:List Pr} {x:kN.T} (hp:H p=some ⟨kN,x⟩) (hx:x.2.2.2.1=some t) (ht:fE H t n o ps (ps.length:Int)) (h3:3≤o) (vM:o≤16) (hb:ps.length≤1000) (hpt:p≠t) (hpn:p≠n) (k:Key) (Sv:Net) (K:HT [(false,.one .any)]→HP→Prop)
 (hk:∀e dh st H',(Sv.2.2.2=true→Sv.2.1=true→(gC k&&dC Sv.2.2.1)=true→ps.length<1000→e=0∧dh=fF ps k Sv.2.2.1)→(∀q∈dh,q=(k,Sv.2.2.1)∨q∈ps)→dh.length≤1000→fE H' t n o dh (dh.length:Int)→H' p=some ⟨kN,Su x st⟩→ML p t n H H'→K (er e,()) H'):C87 (some p) k Sv H K:=XS _ _ _ _ _ (by
 unfold A87
 have Ws:x=Su x x.2.2.2.2.2.2.2.2:=rfl
 refine bN (fun h=>hk 0 ps x.2.2.2.2.2.2.2.2 H (fun a=>absurd (h.symm.trans a) (by decide)) (fun q hq=>.inr hq) hb ht (by rw[←Ws];exact hp) (ML.refl _ _ _ _)) fun h=>ax (aF hp (ax (aF hp ?_)))
 have hf:Fm [p] H (H.set p kN (Su x (IntKind.u64.wrap (x.2.2.2.2.2.2.2.2+1)))):=(Fm.refl _ _).set (by simp) _ _
 have vG:=ht.fm hf (by simpa using Ne.symm hpt) (by simpa using Ne.symm hpn)
 have hfp:ML p t n H (H.set p kN (Su x (IntKind.u64.wrap (x.2.2.2.2.2.2.2.2+1)))):=fun m h1 _ _ _=>di h1
 refine cM (fun hh=>ax (aF (cq _ _ _ _) ?_)) fun hh0=>ax (aF (cq _ _ _ _) ?_)
 ·show C98 x.2.2.2.1 k Sv.2.2.1 (H.set p kN (Su x (IntKind.u64.wrap (x.2.2.2.2.2.2.2.2+1)))) _
  rw[hx]
  refine ahA (K:=fun x7 H8=>K (x7.2.1,()) H8) vG h3 vM hb k Sv.2.2.1 (fun hf=>hk 1 ps _ _ (fun _ _ a=>absurd (hf.symm.trans a) (by decide)) (fun q hq=>.inr hq) hb vG (cq _ _ _ _) hfp) (fun _ _ hf=>hk 5 ps _ _ (fun _ _ _ a=>absurd hf (Nat.not_le.2 a)) (fun q hq=>.inr hq) hb vG (cq _ _ _ _) hfp) fun hm hl H' WQ E6=>hk 0 _ (IntKind.u64.wrap (x.2.2.2.2.2.2.2.2+1)) H' (fun _ _ _ _=>⟨rfl,rfl⟩) (fun q hq=>qf hq) ?_ E6 ?_ ?_
  ·obtain⟨Wu,T,v,f,u,ti,rfl⟩:=ht
   rw[mD ti.row.sort]
   split
   ·exact hb
   ·rename_i zB
    rcases hl with h'|h'
    ·exact absurd h' zB
    ·exact h'
  ·rw[WQ p (by simp[hpt,hpn])];exact cq _ _ _ _
  ·exact fun m h1 h2 h3 _=>(WQ m (by simp[h2,h3])).trans (di h1)
 ·show C99 x.2.2.2.1 k (H.set p kN (Su x (IntKind.u64.wrap (x.2.2.2.2.2.2.2.2+1)))) _
  rw[hx]
  obtain⟨Wu,T,v,f,u,ti,rfl⟩:=vG
  refine P0 (K:=fun x7 H8=>K (x7.2.1,()) H8) ti rfl h3 vM hb k (fun _=>hk 0 _ _ _ (fun _ a=>absurd (hh0.symm.trans a) (by decide)) (fun q hq=>.inr hq) hb ⟨Wu,T,v,f,u,ti,rfl⟩ (cq _ _ _ _) hfp) fun _ H' WQ E6=>hk 0 _ (IntKind.u64.wrap (x.2.2.2.2.2.2.2.2+1)) H' (fun _ a=>absurd (hh0.symm.trans a) (by decide)) (fun q hq=>.inr (List.mem_filter.1 hq).1) (Nat.le_trans (List.length_filter_le _ _) hb) E6 ?_ ?_
  ·rw[WQ p hpt hpn (by rw[cq];rfl)];exact cq _ _ _ _
  ·exact fun m h1 h2 h3 h4=>(WQ m h2 h3 (by rw[di h1];exact h4)).trans (di h1))
theorem y9 {l:List Pr} (h:cH l) {p:Pr} (hp:p∈l):p.1.length≤16∧p.2.length≤32:=by
 have h1:=h.may p hp
 have h2:=h.fair p hp
 unfold gC at h1
 unfold dC at h2
 simp only[Bool.and_eq_true,decide_eq_true_eq] at h1 h2
 omega
theorem DD {l:List Pr} (h:cH l) (k:Key):((dY l k).getD []).length≤32:=by
 unfold dY
 cases hf:l.find? fun p=>p.1==k with
 |none=>simp
 |some p=>exact(y9 h (List.mem_of_find?_eq_some hf)).2
theorem sM (c:Int):j5 (Fc c):=⟨Nat.zero_le _,Nat.zero_le _,fun p hp=>nomatch hp⟩
theorem wF {l:List Pr} (h:cH l) (k:Key):j5 (ko l k):=⟨Nat.le_trans (DD h k) (by decide),Nat.zero_le _,fun p hp=>nomatch hp⟩
theorem Qv {l:List Pr} (h:cH l) (hb:l.length≤1000) (r:a_) (a8:Int):j5 (zT l r a8).2:=by
 have hp:j5 (oE l r a8).2:=by
  unfold oE
  split
  ·exact sM _
  ·exact wF h _
 unfold zT
 split
 ·unfold Dn
  split
  ·refine⟨Nat.zero_le _,Nat.le_trans (Dm _ _ _ _) hb,fun p hp=>?_⟩
   have:=y9 h (List.mem_filter.1 (List.mem_of_mem_take hp)).1
   omega
  repeat' split
  all_goals first|exact wF h _|exact sM _|exact hp|exact⟨Nat.le_trans (DD h _) (by decide),Nat.zero_le _,fun p hp=>nomatch hp⟩
 ·exact sM _
theorem zV (a8:Int):∀(a:List a_) {l:List Pr},cH l→l.length+a.length≤1000→∀x∈(dv a8 l a).2,j5 x
 |[],_,_,_=>fun x hx=>nomatch hx
 |r::a,l,h,hb=>fun x hx=>by
  rw[List.length_cons] at hb
  obtain⟨h1,h2⟩:=DK h r a8
  rcases List.mem_cons.1 hx with rfl|hx
  ·exact Qv h (by omega) r a8
  ·exact zV a8 a h1 (by omega) x hx
theorem Zw {r:a_} (hm:eM r=true) (h2:r.kind=2):Bz false [] (dv (jT false true) (jz false [] [r]) [r])=([ko [] r.key],true,r.val,true):=by
 simp[Bz,dv,jT,jz,zT,hm,Dn,h2,oE,fF,acx,ko,cK,dY]
theorem Zx {r:a_} (hm:eM r=true) (h2:r.kind=2):pf false [] [r]=true:=by
 simp[pf,rN,s_,ZW,okL,JV,hm,h2]
theorem ahR {H:HP} {p t n o:Nat} {ps:List Pr} {x:kN.T} (hp:H p=some ⟨kN,x⟩) (hx:x.2.2.2.1=some t) (ht:fE H t n o ps (ps.length:Int)) (h3:3≤o) (vM:o≤16) (hb:ps.length≤1000) (hpt:p≠t) (hpn:p≠n) (hm:x.2.2.1.2.2.2.1≤1000) (g:List a_) (hg:g.length≤32) {r0:a_} (h0:g[0]?=some r0) (DE:eM r0=true) (K:HT [(false,.row dH),(false,.one .any)]→HP→Prop)
 (hk:∀res e dh st H',(ps=[]→g=[r0]→r0.kind=2→0<x.2.2.1.2.2.2.1→e=0∧res.length=1∧dh.length=1)→(∀a∈res,j5 a)→res.length≤32→(∀q∈dh,q.1=r0.key∧r0.kind≠6∨q∈ps)→dh.length≤1000→fE H' t n o dh (dh.length:Int)→H' p=some ⟨kN,Su x st⟩→ML p t n H H'→K (res,er e,()) H'):C65 (some p) g H K:=XT _ _ _ _ (by
 unfold A65
 have mj:cH ps:=by
  obtain⟨hh,T,v,f,u,ti,rfl⟩:=ht
  exact ti.row
 refine mJ h0 (oK (fun h6=>mJ h0 ?_) fun h6=>?_)
 ·have hl:1≤r0.nq∧r0.nq≤100:=by
   unfold eM at DE
   rw[if_pos h6] at DE
   simp only[Bool.and_eq_true,decide_eq_true_eq] at DE
   omega
  refine Zv hp hx ht h3 hb r0 r0.nq.toNat (by show r0.nq=_;omega) (by omega) _ fun rows e c H' hr hrl hH=>?_
  have hH':fE H' t n o ps (ps.length:Int)∧H' p=some ⟨kN,x⟩∧ML p t n H H':=by
   rcases hH with rfl|⟨hc,hf⟩
   ·exact⟨ht,hp,ML.refl _ _ _ _⟩
   ·obtain⟨hh,T,v,f,u,ti,rfl⟩:=ht
    have ne:∀m,(H m).isSome→m∉[c]:=fun m h e=>by
     rw[List.mem_singleton.1 e,hc] at h;cases h
    refine⟨fE.fm ⟨hh,T,v,f,u,ti,rfl⟩ hf (ne _ (by rw[ti.ht];rfl)) (ne _ (by rw[ti.hn];rfl)),?_,fun m _ _ _ h=>hf m (ne m h)⟩
    rw[hf p (ne _ (by rw[hp];rfl))];exact hp
  refine hk _ e ps x.2.2.2.2.2.2.2.2 H' (fun _ _ h=>absurd (h.symm.trans h6) (by decide)) ?_ (by simp) (fun q hq=>.inr hq) hb hH'.1 hH'.2.1 hH'.2.2
  intro a ha
  rw[List.mem_singleton.1 ha]
  refine⟨Nat.zero_le _,Nat.le_trans hrl hb,fun q hq=>?_⟩
  have:=y9 mj (hr q hq)
  omega
 ·refine ax (aF hp (mJ h0 ?_))
  rw[hx]
  have ht0:=ht
  obtain⟨hh,T,v,f,u,ti,rfl⟩:=ht
  refine cI _ (fun K' bW=>ahx ti h3 (by omega) r0.key bW) ?_
  refine ax (aF hp ?_)
  rw[hx]
  refine ax (aF ti.ht (ax (aF hp (ai _ (amq _ _ _ g (by omega)) ?_))))
  by_cases ld:pf (cK (aR T) r0.key) ((dY (aR T) r0.key).getD []) g=true
  ·unfold Ob
   rw[if_pos ld]
   refine⟨rfl,bP rfl (mJ h0 ?_)⟩
   refine Qu hp hx ht0 h3 vM hb hpt hpn r0.key _ _ fun e dh st H' hu hq hl vG ji hf=>?_
   have hr:=td ld
   have Hy:(jz (cK (aR T) r0.key) ((dY (aR T) r0.key).getD []) g).length≤1:=by
    unfold jz;split<;>simp
   refine hk _ e dh st H' (fun h1 h2 h3 h4=>?_) (zV _ g hr (Nat.le_trans (Nat.add_le_add Hy hg) (by decide))) (by show(dv _ _ g).2.length≤32;rw[tD];exact hg) (fun q h=>?_) hl vG ji hf
   ·subst h2
    have rz:=w7 DE h6
    simp only[h1] at hu
    change((Bz false [] (dv (jT false (decide ((0:Int)<x.2.2.1.2.2.2.1))) (jz false [] [r0]) [r0])).2.2.2=true→(Bz false [] (dv (jT false (decide ((0:Int)<x.2.2.1.2.2.2.1))) (jz false [] [r0]) [r0])).2.1=true→(gC r0.key&&dC (Bz false [] (dv (jT false (decide ((0:Int)<x.2.2.1.2.2.2.1))) (jz false [] [r0]) [r0])).2.2.1)=true→(0:Nat)<1000→e=0∧dh=fF [] r0.key (Bz false [] (dv (jT false (decide ((0:Int)<x.2.2.1.2.2.2.1))) (jz false [] [r0]) [r0])).2.2.1) at hu
    rw[decide_eq_true h4,Zw DE h3] at hu
    obtain⟨e1,e2⟩:=hu rfl rfl (by rw[rz.1];exact rz.2) (by decide)
    exact⟨e1,by show(dv _ _ [r0]).2.length=1;rw[tD];rfl,by rw[e2];rfl⟩
   ·rcases hq q h with rfl|h
    ·exact .inl ⟨rfl,h6⟩
    ·exact .inr h
  ·unfold Ob
   rw[if_neg ld]
   exact⟨rfl,cd rfl (hk [] 1 _ x.2.2.2.2.2.2.2.2 H (fun h1 h2 h3 _=>absurd (by rw[h1,h2];exact Zx DE h3) ld) (fun a ha=>nomatch ha) (by simp) (fun q hq=>.inr hq) hb ht0 hp (ML.refl _ _ _ _))⟩)
structure PA where
 i:Int
 st:Int
 t:Nat
 n:Nat
 o:Nat
 sl:Nat
 sb:Nat
 ls:Nat
 j:Nat
 jb:Nat
 je:Nat
 s:Sl
 js:Sl
 se:Sl
abbrev DA:=Int×Int×Int×Int×Int×Int
def PA.x (A:PA) (rg:Key×Key) (cf:DA):kN.T:=(A.i,rg,cf,some A.t,some A.sl,some A.ls,some A.j,0,A.st)
structure PW (A:PA) (H:HP) (p:Nat) (rg:Key×Key) (cf:DA) (ps:List Pr) (l:List One) (y:mg.T) (gs:List (List bI)) (ap an:Nat):Prop where
 hp:H p=some ⟨kN,A.x rg cf⟩
 ht:fE H A.t A.n A.o ps (ps.length:Int)
 o3:3≤A.o
 o16:A.o≤16
 hs:cF H A.sl A.sb A.s l
 hl:H A.ls=some ⟨mg,y⟩
 hj:lh H A.j A.jb A.je A.js A.se gs ap an
def Sw:AK→Nat
 |.one _=>1
 |.arr _ _=>2
 |.cons .ref _=>3
 |.cons (.own _ _) _=>4
 |.cons (.one _) (.cons (.cons _ _) _)=>5
 |.cons (.one _) (.cons (.one _) _)=>6
 |_=>0
theorem pC.get {H H':HP} (f:pC H H') {m:Nat} {k:AK} {z:k.T} (h:H m=some ⟨k,z⟩) (hk:BC k≠1):H' m=some ⟨k,z⟩:=f m _ h hk
theorem Sx {H:HP} {a b:Nat} {k k':AK} {x:k.T} {y:k'.T} (h:H a=some ⟨k,x⟩) (h':H b=some ⟨k',y⟩) (hk:Sw k≠Sw k'):a≠b:=fun e=>by
 subst e
 rw[h] at h'
 injection h' with h'
 injection h' with h'
 exact hk (congrArg Sw h')
theorem tne {H:HP} {a m:Nat} {k:AK} {x:k.T} {o:OB} (h:H a=some ⟨k,x⟩) (hm:H m=some o) (ho:BC o.k=1) (hk:BC k≠1):m≠a:=fun e=>by
 subst e
 rw[h] at hm
 injection hm with hm
 subst hm
 exact hk ho
theorem lh.mv {H H':HP} {n b be:Nat} {s se:Sl} {gs:List (List bI)} {ap an:Nat} (h:lh H n b be s se gs ap an) (f:∀m o,H m=some o→BC o.k=1→H' m=some o):lh H' n b be s se gs ap an:=
 ⟨f _ _ h.bo rfl,h.sl,h.el,h.cap,h.z,fun hg=>by obtain⟨a1,a2,a3,a4⟩:=h.bR hg;exact⟨a1,f _ _ a2 rfl,a3,f _ _ a4 rfl⟩,h.ne,h.le,h.Z3,h.anl,h.short⟩
section
variable {A:PA} {H H':HP} {p:Nat} {rg:Key×Key} {cf:DA} {ps:List Pr} {l:List One} {y:mg.T} {gs:List (List bI)} {ap an:Nat}
theorem PW.tr (h:PW A H p rg cf ps l y gs ap an):∃(x:jO.T) (v:dd.T),H A.t=some ⟨jO,x⟩∧H A.n=some ⟨dd,v⟩:=by
 obtain⟨hh,T,v,f,u,ti,rfl⟩:=h.ht
 exact⟨_,v,ti.ht,ti.hn⟩
theorem PW.fmP (h:PW A H p rg cf ps l y gs ap an) {dh:List Pr} {st:Int} (ht:fE H' A.t A.n A.o dh (dh.length:Int)) (hp:H' p=some ⟨kN,Su (A.x rg cf) st⟩) (f:ML p A.t A.n H H'):PW {A with st:=st} H' p rg cf dh l y gs ap an:=by
 obtain⟨x,v,e1,e2⟩:=h.tr
 have g:∀m k (z:k.T),H m=some ⟨k,z⟩→Sw k≠5→Sw k≠3→Sw k≠4→H' m=some ⟨k,z⟩:=fun m k z hm h1 h2 h3=>by
  rw[f m (Sx hm h.hp h1) (Sx hm e1 h2) (Sx hm e2 h3) (by rw[hm];rfl)];exact hm
 refine⟨hp,ht,h.o3,h.o16,⟨g _ _ _ h.hs.bo (by decide) (by decide) (by decide),g _ _ _ h.hs.arr (by decide) (by decide) (by decide),h.hs.bR,h.hs.le⟩,g _ _ _ h.hl (by decide) (by decide) (by decide),h.hj.mv fun m o hm ho=>?_⟩
 rw[f m (tne h.hp hm ho (by decide)) (tne e1 hm ho (by decide)) (tne e2 hm ho (by decide)) (by rw[hm];rfl)];exact hm
theorem PW.frJ (h:PW A H p rg cf ps l y gs ap an) {jb je:Nat} {js se:Sl} {nQ:List (List bI)} {nR nS:Nat} (hj:lh H' A.j jb je js se nQ nR nS) (f:pC H H'):PW {A with jb:=jb,je:=je,js:=js,se:=se} H' p rg cf ps l y nQ nR nS:=by
 obtain⟨hh,T,v,g,u,ti,rfl⟩:=h.ht
 exact⟨f.get h.hp (by decide),⟨hh,T,v,g,u,⟨f.get ti.ht (by decide),f.get ti.hn (by decide),ti.ar,ti.cG,ti.sz⟩,rfl⟩,h.o3,h.o16,⟨f.get h.hs.bo (by decide),f.get h.hs.arr (by decide),h.hs.bR,h.hs.le⟩,f.get h.hl (by decide),hj⟩
theorem PW.slot (h:PW A H p rg cf ps l y gs ap an) {l':List One} (he:l'.length=l.length):PW A (H.set A.sb (.arr jR 106) (A.s,l')) p rg cf ps l' y gs ap an:=by
 obtain⟨hh,T,v,g,u,ti,rfl⟩:=h.ht
 have f:∀m k (z:k.T),H m=some ⟨k,z⟩→Sw k≠2→(H.set A.sb (.arr jR 106) (A.s,l')) m=some ⟨k,z⟩:=fun m k z hm h1=>by
  rw[di (Sx hm h.hs.arr h1)];exact hm
 exact⟨f _ _ _ h.hp (by decide),⟨hh,T,v,g,u,⟨f _ _ _ ti.ht (by decide),f _ _ _ ti.hn (by decide),ti.ar,ti.cG,ti.sz⟩,rfl⟩,h.o3,h.o16,h.hs.put he,f _ _ _ h.hl (by decide),h.hj.mv fun m o hm ho=>by rw[di (tne h.hs.arr hm ho (by decide))];exact hm⟩
theorem PW.aaT (h:PW A H p rg cf ps l y gs ap an) (y':mg.T):PW A (H.set A.ls mg y') p rg cf ps l y' gs ap an:=by
 obtain⟨hh,T,v,g,u,ti,rfl⟩:=h.ht
 have f:∀m k (z:k.T),H m=some ⟨k,z⟩→Sw k≠6→(H.set A.ls mg y') m=some ⟨k,z⟩:=fun m k z hm h1=>by
  rw[di (Sx hm h.hl h1)];exact hm
 exact⟨f _ _ _ h.hp (by decide),⟨hh,T,v,g,u,⟨f _ _ _ ti.ht (by decide),f _ _ _ ti.hn (by decide),ti.ar,ti.cG,ti.sz⟩,rfl⟩,h.o3,h.o16,⟨f _ _ _ h.hs.bo (by decide),f _ _ _ h.hs.arr (by decide),h.hs.bR,h.hs.le⟩,cq _ _ _ _,h.hj.mv fun m o hm ho=>by rw[di (tne h.hl hm ho (by decide))];exact hm⟩
end
def uJ (g:List bI) (res:List eH):List (a_×eH):=List.zipWith (fun x a=>(x.2.1,a)) g res
section
variable {A:PA} {H H':HP} {p:Nat} {rg:Key×Key} {cf:DA} {ps:List Pr} {l:List One} {y:mg.T} {gs:List (List bI)} {ap an:Nat}
theorem Uz (h:PW A H p rg cf ps l y gs ap an) (hb:ps.length≤1000) (hm:cf.2.2.2.1≤1000) {g:List bI} (hg:gs[ap]?=some g) {x0:bI} (h0:g[0]?=some x0) (DE:eM x0.2.1=true) (K:HT [(false,.row (.cons aM dH)),(false,.one .any)]→HP→Prop)
 (bad:∀A' e dh H',(ps=[]→g=[x0]→x0.2.1.kind=2→0<cf.2.2.2.1→False)→(∀q∈dh,q.1=x0.2.1.key∧x0.2.1.kind≠6∨q∈ps)→dh.length≤1000→PW A' H' p rg cf dh l y gs ap an→K ([],er e,()) H')
 (ok:∀A' res dh H',res.length=g.length→(ps=[]→g=[x0]→x0.2.1.kind=2→0<cf.2.2.2.1→dh.length=1)→(∀q∈dh,q.1=x0.2.1.key∧x0.2.1.kind≠6∨q∈ps)→dh.length≤1000→PW A' H' p rg cf dh l y (gs.set ap (mh g res)) (ap+1) an→K (uJ g res,er 0,()) H'):C47 (some p) (g.map fun x=>x.2.1) H K:=XU _ _ _ _ (by
 unfold A47
 obtain⟨x,v,e1,e2⟩:=h.tr
 have hgl:g.length≤32:=I1 h.hj hg
 refine ahR h.hp rfl h.ht h.o3 h.o16 hb (Sx h.hp e1 (by decide)) (Sx h.hp e2 (by decide)) hm (g.map fun x=>x.2.1) (by rw[List.length_map];exact hgl) (r0:=x0.2.1) (by rw[List.getElem?_map,h0];rfl) DE _ ?_
 intro res e dh st H2 hup hs hrl Cw oN vG ji hf
 refine⟨dP e,?_⟩
 have h':=h.fmP vG ji hf
 refine bN (fun he=>?_) fun he=>?_
 ·refine bad _ e dh H2 (fun a1 a2 a3 a4=>?_) Cw oN h'
  obtain⟨rfl,_⟩:=hup a1 (by rw[a2];rfl) a3 a4
  exact absurd (show bj (er 0)=false from he) (by decide)
 have he0:e=0:=by
  have he:bj (er e)=true:=he
  rw[k9] at he
  exact of_decide_eq_true he
 subst he0
 refine ax (aF ji ?_)
 refine To h'.hj res hs (Nat.le_trans hrl (by decide)) _ (fun hn=>?_) ?_ ?_
 ·rw[hg] at hn;cases hn
 ·intro g' v5 bb
  refine⟨dP 1,cd rfl ?_⟩
  refine bad _ 1 dh H2 (fun a1 a2 a3 a4=>?_) Cw oN h'
  obtain⟨_,b2,_⟩:=hup a1 (by rw[a2];rfl) a3 a4
  rw[hg] at v5;cases v5
  exact bb (by rw[b2,a2];rfl)
 intro g' v5 heq H3 hj3 hf3
 refine⟨dP 0,bP rfl ?_⟩
 rw[hg] at v5;cases v5
 have Qn:=ok _ res dh H3 heq (fun a1 a2 a3 a4=>(hup a1 (by rw[a2];rfl) a3 a4).2.2) Cw oN (h'.frJ hj3 hf3)
 refine au fun _=>cN g.length (fun i=>((res,uJ (g.take i) (res.take i),g.map (fun x=>x.2.1),((g.map fun x=>x.2.1).length:Int),(i:Int),()),())) (fun _=>True) rfl trivial ?_
 intro i C hi _ hC
 dsimp only
 rw[List.length_map]
 refine dR (fun aY=>?_) fun aY=>?_
 ·have AT:C ((res,uJ (g.take (i+1)) (res.take (i+1)),g.map (fun x=>x.2.1),((g.map fun x=>x.2.1).length:Int),IntKind.i64.wrap ((i:Int)+1),()),()) H3:=by rw[w1 (by omega)];exact hC aY trivial
  refine b_ (xs:=g.map fun x=>x.2.1) (x:=g[i].2.1) rfl (by rw[List.getElem?_map,List.getElem?_eq_getElem aY];rfl) ?_
  refine b_ (xs:=res) (x:=res[i]'(by omega)) rfl (List.getElem?_eq_getElem (by omega)) (bM ?_ ?_)
  ·show((uJ (g.take i) (res.take i)).length+1)*200≤_
   simp only[uJ,List.length_zipWith,List.length_take]
   omega
  ·have e:uJ (g.take (i+1)) (res.take (i+1))=uJ (g.take i) (res.take i)++[(g[i].2.1,res[i]'(by omega))]:=by
    unfold uJ
    rw[List.take_succ_eq_append_getElem aY,List.take_succ_eq_append_getElem (by omega),List.zipWith_append (by simp;omega)]
    rfl
   rw[e,List.length_map] at AT
   exact AT
 ·obtain rfl:i=g.length:=by omega
  rw[List.take_length,show res.take g.length=res by rw[←heq,List.take_length]]
  exact Qn)
end
inductive Nx (a8:Int) (ps:List Pr) (l:List One) (gs:List (List bI)) (ap an:Nat):Int→List (a_×eH)→Int→List Pr→List One→List (List bI)→Nat→Nat→Prop
 |bad {g:List bI} {x0:bI} {e:Int} {dh:List Pr}:gs[ap]?=some g→g[0]?=some x0→(ps=[]→g=[x0]→x0.2.1.kind=2→0<a8→False)→(∀q∈dh,q.1=x0.2.1.key∧x0.2.1.kind≠6∨q∈ps)→dh.length≤1000→Nx a8 ps l gs ap an 1 [] e dh l gs ap an
 |app {g:List bI} {x0:bI} {res:List eH} {dh:List Pr}:gs[ap]?=some g→g[0]?=some x0→res.length=g.length→(ps=[]→g=[x0]→x0.2.1.kind=2→0<a8→dh.length=1)→(∀q∈dh,q.1=x0.2.1.key∧x0.2.1.kind≠6∨q∈ps)→dh.length≤1000→Nx a8 ps l gs ap an 1 (uJ g res) 0 dh l (gs.set ap (mh g res)) (ap+1) an
 |FU {x:bI}:gs[ap]?=none→gs.flatten[an]?=some x→(dr l x.1 x.2.2).1≠0→Nx a8 ps l gs ap an 2 [] (dr l x.1 x.2.2).1 ps l gs ap an
 |MD {x:bI}:gs[ap]?=none→gs.flatten[an]?=some x→(dr l x.1 x.2.2).1=0→an+1≠gs.flatten.length→Nx a8 ps l gs ap an 2 [] 0 ps (dr l x.1 x.2.2).2 gs ap (an+1)
 |fin {x:bI}:gs[ap]?=none→gs.flatten[an]?=some x→(dr l x.1 x.2.2).1=0→an+1=gs.flatten.length→Nx a8 ps l gs ap an 2 [] 0 ps (dr l x.1 x.2.2).2 [] 0 0
 |sa:gs[ap]?=none→cV gs ap≤an→0≤oG l 1→Nx a8 ps l gs ap an 4 [] (kJ l (oG l 1) 2 [1]).1 ps (kJ l (oG l 1) 2 [1]).2 gs ap an
 |DB {e:Int}:gs[ap]?=none→cV gs ap≤an→(oG l 1<0∨32≤(bt l l.length).1.length)→0<(bt l l.length).1.length→(gs≠[]∨ph (bt l l.length).1 (bt l l.length).2=false)→Nx a8 ps l gs ap an 5 [] e ps l gs ap an
 |Qq:(oG l 1<0∨32≤(bt l l.length).1.length)→0<(bt l l.length).1.length→gs=[]→ph (bt l l.length).1 (bt l l.length).2=true→Nx a8 ps l gs ap an 5 [] 0 ps l (mT (bt l l.length).1 (bt l l.length).2) 0 0
 |idle:gs[ap]?=none→cV gs ap≤an→(oG l 1<0∨32≤(bt l l.length).1.length)→(bt l l.length).1.length=0→Nx a8 ps l gs ap an 0 [] 0 ps l gs ap an
theorem Qw {l:List One} {i:Int} {a:eH} (h:(dr l i a).1≠0):(dr l i a).2=l:=by
 unfold dr at h⊢
 split
 ·rfl
 ·rename_i x hx
  rw[hx] at h
  split
  ·rename_i h2
   exact absurd (by simp only[h2,if_true]) h
  ·rfl
theorem rh {l:List One} (ok:rK l):∀k,∀r∈(bt l k).2,kS r
 |0=>fun r hr=>nomatch hr
 |k+1=>fun r hr=>by
  unfold bt at hr
  split at hr
  ·rename_i x hx
   split at hr
   ·rcases List.mem_append.1 hr with hr|hr
    ·exact rh ok k r hr
    ·rw[List.mem_singleton.1 hr];exact(ok x (List.mem_of_getElem? hx)).2.2.1
   ·exact rh ok k r hr
  ·exact rh ok k r hr
section
variable {A:PA} {H H':HP} {p:Nat} {rg:Key×Key} {cf:DA} {ps:List Pr} {l:List One} {y:mg.T} {gs:List (List bI)} {ap an:Nat}
theorem PW.same (h:PW A H p rg cf ps l y gs ap an):PW A (H.set A.sb (.arr jR 106) (A.s,l)) p rg cf ps l y gs ap an:=h.slot rfl
theorem Zn (h:PW A H p rg cf ps l y gs ap an) (ok:rK l) (hb:ps.length≤1000) (hm:cf.2.2.2.1≤1000) (hI:∀g∈gs,∀x∈g,eM x.2.1=true) (hF:∀(i:Nat) z,l[i]?=some z→z.1=1→lN rg z.2.1=true) (K:HT [(false,.one (.int .i64)),(false,.row (.cons aM dH)),(false,.one .any)]→HP→Prop)
 (hk:∀A' nP done e dh l' nQ nR nS H',Nx cf.2.2.2.1 ps l gs ap an nP done e dh l' nQ nR nS→PW A' H' p rg cf dh l' y nQ nR nS→K (nP,done,er e,()) H'):C26 (some p) H K:=XV _ _ _ (by
 unfold A26
 refine ax (aF h.hp (cI _ (fun K' bW=>YC h.hj K' bW) (au fun _=>?_)))
 cases hg:gs[ap]? with
 |some g=>
  have Of:g∈gs:=List.mem_of_getElem? hg
  have hg0:=List.length_pos_iff.2 (h.hj.ne g Of)
  have h0:g[0]?=some g[0]:=List.getElem?_eq_getElem hg0
  have e1:Z4 gs ap=g.map fun x=>x.2.1:=by unfold Z4;rw[hg];rfl
  rw[e1]
  refine cd (by simp;omega) ?_
  exact Uz h hb hm hg h0 (hI g Of _ (List.getElem_mem hg0)) _ (fun A' e dh H' hu Jj oN hw=>hk _ _ _ _ _ _ _ _ _ _ (.bad hg h0 hu Jj oN) hw) fun A' res dh H' hr hu Jj oN hw=>hk _ _ _ _ _ _ _ _ _ _ (.app hg h0 hr hu Jj oN) hw
 |none=>
  have e1:Z4 gs ap=[]:=by unfold Z4;rw[hg];rfl
  rw[e1]
  refine bP rfl (ax (aF h.hp (cI _ (fun K' bW=>Gm h.hj K' bW) ?_)))
  by_cases aY:an<cV gs ap
  ·obtain⟨x,hx,hr⟩:=yv h.hj aY
   rw[hr]
   refine cd rfl ?_
   obtain⟨gx,hgx,hxg⟩:=Gl hx
   have hJ:∀l',lh (H.set A.sb (.arr jR 106) (A.s,l')) A.j A.jb A.je A.js A.se gs ap an:=fun l'=>h.hj.mv fun m o hm ho=>by rw[di (tne h.hs.arr hm ho (by decide))];exact hm
   have hw:=h.slot (Qd l x.1 x.2.2)
   refine Qs h.hp rfl rfl h.hs hJ (Sx h.hp h.hs.arr (by decide)) x.1 x.2.2 (h.hj.short gx hgx x hxg).2 _ (fun he=>?_) (fun _ hd=>absurd aY (by omega)) (fun he _ hn H' hj hf=>?_) fun he _ hn H' hj hf=>?_
   ·rw[Qw he] at hw⊢
    exact hk _ _ _ _ _ _ _ _ _ _ (.FU hg hx he) hw
   ·exact hk _ _ _ _ _ _ _ _ _ _ (.MD hg hx he hn) (hw.frJ hj hf)
   ·exact hk _ _ _ _ _ _ _ _ _ _ (.fin hg hx he hn) (hw.frJ hj hf)
  ·have o0:cV gs ap≤an:=by omega
   have hr:LC gs ap an=(0,fw,false):=by unfold LC;rw[if_pos o0]
   rw[hr]
   have aEg:=h.hs.le
   have kT:=s7 l l.length
   refine bP rfl (cI _ (fun K' bW=>Qt h.hp rfl h.hs ok (by omega) K' bW) ?_)
   refine Lv (fun v H'=>v=((some p,(bt l l.length).1,(bt l l.length).2,()),())∧H'=H∧(oG l 1<0∨32≤(bt l l.length).1.length)) ?_ ?_
   ·rintro v H' ⟨rfl,rfl,hc⟩
    refine au fun _=>fW (fun WV=>ax (aF h.hp ?_)) fun WV=>?_
    ·have WV:(((bt l l.length).1.length:Nat):Int)>0:=WV
     refine Tp h.hj (bt l l.length).1 (bt l l.length).2 (by omega) (rh ok _) _ (fun bb=>?_) (fun hn hd=>?_) (fun _ _ _ hd=>absurd hd (by omega)) fun hn _ hf _ H2 b be s se hj AZ=>?_
     ·exact hk _ _ _ 10 _ _ _ _ _ _ (.DB hg o0 hc (by omega) (.inl bb)) h
     ·exact hk _ _ _ 1 _ _ _ _ _ _ (.DB hg o0 hc (by omega) (.inr (hd.resolve_left fun hd=>hd kT.2.symm))) h
     ·exact hk _ _ _ _ _ _ _ _ _ _ (.Qq hc (by omega) hn hf) (h.frJ hj AZ)
    ·have WV:¬(((bt l l.length).1.length:Nat):Int)>0:=WV
     exact hk _ _ _ _ _ _ _ _ _ _ (.idle hg o0 hc (by omega)) h
   ·intro C hC
    refine ax (aF h.hp (cd rfl (IP h.hp rfl (by show(0:Int)≠3;decide) h.hs ok (by omega) hF _ (bP rfl (ax (aF h.hp (MM h.hs 1 _ ?_)))))))
    refine fW (fun h0=>au fun _=>fW (fun h1=>ax (aF h.hp (Zy h.hs _ _ ?_))) fun h1=>?_) fun h0=>?_
    ·exact hk _ _ _ _ _ _ _ _ _ _ (.sa hg o0 h0) (h.slot (Dp _ _ _ _))
    ·exact hC _ _ ⟨rfl,rfl,.inr (by have h1:¬(((bt l l.length).1.length:Nat):Int)<32:=h1;omega)⟩
    ·exact hC _ _ ⟨rfl,rfl,.inl (by have h0:¬oG l 1≥0:=h0;omega)⟩)
end
def WU (y:mg.T) (ep:Int) (w now nP e:Int):mg.T:=(y.1,ep,if e=0∧nP=0 then -1 else w,IntKind.i64.wrap (now+y.1))
section
variable {A:PA} {H H':HP} {p:Nat} {rg:Key×Key} {cf:DA} {ps:List Pr} {l:List One} {y:mg.T} {gs:List (List bI)} {ap an:Nat}
theorem qm (h:PW A H p rg cf ps l y gs ap an) (ok:rK l) (hb:ps.length≤1000) (hm:cf.2.2.2.1≤1000) (hI:∀g∈gs,∀x∈g,eM x.2.1=true) (hF:∀(i:Nat) z,l[i]?=some z→z.1=1→lN rg z.2.1=true) (w now:Int) (K:HT [(false,.one (.int .i64)),(false,.row (.cons aM dH)),(false,.one .any)]→HP→Prop)
 (hn:∀e,e≠0→(qk w now=false∨(fy y now).2=true∧(fy y now).1≠w)→K (0,[],er e,()) H)
 (hk:qk w now=true→¬((fy y now).2=true∧(fy y now).1≠w)→∀ep A' nP done e dh l' nQ nR nS H',Nx cf.2.2.2.1 ps l gs ap an nP done e dh l' nQ nR nS→PW A' H' p rg cf dh l' (WU y ep w now nP e) nQ nR nS→K (nP,done,er e,()) H'):C9 (some p) w now H K:=afi _ _ _ _ _ (by
 unfold A9
 refine ax (aF h.hp (bP rfl (bP rfl (ax (aF h.hp ?_)))))
 refine Zf h.hl w now _ (fun hf=>⟨dP 1,cd rfl (hn 1 (by decide) (.inl hf))⟩) (fun _ h1 h2=>⟨dP 7,cd rfl (hn 7 (by decide) (.inr ⟨h1,h2⟩))⟩) ?_
 intro hf dz ep
 refine⟨dP 0,bP rfl ?_⟩
 have hw0:0≤w:=by
  unfold qk at hf
  simp only[Bool.and_eq_true,decide_eq_true_eq] at hf
  exact hf.1
 refine Zn (h.aaT _) ok hb hm hI hF _ ?_
 intro A' nP done e dh l' nQ nR nS H' nx hw
 refine bf (bf ⟨dP e,cM (fun he=>?_) fun he=>?_⟩)
 ·have he:e=0:=by
   have he:bj (er e)=true:=he
   rw[k9] at he
   exact of_decide_eq_true he
  subst he
  refine oK (fun hd=>ax (aF hw.hp ?_)) fun hd=>hk hf dz ep A' _ _ _ _ _ _ _ _ _ nx ?_
  ·refine Ll hw.hl hw0 _ (hk hf dz ep A' _ _ _ _ _ _ _ _ _ nx ?_)
   have:=hw.aaT (y.1,ep,-1,IntKind.i64.wrap (now+y.1))
   unfold WU
   rw[if_pos ⟨rfl,hd⟩]
   exact this
  ·unfold WU
   rw[if_neg fun a=>hd a.2]
   exact hw
 ·have he:e≠0:=by
   have he:bj (er e)=false:=he
   rw[k9] at he
   exact of_decide_eq_false he
  refine bP rfl (hk hf dz ep A' _ _ _ _ _ _ _ _ _ nx ?_)
  unfold WU
  rw[if_neg fun a=>he a.1]
  exact hw)
end
theorem PW.le {A:PA} {H H':HP} {p:Nat} {rg:Key×Key} {cf:DA} {ps:List Pr} {l:List One} {y:mg.T} {gs:List (List bI)} {ap an:Nat} (h:PW A H p rg cf ps l y gs ap an) (f:H.le H'):PW A H' p rg cf ps l y gs ap an:=by
 obtain⟨hh,T,v,g,u,ti,rfl⟩:=h.ht
 exact⟨f.get h.hp,⟨hh,T,v,g,u,⟨f.get ti.ht,f.get ti.hn,ti.ar,ti.cG,ti.sz⟩,rfl⟩,h.o3,h.o16,h.hs.le' f,f.get h.hl,h.hj.mv fun m o hm _=>f.get hm⟩
def Ae (rg:Key×Key) (cf:DA):Bool:=dm rg.1 rg.2&&(decide (1≤cf.2.2.2.1)&&(decide (cf.2.2.2.1≤1000)&&(decide (3≤cf.2.2.1)&&(decide (cf.2.2.1≤16)&&(decide (1≤cf.2.1)&&(decide (cf.2.1≤32)&&(decide (1≤cf.2.2.2.2.1)&&decide (cf.2.2.2.2.1≤1000))))))))
theorem y7 {rg:Key×Key} {cf:DA}:Ae rg cf=true↔dm rg.1 rg.2=true∧1≤cf.2.2.2.1∧cf.2.2.2.1≤1000∧3≤cf.2.2.1∧cf.2.2.1≤16∧1≤cf.2.1∧cf.2.1≤32∧1≤cf.2.2.2.2.1∧cf.2.2.2.2.1≤1000:=by
 unfold Ae
 simp only[Bool.and_eq_true,decide_eq_true_eq]
theorem JG {H:HP} (i:Int) (rg:Key×Key) (cf:DA) (K:HT [(false,.ref),(false,.one .any)]→HP→Prop) (hn:i<0→K (none,er 1,()) H) (h0:Ae rg cf=false→∀H',K (none,er 1,()) H')
 (hk:0≤i→Ae rg cf=true→∀A p H',PW A H' p rg cf [] (List.replicate cf.2.1.toNat vO) (cf.2.2.2.2.1,0,-1,0) [] 0 0→K (some p,er 0,()) H'):C5 i rg cf H K:=afc _ _ _ _ _ (by
 unfold A5
 have no:¬(dm rg.1 rg.2=true∧1≤cf.2.2.2.1∧cf.2.2.2.1≤1000∧3≤cf.2.2.1∧cf.2.2.1≤16∧1≤cf.2.1∧cf.2.1≤32∧1≤cf.2.2.2.2.1∧cf.2.2.2.2.1≤1000)→∀H',K (none,er 1,()) H':=fun h=>h0 (by
  cases e:Ae rg cf with
  |true=>exact absurd (y7.1 e) h
  |false=>rfl)
 refine fW (fun h=>hn h) fun hi=>ai _ (nr _) (bN (fun h=>no (fun a=>absurd (h.symm.trans a.1) (by decide)) _) fun hs=>fW (fun h=>no (fun a=>absurd (show cf.2.2.2.1<1 from h) (by omega)) _) fun h1=>fW (fun h=>no (fun a=>absurd (show cf.2.2.2.1>1000 from h) (by omega)) _) fun h2=>?_)
 have hi:¬i<0:=hi
 have h1:¬cf.2.2.2.1<1:=h1
 have h2:¬cf.2.2.2.1>1000:=h2
 refine ahz _ (fun h=>⟨dP 1,cd rfl (no (fun a=>by omega) _)⟩) ?_
 intro q t n H1 hq hq1 hq2 ht mC WK PU htr
 refine⟨dP 0,bP rfl ?_⟩
 refine ahK _ _ (fun h=>⟨dP 1,cd rfl (no (fun a=>h ⟨a.2.2.2.2.2.1,a.2.2.2.2.2.2.1⟩) _)⟩) ?_
 intro hs1 hs2 sl sb s H2 hle tQ PH ahL
 refine⟨dP 0,bP rfl ?_⟩
 refine ahI _ _ (fun h=>⟨dP 1,cd rfl (no (fun a=>h ⟨a.2.2.2.2.2.2.2.1,a.2.2.2.2.2.2.2.2⟩) _)⟩) ?_
 intro GY EC ls Je
 refine⟨dP 0,bP rfl ?_⟩
 have hl:=Dz (show dm rg.1 rg.2=true from hs)
 refine ai _ (Qp rg (by omega) (by omega)) ?_
 refine afI _ _ ?_
 intro j H3 hj aut
 intro p hp
 have f3:(H2.set ls mg (cf.2.2.2.2.1,0,-1,0)).le (H3.set p kN (i,rg,cf,some t,some sl,some ls,some j,0,0)):=aut.trans (dI hp)
 have f2:H2.le (H3.set p kN (i,rg,cf,some t,some sl,some ls,some j,0,0)):=(dI Je).trans f3
 have f1:=hle.trans f2
 refine hk (by omega) (y7.2 (by exact⟨hs,by omega⟩)) ⟨i,0,t,n,q,sl,sb,ls,j,0,0,s,⟨none,0,0⟩,⟨none,0,0⟩⟩ p _ ⟨cq _ _ _ _,?_,hq1,hq2,ahL.le' f2,f3.get (cq _ _ _ _),hj.mv fun m o hm _=>(dI hp).get hm⟩
 obtain⟨hh,T,v,g,u,ti,e⟩:=htr
 exact⟨hh,T,v,g,u,⟨f1.get ti.ht,f1.get ti.hn,ti.ar,ti.cG,ti.sz⟩,e⟩)
theorem MC:ZE ((2,3,3,9,4,3),()):=afl fun H K hk=>by
 unfold A15
 exact hk
def Fg:a_:=(0,0,2,[97],[],[],[],0)
def pR (st:Int) (a:eH):List One:=[(st,Fg,a),vO,vO]
section
variable {ps dh:List Pr} {l':List One} {nQ:List (List bI)} {nR nS:Nat} {nP e:Int} {done:List (a_×eH)}
theorem nx1 (h:Nx 9 ps (pR 1 fw) [] 0 0 nP done e dh l' nQ nR nS):nP=4∧e=0∧dh=ps∧l'=pR 2 fw∧nQ=[]∧nR=0∧nS=0:=by
 have f:¬(oG (pR 1 fw) 1<0∨32≤(bt (pR 1 fw) (pR 1 fw).length).1.length):=by decide
 cases h with
 |bad a=>simp at a
 |app a=>simp at a
 |FU _ a=>simp at a
 |MD _ a=>simp at a
 |fin _ a=>simp at a
 |sa=>exact⟨rfl,by decide,rfl,by kernel_rfl,rfl,rfl,rfl⟩
 |DB _ _ a=>exact absurd a f
 |Qq a=>exact absurd a f
 |idle _ _ a=>exact absurd a f
theorem nx2 (h:Nx 9 ps (pR 2 fw) [] 0 0 nP done e dh l' nQ nR nS):nP=5∧e=0∧dh=ps∧l'=pR 2 fw∧nQ=[[(0,Fg,fw)]]∧nR=0∧nS=0:=by
 have f:ph (bt (pR 2 fw) (pR 2 fw).length).1 (bt (pR 2 fw) (pR 2 fw).length).2=true:=by decide
 cases h with
 |bad a=>simp at a
 |app a=>simp at a
 |FU _ a=>simp at a
 |MD _ a=>simp at a
 |fin _ a=>simp at a
 |sa _ _ a=>exact absurd a (by decide)
 |DB _ _ _ _ a=>exact a.elim (fun a=>absurd rfl a) fun a=>absurd (a.symm.trans f) (by decide)
 |Qq a=>exact⟨rfl,rfl,rfl,rfl,by kernel_rfl,rfl,rfl⟩
 |idle _ _ _ a=>exact absurd a (by decide)
theorem nx3 (h:Nx 9 [] (pR 2 fw) [[(0,Fg,fw)]] 0 0 nP done e dh l' nQ nR nS):∃a,nP=1∧e=0∧done.length=1∧dh.length=1∧l'=pR 2 fw∧nQ=[[(0,Fg,a)]]∧nR=1∧nS=0:=by
 cases h with
 |bad a b c=>simp at a;subst a;simp at b;subst b;exact(c rfl rfl rfl (by decide)).elim
 |@app _ _ res _ a b c d=>
  simp at a;subst a;simp at b;subst b
  match res,c with
  |[r],_=>exact⟨r,rfl,rfl,rfl,d rfl rfl rfl (by decide),rfl,rfl,rfl,rfl⟩
 |FU a=>simp at a
 |MD a=>simp at a
 |fin a=>simp at a
 |sa a=>simp at a
 |DB a=>simp at a
 |Qq _ _ a=>simp at a
 |idle a=>simp at a
theorem nx4 {a:eH} (h:Nx 9 ps (pR 2 fw) [[(0,Fg,a)]] 1 0 nP done e dh l' nQ nR nS):nP=2∧e=0∧dh=ps∧l'=pR 3 a∧nQ=[]∧nR=0∧nS=0:=by
 have f:cV [[((0:Int),Fg,a)]] 1=1:=rfl
 cases h with
 |bad a=>simp at a
 |app a=>simp at a
 |FU _ a b=>simp at a;subst a;exact absurd rfl b
 |MD _ a b c=>exact absurd rfl c
 |fin _ a=>simp at a;subst a;exact⟨rfl,rfl,rfl,rfl,rfl,rfl,rfl⟩
 |sa _ a=>rw[f] at a;exact absurd a (by decide)
 |DB _ a=>rw[f] at a;exact absurd a (by decide)
 |Qq _ _ a=>simp at a
 |idle _ a=>rw[f] at a;exact absurd a (by decide)
theorem nx5 {a:eH} (h:Nx 9 ps (pR 3 a) [] 0 0 nP done e dh l' nQ nR nS):nP=0∧dh=ps:=by
 have f:(bt (pR 3 a) 3).1=[]:=rfl
 have f1:oG (pR 3 a) 1= -1:=rfl
 cases h with
 |bad a=>simp at a
 |app a=>simp at a
 |FU _ a=>simp at a
 |MD _ a=>simp at a
 |fin _ a=>simp at a
 |sa _ _ a=>rw[f1] at a;exact absurd a (by decide)
 |DB _ _ _ a=>rw[show(pR 3 _).length=3 from rfl,f] at a;exact absurd a (by decide)
 |Qq _ a=>rw[show(pR 3 _).length=3 from rfl,f] at a;exact absurd a (by decide)
 |idle _ _ _ a=>exact⟨rfl,rfl⟩
end
theorem DC:kS Fg:=⟨by decide,by decide,by decide,by decide⟩
theorem yn (st:Int) (h0:1≤st) (h1:st≤4) (a:eH):rK (pR st a):=fun x hx=>by
 simp only[pR,List.mem_cons,List.not_mem_nil,or_false] at hx
 rcases hx with rfl|rfl|rfl
 ·exact⟨by show(0:Int)≤st;omega,h1,DC,fun e=>by have e:st=0:=e;omega⟩
 ·exact xH
 ·exact xH
theorem s6 (st:Int) (a:eH):∀(i:Nat) z,(pR st a)[i]?=some z→z.1=1→lN ([],[]) z.2.1=true:=fun i z hz h1=>by
 have:=List.mem_of_getElem? hz
 simp only[pR,List.mem_cons,List.not_mem_nil,or_false] at this
 rcases this with rfl|rfl|rfl
 ·rfl
 ·exact absurd h1 (by decide)
 ·exact absurd h1 (by decide)
theorem ang (H:HP) (K:HT [(false,.one .bool)]→HP→Prop) (hk:∀H',K (true,()) H'):C4 H K:=afj _ _ (by
 unfold A4
 refine ai _ MC (JG 0 ([],[]) (2,3,3,9,4,3) _ (fun h=>absurd h (by decide)) (fun h=>absurd h (by decide)) ?_)
 intro _ _ A p H1 h
 refine ai _ MC (JG (-1) ([],[]) (2,3,3,9,4,3) _ (fun _=>?_) (fun h=>absurd h (by decide)) (fun h=>absurd h (by decide)))
 refine bP rfl ⟨dP 0,bP rfl (YZ (n:=97) (by decide) ?_)⟩
 refine ME h.hp rfl (by show(0:Int)≠3;decide) h.hs Fg DC _ (fun h=>absurd h (by decide)) (fun _ h=>absurd (show lN ([],[]) Fg=false from h) (by decide)) fun _ _=>?_
 have h2:=h.slot (Dq _ Fg)
 have e1:jy (List.replicate 3 vO) Fg=(0,0,pR 1 fw):=by kernel_rfl
 rw[show((2,3,3,9,4,3):DA).2.1.toNat=3 from rfl,e1] at h2
 rw[show((2,3,3,9,4,3):DA).2.1.toNat=3 from rfl,e1]
 have hold:∀{y:mg.T},(y.2.2.1= -1∨y.2.2.1=0)→¬(qk 0 0=false∨(fy y 0).2=true∧(fy y 0).1≠0):=fun hy hh=>by
  rcases hh with hh|⟨_,hh⟩
  ·exact absurd hh (by decide)
  ·unfold fy at hh
   split at hh
   ·exact hh rfl
   ·exact hy.elim (fun e=>by rename_i bb;exact bb (.inl e)) hh
 refine qm h2 (yn 1 (by decide) (by decide) _) (by decide) (by decide) (fun g hg=>nomatch hg) (s6 _ _) 0 0 _ (fun _ _ hh=>absurd hh (hold (.inl rfl))) ?_
 intro _ _ ep1 A1 aEb ayA e1 ps1 l1 gs1 ap1 an1 H2 x1 w1
 obtain⟨rfl,rfl,rfl,rfl,rfl,rfl,rfl⟩:=nx1 x1
 refine qm w1 (yn 2 (by decide) (by decide) _) (by decide) (by decide) (fun g hg=>nomatch hg) (s6 _ _) 0 0 _ (fun _ _ hh=>absurd hh (hold (.inr rfl))) ?_
 intro _ _ ep2 A2 aEc ayB e2 ps2 l2 gs2 ap2 an2 H3 x2 w2
 obtain⟨rfl,rfl,rfl,rfl,rfl,rfl,rfl⟩:=nx2 x2
 have hI:∀(a:eH),∀g∈[[((0:Int),Fg,a)]],∀x∈g,eM x.2.1=true:=fun a g hg x hx=>by
  rw[List.mem_singleton.1 hg] at hx
  rw[List.mem_singleton.1 hx]
  show eM Fg=true
  decide
 refine qm w2 (yn 2 (by decide) (by decide) _) (by decide) (by decide) (hI _) (s6 _ _) 0 0 _ (fun _ _ hh=>absurd hh (hold (.inr rfl))) ?_
 intro _ _ ep3 A3 aEd ayC e3 ps3 l3 gs3 ap3 an3 H4 x3 w3
 obtain⟨a,rfl,rfl,hd,hp,rfl,rfl,rfl,rfl⟩:=nx3 x3
 refine qm w3 (yn 2 (by decide) (by decide) _) (by omega) (by decide) (hI _) (s6 _ _) 0 0 _ (fun _ _ hh=>absurd hh (hold (.inr rfl))) ?_
 intro _ _ ep4 A4 aEe ayD e4 ps4 l4 gs4 ap4 an4 H5 x4 w4
 obtain⟨rfl,rfl,rfl,rfl,rfl,rfl,rfl⟩:=nx4 x4
 refine qm w4 (yn 3 (by decide) (by decide) _) (by omega) (by decide) (fun g hg=>nomatch hg) (s6 _ _) 0 0 _ (fun _ _ hh=>absurd hh (hold (.inr rfl))) ?_
 intro _ _ ep5 A5 aEf ayE e5 ps5 l5 gs5 ap5 an5 H6 x5 w5
 obtain⟨rfl,rfl⟩:=nx5 x5
 refine anh (a:=1) (b:=1) (by decide) (cd rfl ⟨dP 0,cd rfl (cd rfl (cd rfl (cd rfl (au fun _=>cd ?_ (cd rfl (cd rfl ?_))))))⟩)
 ·rw[hd];rfl
 refine HZ w5.hp rfl w5.ht w5.o3 (by omega) _ (au fun _=>?_)
 rw[hp]
 exact hk _)
open Go Go.Gp Go.Th
def VK:eH:=(-1,false,[],[],0)
structure PI (rg:Key×Key) (m:Int) (T:List bI) (l:List One) (gs:List (List bI)) (ap an:Nat):Prop where
 n1:∀(j k:Nat) t u,T[j]?=some t→T[k]?=some u→t.1=u.1→j=k
 n2:∀(j k:Nat) t u,T[j]?=some t→T[k]?=some u→t.2.1.2.1=u.2.1.2.1→j=k
 lt:∀t∈T,t.2.1.2.1<m
 ts:∀t∈T,∃(i:Nat) (s:One),t.1=(i:Int)∧l[i]?=some s∧s.2.1=t.2.1∧(s.1=1∨s.1=2∨s.1=3)∧(s.1=3→s.2.2=t.2.2)∧(s.1=1→t.2.2.1= -1)∧(gs=[]→s.1=2→t.2.2.1= -1)
 st:∀(i:Nat) (s:One),l[i]?=some s→s.1≠0→eM s.2.1=true∧lN rg s.2.1=true∧∃t∈T,t.1=(i:Int)
 gt:∀(k:Nat) x,gs.flatten[k]?=some x→∃t∈T,t.1=x.1∧t.2.1=x.2.1∧(k<cV gs ap→t.2.2=x.2.2)∧(cV gs ap≤k→t.2.2.1= -1)∧(an≤k→∃(i:Nat) (s:One),x.1=(i:Int)∧l[i]?=some s∧s.1=2)
 n3:∀(j k:Nat) x z,gs.flatten[j]?=some x→gs.flatten[k]?=some z→x.1=z.1→j=k
 cv:gs≠[]→∀(i:Nat) (s:One),l[i]?=some s→s.1=2→∃(k:Nat) (x:bI),an≤k∧gs.flatten[k]?=some x∧x.1=(i:Int)
 op:gs≠[]→an<gs.flatten.length
 ad:an≤cV gs ap
section
variable {rg:Key×Key} {m:Int} {T:List bI} {l:List One} {gs:List (List bI)} {ap an:Nat}
theorem PI.new (rg:Key×Key) (n:Nat):PI rg 0 [] (List.replicate n vO) [] 0 0:=by
 refine⟨by simp,by simp,by simp,by simp,fun i s h h0=>?_,by simp,by simp,by simp,by simp,by simp⟩
 have:=List.mem_replicate.1 (List.mem_of_getElem? h)
 rw[this.2] at h0
 exact absurd rfl h0
theorem PI.up (h:PI rg m T l gs ap an):PI rg (m+1) T l gs ap an:=⟨h.n1,h.n2,fun t ht=>by have:=h.lt t ht;omega,h.ts,h.st,h.gt,h.n3,h.cv,h.op,h.ad⟩
theorem PI.post (h:PI rg m T l gs ap an) {i:Nat} {s0:One} (hi:l[i]?=some s0) (h0:s0.1=0) {r:a_} (hm:eM r=true) (hf:lN rg r=true) (hr:r.2.1=m):PI rg (m+1) (T++[((i:Int),r,VK)]) (l.set i (1,r,fw)) gs ap an:=by
 have WT:i<l.length:=by
  rcases Nat.lt_or_ge i l.length with a|a
  ·exact a
  ·rw[List.getElem?_eq_none a] at hi;cases hi
 have ho:∀t∈T,t.1≠(i:Int):=fun t ht e=>by
  obtain⟨k,s,e1,e2,_,e3,_⟩:=h.ts t ht
  have:k=i:=by omega
  subst this
  rw[hi] at e2;cases e2
  omega
 have alU:∀(k:Nat) (s:One),k≠i→l[k]?=some s→(l.set i (1,r,fw))[k]?=some s:=fun k s hk hs=>by
  rw[List.getElem?_set_ne (Ne.symm hk)];exact hs
 have mG:(l.set i (1,r,fw))[i]?=some (1,r,fw):=by rw[List.getElem?_set_self WT]
 have Fh:∀(k:Nat) (s:One),(l.set i (1,r,fw))[k]?=some s→(k=i∧s=(1,r,fw))∨(k≠i∧l[k]?=some s):=fun k s hs=>by
  by_cases hk:k=i
  ·subst hk;rw[mG] at hs;cases hs;exact .inl ⟨rfl,rfl⟩
  ·rw[List.getElem?_set_ne (Ne.symm hk)] at hs;exact .inr ⟨hk,hs⟩
 have hT:∀(j:Nat) t,(T++[((i:Int),r,VK)])[j]?=some t→T[j]?=some t∧t∈T∨j=T.length∧t=((i:Int),r,VK):=fun j t ht=>by
  rw[List.getElem?_append] at ht
  split at ht
  ·exact .inl ⟨ht,List.mem_of_getElem? ht⟩
  ·rename_i hj
   have:j - T.length=0:=by
    rcases Nat.eq_zero_or_pos (j - T.length) with a|a
    ·exact a
    ·rw[List.getElem?_eq_none (by simp;omega)] at ht;cases ht
   rw[this] at ht
   cases ht
   exact .inr ⟨by omega,rfl⟩
 refine⟨fun j k t u ht hu e=>?_,fun j k t u ht hu e=>?_,fun t ht=>?_,fun t ht=>?_,fun k s hs bb=>?_,fun k x hx=>?_,h.n3,fun hg k s hs h2=>?_,h.op,h.ad⟩
 ·rcases hT j t ht with⟨a,b⟩|⟨a,b⟩<;>rcases hT k u hu with⟨c,d⟩|⟨c,d⟩
  ·exact h.n1 j k t u a c e
  ·subst d;exact absurd e (ho t b)
  ·subst b;exact absurd e.symm (ho u d)
  ·omega
 ·rcases hT j t ht with⟨a,b⟩|⟨a,b⟩<;>rcases hT k u hu with⟨c,d⟩|⟨c,d⟩
  ·exact h.n2 j k t u a c e
  ·subst d;have:=h.lt t b;have e:t.2.1.2.1=r.2.1:=e;omega
  ·subst b;have:=h.lt u d;have e:r.2.1=u.2.1.2.1:=e;omega
  ·omega
 ·rcases List.mem_append.1 ht with ht|ht
  ·have:=h.lt t ht;omega
  ·rw[List.mem_singleton.1 ht];show r.2.1<m+1;omega
 ·rcases List.mem_append.1 ht with vG|ht
  ·obtain⟨k,s,e1,e2,e3⟩:=h.ts t vG
   exact⟨k,s,e1,alU k s (fun e=>ho t vG (by rw[e1,e])) e2,e3⟩
  ·rw[List.mem_singleton.1 ht]
   exact⟨i,(1,r,fw),rfl,mG,rfl,.inl rfl,fun a=>absurd a (by show(1:Int)≠3;decide),fun _=>rfl,fun _ a=>absurd a (by show(1:Int)≠2;decide)⟩
 ·rcases Fh k s hs with⟨rfl,rfl⟩|⟨a,b⟩
  ·exact⟨hm,hf,_,List.mem_append_right _ (List.mem_singleton.2 rfl),rfl⟩
  ·obtain⟨c1,c2,t,c3,c4⟩:=h.st k s b bb
   exact⟨c1,c2,t,List.mem_append_left _ c3,c4⟩
 ·obtain⟨t,a1,a2,a3,a4,a5,a6⟩:=h.gt k x hx
  refine⟨t,List.mem_append_left _ a1,a2,a3,a4,a5,fun hk=>?_⟩
  obtain⟨i',s,b1,b2,b3⟩:=a6 hk
  refine⟨i',s,b1,alU i' s (fun e=>?_) b2,b3⟩
  subst e
  rw[hi] at b2;cases b2;omega
 ·rcases Fh k s hs with⟨rfl,rfl⟩|⟨a,b⟩
  ·exact absurd h2 (by show(1:Int)≠2;decide)
  ·exact h.cv hg k s b h2
theorem PI.slot (h:PI rg m T l gs ap an) {x:bI} (hx:gs.flatten[an]?=some x):∃(i:Nat) (s:One),x.1=(i:Int)∧l[i]?=some s∧s.1=2:=by
 obtain⟨t,_,_,_,_,_,a⟩:=h.gt an x hx
 exact a (Nat.le_refl _)
theorem MF {i:Int} {k:Nat} {s:One} (e:i=(k:Int)) (h:l[k]?=some s):jQ l i=some s:=by
 subst e
 rw[Th.pQ];exact h
theorem PI.MD (h:PI rg m T l gs ap an) (I3:gs[ap]?=none) {x:bI} (hx:gs.flatten[an]?=some x):∃(i:Nat) (s:One),x.1=(i:Int)∧l[i]?=some s∧s.1=2∧(dr l x.1 x.2.2).2=l.set i (3,s.2.1,x.2.2)∧
 ((∀t∈T,∃(k:Nat) (s':One),t.1=(k:Int)∧(l.set i (3,s.2.1,x.2.2))[k]?=some s'∧s'.2.1=t.2.1∧(s'.1=1∨s'.1=2∨s'.1=3)∧(s'.1=3→s'.2.2=t.2.2)∧(s'.1=1→t.2.2.1= -1)∧(s'.1=2→k≠i))∧
 (∀(k:Nat) (s':One),(l.set i (3,s.2.1,x.2.2))[k]?=some s'→s'.1≠0→eM s'.2.1=true∧lN rg s'.2.1=true∧∃t∈T,t.1=(k:Int))∧
 (∀(k:Nat) (s':One),(l.set i (3,s.2.1,x.2.2))[k]?=some s'→s'.1=2→k≠i∧l[k]?=some s')):=by
 obtain⟨i,s,e1,e2,e3⟩:=h.slot hx
 have WT:i<l.length:=by
  rcases Nat.lt_or_ge i l.length with a|a
  ·exact a
  ·rw[List.getElem?_eq_none a] at e2;cases e2
 have mG:(l.set i (3,s.2.1,x.2.2))[i]?=some (3,s.2.1,x.2.2):=by rw[List.getElem?_set_self WT]
 have Fh:∀(k:Nat) (s':One),(l.set i (3,s.2.1,x.2.2))[k]?=some s'→(k=i∧s'=(3,s.2.1,x.2.2))∨(k≠i∧l[k]?=some s'):=fun k s' hs=>by
  by_cases hk:k=i
  ·subst hk;rw[mG] at hs;cases hs;exact .inl ⟨rfl,rfl⟩
  ·rw[List.getElem?_set_ne (Ne.symm hk)] at hs;exact .inr ⟨hk,hs⟩
 have hdn:an<cV gs ap:=by
  have aY:an<gs.flatten.length:=by
   rcases Nat.lt_or_ge an gs.flatten.length with a|a
   ·exact a
   ·rw[List.getElem?_eq_none a] at hx;cases hx
  have o0:gs.length≤ap:=List.getElem?_eq_none_iff.1 I3
  have:cV gs ap=gs.flatten.length:=by unfold cV;rw[List.take_of_length_le o0]
  omega
 refine⟨i,s,e1,e2,e3,?_,fun t ht=>?_,fun k s' hs bb=>?_,fun k s' hs h2=>?_⟩
 ·unfold dr
  rw[MF e1 e2]
  simp only
  rw[if_pos e3,e1,Int.toNat_natCast]
 ·obtain⟨k,s',b1,b2,b3,b4,b5,b6,b7⟩:=h.ts t ht
  by_cases hk:k=i
  ·subst hk
   rw[e2] at b2;cases b2
   refine⟨k,_,b1,mG,b3,.inr (.inr rfl),fun _=>?_,fun a=>absurd a (by show(3:Int)≠1;decide),fun a=>absurd a (by show(3:Int)≠2;decide)⟩
   obtain⟨t0,c1,c2,c3,c4,_⟩:=h.gt an x hx
   obtain⟨j,hj⟩:=List.mem_iff_getElem?.1 ht
   obtain⟨j',hj'⟩:=List.mem_iff_getElem?.1 c1
   have:=h.n1 j j' t t0 hj hj' (by rw[b1,c2,e1])
   subst this
   rw[hj] at hj';cases hj'
   exact(c4 hdn).symm
  ·exact⟨k,s',b1,by rw[List.getElem?_set_ne (Ne.symm hk)];exact b2,b3,b4,b5,b6,fun _=>hk⟩
 ·rcases Fh k s' hs with⟨rfl,rfl⟩|⟨a,b⟩
  ·exact h.st k s e2 (by omega)
  ·exact h.st k s' b bb
 ·rcases Fh k s' hs with⟨rfl,rfl⟩|⟨a,b⟩
  ·exact absurd h2 (by show(3:Int)≠2;decide)
  ·exact⟨a,b⟩
theorem PI.auu (h:PI rg m T l gs ap an) (I3:gs[ap]?=none) {x:bI} (hx:gs.flatten[an]?=some x) (bb:an+1≠gs.flatten.length):PI rg m T (dr l x.1 x.2.2).2 gs ap (an+1):=by
 obtain⟨i,s,e1,e2,e3,e4,a1,a2,a3⟩:=h.MD I3 hx
 rw[e4]
 have aY:an<gs.flatten.length:=by
  rcases Nat.lt_or_ge an gs.flatten.length with a|a
  ·exact a
  ·rw[List.getElem?_eq_none a] at hx;cases hx
 have hg:gs≠[]:=fun e=>by rw[e] at aY;cases aY
 have o0:gs.length≤ap:=List.getElem?_eq_none_iff.1 I3
 have hdn:cV gs ap=gs.flatten.length:=by unfold cV;rw[List.take_of_length_le o0]
 refine⟨h.n1,h.n2,h.lt,fun t ht=>?_,a2,fun k z hz=>?_,h.n3,fun _ k s' hs h2=>?_,fun _=>by omega,by omega⟩
 ·obtain⟨k,s',b1,b2,b3,b4,b5,b6,_⟩:=a1 t ht
  exact⟨k,s',b1,b2,b3,b4,b5,b6,fun e=>absurd e hg⟩
 ·obtain⟨t,b1,b2,b3,b4,b5,b6⟩:=h.gt k z hz
  refine⟨t,b1,b2,b3,b4,b5,fun hk=>?_⟩
  obtain⟨i',s',c1,c2,c3⟩:=b6 (by omega)
  refine⟨i',s',c1,?_,c3⟩
  have:i'≠i:=fun e=>by
   subst e
   have:=h.n3 k an z x hz hx (by rw[c1,e1])
   omega
  rw[List.getElem?_set_ne (Ne.symm this)];exact c2
 ·obtain⟨b1,b2⟩:=a3 k s' hs h2
  obtain⟨k',z,c1,c2,c3⟩:=h.cv hg k s' b2 h2
  refine⟨k',z,?_,c2,c3⟩
  have:k'≠an:=fun e=>by
   subst e
   rw[hx] at c2;cases c2
   omega
  omega
theorem PI.fin (h:PI rg m T l gs ap an) (I3:gs[ap]?=none) {x:bI} (hx:gs.flatten[an]?=some x) (bb:an+1=gs.flatten.length):PI rg m T (dr l x.1 x.2.2).2 [] 0 0:=by
 obtain⟨i,s,e1,e2,e3,e4,a1,a2,a3⟩:=h.MD I3 hx
 rw[e4]
 have hg:gs≠[]:=fun e=>by rw[e] at hx;simp at hx
 refine⟨h.n1,h.n2,h.lt,fun t ht=>?_,a2,fun k z hz=>by simp at hz,fun j k z z' hz=>by simp at hz,fun e=>absurd rfl e,fun e=>absurd rfl e,by simp[cV]⟩
 obtain⟨k,s',b1,b2,b3,b4,b5,b6,_⟩:=a1 t ht
 refine⟨k,s',b1,b2,b3,b4,b5,b6,fun _ h2=>?_⟩
 obtain⟨c1,c2⟩:=a3 k s' b2 h2
 obtain⟨k',z,d1,d2,d3⟩:=h.cv hg k s' c2 h2
 have aY:k'<gs.flatten.length:=by
  rcases Nat.lt_or_ge k' gs.flatten.length with a|a
  ·exact a
  ·rw[List.getElem?_eq_none a] at d2;cases d2
 have:k'=an:=by omega
 subst this
 rw[hx] at d2;cases d2
 omega
theorem PI.emp (h:PI rg m T l gs ap an) (I3:gs[ap]?=none) (hd:cV gs ap≤an):gs=[]:=by
 by_cases hg:gs=[]
 ·exact hg
 have o0:gs.length≤ap:=List.getElem?_eq_none_iff.1 I3
 have:cV gs ap=gs.flatten.length:=by unfold cV;rw[List.take_of_length_le o0]
 have:=h.op hg
 omega
theorem PI.sa (h:PI rg m T l [] ap an) (i:Int):PI rg m T (kJ l i 2 [1]).2 [] ap an:=by
 unfold kJ
 split
 ·exact h
 rename_i s hs
 split
 ·rename_i h1
  have h1:s.1=1:=by simpa using h1
  obtain⟨k,rfl,hk⟩:=q7 hs
  rw[Int.toNat_natCast]
  have WT:k<l.length:=by
   rcases Nat.lt_or_ge k l.length with a|a
   ·exact a
   ·rw[List.getElem?_eq_none a] at hk;cases hk
  have mG:(l.set k (2,s.2))[k]?=some (2,s.2):=by rw[List.getElem?_set_self WT]
  refine⟨h.n1,h.n2,h.lt,fun t ht=>?_,fun j s' jl bb=>?_,fun j z hz=>by simp at hz,h.n3,fun e=>absurd rfl e,fun e=>absurd rfl e,h.ad⟩
  ·obtain⟨j,s',b1,b2,b3,b4,b5,b6,b7⟩:=h.ts t ht
   by_cases hj:j=k
   ·subst hj
    rw[hk] at b2;cases b2
    exact⟨j,_,b1,mG,b3,.inr (.inl rfl),fun a=>absurd a (by show(2:Int)≠3;decide),fun a=>absurd a (by show(2:Int)≠1;decide),fun _ _=>b6 h1⟩
   ·exact⟨j,s',b1,by rw[List.getElem?_set_ne (Ne.symm hj)];exact b2,b3,b4,b5,b6,b7⟩
  ·by_cases hj:j=k
   ·subst hj
    rw[mG] at jl;cases jl
    exact h.st j s hk (by omega)
   ·rw[List.getElem?_set_ne (Ne.symm hj)] at jl
    exact h.st j s' jl bb
 ·exact h
end
def vS (done:List (a_×eH)) (t:bI):bI:=match done.find? (fun d=>(d.1.2.1:Int)==t.2.1.2.1) with|some d=>(t.1,t.2.1,d.2)|none=>t
def rf (T:List bI) (done:List (a_×eH)):List bI:=T.map (vS done)
theorem ij (T:List bI):rf T []=T:=List.map_id T
structure KF (T:List bI) (done:List (a_×eH)):Prop where
 one:∀d∈done,∃t∈T,t.2.1=d.1∧t.2.2.1= -1
 inj:∀(j k:Nat) d f,done[j]?=some d→done[k]?=some f→d.1.2.1=f.1.2.1→j=k
theorem KF.nil (T:List bI):KF T []:=⟨fun d hd=>(by simp at hd),fun j k d f h=>by simp at h⟩
theorem aaV {g:List bI} {res:List eH} {k:Nat} {d:a_×eH} (h:(uJ g res)[k]?=some d):∃x a,g[k]?=some x∧res[k]?=some a∧d=(x.2.1,a):=by
 unfold uJ at h
 rw[List.getElem?_zipWith] at h
 split at h
 ·rename_i x a h1 h2
  exact⟨x,a,h1,h2,(Option.some.inj h).symm⟩
 ·cases h
theorem ahM {g:List bI} {res:List eH} {k:Nat} {d:bI} (h:(mh g res)[k]?=some d):∃x a,g[k]?=some x∧res[k]?=some a∧d=(x.1,x.2.1,a):=by
 unfold mh at h
 rw[List.getElem?_zipWith] at h
 split at h
 ·rename_i x a h1 h2
  exact⟨x,a,h1,h2,(Option.some.inj h).symm⟩
 ·cases h
theorem xM {gs:List (List bI)} {ap:Nat} {g:List bI} {res:List eH} (hg:gs[ap]?=some g) (hl:res.length=g.length) {k:Nat} {z:bI} (hz:(gs.set ap (mh g res)).flatten[k]?=some z):
 ∃x,gs.flatten[k]?=some x∧z.1=x.1∧z.2.1=x.2.1∧((k<cV gs ap∨cV gs ap+g.length≤k)∧z=x∨∃j a,k=cV gs ap+j∧g[j]?=some x∧res[j]?=some a∧z.2.2=a):=by
 rw[qD hg] at hz
 rw[pD hg]
 have hd:(gs.take ap).flatten.length=cV gs ap:=rfl
 rw[List.getElem?_append] at hz⊢
 rw[hd] at hz⊢
 split at hz
 ·rename_i hk
  rw[if_pos hk]
  exact⟨z,hz,rfl,rfl,.inl ⟨.inl hk,rfl⟩⟩
 ·rename_i hk
  rw[if_neg hk]
  rw[List.getElem?_append,yw hl] at hz
  rw[List.getElem?_append]
  split at hz
  ·rename_i hj
   rw[if_pos hj]
   obtain⟨x,a,h1,h2,rfl⟩:=ahM hz
   exact⟨x,h1,rfl,rfl,.inr ⟨k - cV gs ap,a,by omega,h1,h2,rfl⟩⟩
  ·rename_i hj
   rw[if_neg hj]
   exact⟨z,hz,rfl,rfl,.inl ⟨.inr (by omega),rfl⟩⟩
section
variable {rg:Key×Key} {m:Int} {T:List bI} {l:List One} {gs:List (List bI)} {ap an:Nat}
theorem PI.same (h:PI rg m T l gs ap an) {t u:bI} (ht:t∈T) (hu:u∈T) (e:t.1=u.1∨t.2.1.2.1=u.2.1.2.1):t=u:=by
 obtain⟨j,hj⟩:=List.mem_iff_getElem?.1 ht
 obtain⟨k,hk⟩:=List.mem_iff_getElem?.1 hu
 have:j=k:=e.elim (h.n1 j k t u hj hk) (h.n2 j k t u hj hk)
 subst this
 rw[hj] at hk
 exact Option.some.inj hk
theorem PI.dA (h:PI rg m T l gs ap an) {g:List bI} {res:List eH} (hg:gs[ap]?=some g) (hl:res.length=g.length) {t:bI} (ht:t∈T):
 (∃(i:Nat) (x:bI) (a:eH),g[i]?=some x∧res[i]?=some a∧x.1=t.1∧x.2.1=t.2.1∧vS (uJ g res) t=(t.1,t.2.1,a))∨
 ((∀(i:Nat) (x:bI),g[i]?=some x→x.1≠t.1)∧vS (uJ g res) t=t):=by
 unfold vS
 cases hf:(uJ g res).find? (fun d=>(d.1.2.1:Int)==t.2.1.2.1) with
 |some d=>
  obtain⟨k,hk⟩:=List.mem_iff_getElem?.1 (List.mem_of_find?_eq_some hf)
  have hs:=List.find?_some hf
  simp only[beq_iff_eq] at hs
  obtain⟨x,a,h1,h2,rfl⟩:=aaV hk
  obtain⟨t0,b1,b2,b3,_⟩:=h.gt _ x (pV hg h1)
  have:t0=t:=h.same b1 ht (.inr (by rw[b3];exact hs))
  subst this
  exact .inl ⟨k,x,a,h1,h2,b2.symm,b3.symm,rfl⟩
 |none=>
  refine .inr ⟨fun i x hx e=>?_,rfl⟩
  obtain⟨t0,b1,b2,b3,_⟩:=h.gt _ x (pV hg hx)
  have:t0=t:=h.same b1 ht (.inl (by rw[b2];exact e))
  subst this
  obtain⟨hi,_⟩:=List.getElem?_eq_some_iff.1 hx
  have hm:(x.2.1,res[i]'(by omega))∈uJ g res:=by
   refine List.mem_iff_getElem?.2 ⟨i,?_⟩
   unfold uJ
   rw[List.getElem?_zipWith,hx,List.getElem?_eq_getElem (by omega:i<res.length)]
  have:=List.find?_eq_none.1 hf _ hm
  simp only[beq_iff_eq] at this
  exact this (by rw[b3])
theorem PI.app (h:PI rg m T l gs ap an) {g:List bI} {res:List eH} (hg:gs[ap]?=some g) (hl:res.length=g.length):PI rg m (rf T (uJ g res)) l (gs.set ap (mh g res)) (ap+1) an:=by
 have uY:=yw hl
 have bb:gs≠[]:=fun e=>by rw[e] at hg;simp at hg
 have alV:gs.set ap (mh g res)≠[]:=fun e=>bb (List.eq_nil_of_length_eq_zero (by have:=congrArg List.length e;simpa using this))
 have hd:cV (gs.set ap (mh g res)) (ap+1)=cV gs ap+g.length:=by rw[DM hg uY,hG hg]
 have dZ:∀(j:Nat) t',(rf T (uJ g res))[j]?=some t'→∃t,T[j]?=some t∧t'.1=t.1∧t'.2.1=t.2.1:=fun j t' e=>by
  unfold rf at e
  rw[List.getElem?_map] at e
  cases ht:T[j]? with
  |none=>rw[ht] at e;cases e
  |some t=>
   rw[ht] at e
   refine⟨t,rfl,?_⟩
   have e:=(Option.some.inj e).symm
   rcases h.dA hg hl (List.mem_of_getElem? ht) with⟨_,_,a,_,_,_,_,e'⟩|⟨_,e'⟩
   ·rw[e,e'];exact⟨rfl,rfl⟩
   ·rw[e,e'];exact⟨rfl,rfl⟩
 have uv:∀{i:Nat} {x:bI},g[i]?=some x→∃(k:Nat) (s:One),x.1=(k:Int)∧l[k]?=some s∧s.1=2:=fun hx=>by
  obtain⟨t,_,_,_,_,_,e⟩:=h.gt _ _ (pV hg hx)
  exact e (by have:=h.ad;omega)
 have vp:(gs.set ap (mh g res)).flatten.length=gs.flatten.length:=by
  rw[qD hg,pD hg]
  simp only[List.length_append,uY]
 refine⟨fun j k t u ht hu e=>?_,fun j k t u ht hu e=>?_,fun t ht=>?_,fun t ht=>?_,fun i s hs h0=>?_,fun k z hz=>?_,fun j k x z hx hz e=>?_,fun _ i s hs h2=>?_,fun _=>by rw[vp];exact h.op bb,by rw[hd];have:=h.ad;omega⟩
 ·obtain⟨t1,a1,a2,a3⟩:=dZ j t ht
  obtain⟨u1,b1,b2,b3⟩:=dZ k u hu
  exact h.n1 j k t1 u1 a1 b1 (by rw[←a2,←b2];exact e)
 ·obtain⟨t1,a1,a2,a3⟩:=dZ j t ht
  obtain⟨u1,b1,b2,b3⟩:=dZ k u hu
  exact h.n2 j k t1 u1 a1 b1 (by rw[←a3,←b3];exact e)
 ·obtain⟨j,hj⟩:=List.mem_iff_getElem?.1 ht
  obtain⟨t1,a1,a2,a3⟩:=dZ j t hj
  rw[a3];exact h.lt t1 (List.mem_of_getElem? a1)
 ·obtain⟨t0,ht0,rfl⟩:=List.mem_map.1 ht
  obtain⟨i,s,b1,b2,b3,b4,b5,b6,b7⟩:=h.ts t0 ht0
  rcases h.dA hg hl ht0 with⟨k,x,a,c1,c2,c3,c4,e⟩|⟨c1,e⟩
  ·rw[e]
   obtain⟨i',s',d1,d2,d3⟩:=uv c1
   have:i'=i:=by rw[c3,b1] at d1;omega
   subst this
   rw[b2] at d2;cases d2
   exact⟨i',s,b1,b2,b3,b4,fun a=>by omega,fun a=>by omega,fun e=>absurd e alV⟩
  ·rw[e]
   exact⟨i,s,b1,b2,b3,b4,b5,b6,fun e=>absurd e alV⟩
 ·obtain⟨c1,c2,t,ht,e⟩:=h.st i s hs h0
  refine⟨c1,c2,_,List.mem_map.2 ⟨t,ht,rfl⟩,?_⟩
  rcases h.dA hg hl ht with⟨_,_,a,_,_,_,_,e'⟩|⟨_,e'⟩
  ·rw[e'];exact e
  ·rw[e'];exact e
 ·obtain⟨x,hx,e1,e2,hc⟩:=xM hg hl hz
  obtain⟨t,b1,b2,b3,b4,b5,b6⟩:=h.gt k x hx
  refine⟨_,List.mem_map.2 ⟨t,b1,rfl⟩,?_⟩
  rw[e1,e2,hd]
  rcases h.dA hg hl b1 with⟨i,y,a,c1,c2,c3,c4,e⟩|⟨c1,e⟩
  ·rw[e]
   have hk:k=cV gs ap+i:=h.n3 k _ x y hx (pV hg c1) (by rw[c3,b2])
   obtain⟨hi,_⟩:=List.getElem?_eq_some_iff.1 c1
   refine⟨b2,b3,fun _=>?_,fun bW=>by omega,b6⟩
   rcases hc with⟨hc,_⟩|⟨j,a',d1,d2,d3,d4⟩
   ·omega
   ·have:j=i:=by omega
    subst this
    rw[c2] at d3;cases d3
    exact d4.symm
  ·rw[e]
   rcases hc with⟨hc,rfl⟩|⟨j,a',d1,d2,d3,d4⟩
   ·refine⟨b2,b3,fun hk=>b4 (by omega),fun hk=>b5 (by omega),b6⟩
   ·exact absurd b2.symm (c1 j x d2)
 ·obtain⟨x',a1,a2,_⟩:=xM hg hl hx
  obtain⟨z',c1,c2,_⟩:=xM hg hl hz
  exact h.n3 j k x' z' a1 c1 (by rw[←a2,←c2];exact e)
 ·obtain⟨k,x,c1,c2,c3⟩:=h.cv bb i s hs h2
  obtain⟨hk,_⟩:=List.getElem?_eq_some_iff.1 c2
  have hz:=List.getElem?_eq_getElem (l:=(gs.set ap (mh g res)).flatten) (i:=k) (by omega)
  obtain⟨x',d1,d2,_⟩:=xM hg hl hz
  rw[c2] at d1;cases d1
  exact⟨k,_,c1,hz,by rw[d2];exact c3⟩
theorem PI.pre (h:PI rg m T l gs ap an) {g:List bI} {res:List eH} (hg:gs[ap]?=some g) (hl:res.length=g.length):KF T (uJ g res):=by
 have dZ:∀{k:Nat} {d:a_×eH},(uJ g res)[k]?=some d→∃x,gs.flatten[cV gs ap+k]?=some x∧d.1=x.2.1:=fun hd=>by
  obtain⟨x,a,h1,h2,rfl⟩:=aaV hd
  exact⟨x,pV hg h1,rfl⟩
 refine⟨fun d hd=>?_,fun j k d f hd hf e=>?_⟩
 ·obtain⟨k,hk⟩:=List.mem_iff_getElem?.1 hd
  obtain⟨x,h1,h2⟩:=dZ hk
  obtain⟨t,b1,b2,b3,_,b5,_⟩:=h.gt _ x h1
  exact⟨t,b1,by rw[b3,h2],b5 (by omega)⟩
 ·obtain⟨x,h1,h2⟩:=dZ hd
  obtain⟨z,h3,h4⟩:=dZ hf
  obtain⟨t,b1,b2,b3,_⟩:=h.gt _ x h1
  obtain⟨u,c1,c2,c3,_⟩:=h.gt _ z h3
  have:t=u:=h.same b1 c1 (.inr (by rw[b3,c3,←h2,←h4];exact e))
  subst this
  have:=h.n3 _ _ x z h1 h3 (by rw[←b2,←c2])
  omega
end
theorem Sr {l:List One}:∀(K:Nat) {j:Nat} {x:Int} {r:a_},(bt l K).1[j]?=some x→(bt l K).2[j]?=some r→∃(i:Nat) (s:One),i<K∧x=(i:Int)∧l[i]?=some s∧s.1=2∧s.2.1=r
 |0,j,x,r,h,_=>by simp[bt] at h
 |K+1,j,x,r,h,h'=>by
  have kB:(bt l K).1[j]?=some x→(bt l K).2[j]?=some r→∃(i:Nat) (s:One),i<K+1∧x=(i:Int)∧l[i]?=some s∧s.1=2∧s.2.1=r:=fun a b=>by
   obtain⟨i,s,c1,c2⟩:=Sr K a b
   exact⟨i,s,by omega,c2⟩
  have hlen:=(s7 l K).2
  unfold bt at h h'
  cases hs:l[K]? with
  |none=>rw[hs] at h h';exact kB h h'
  |some s=>
   rw[hs] at h h'
   by_cases h2:s.1=2
   ·simp only[h2,if_true] at h h'
    rw[List.getElem?_append] at h h'
    rw[hlen] at h'
    split at h
    ·rename_i hj
     rw[if_pos hj] at h'
     exact kB h h'
    ·rename_i hj
     rw[if_neg hj] at h'
     have:j - (bt l K).1.length=0:=by
      rcases Nat.eq_zero_or_pos (j - (bt l K).1.length) with a|a
      ·exact a
      ·rw[List.getElem?_eq_none (by simp;omega)] at h;cases h
     rw[this] at h h'
     cases h;cases h'
     exact⟨K,s,by omega,rfl,hs,h2,rfl⟩
   ·simp only[h2,if_false] at h h'
    exact kB h h'
theorem MG {l:List One} {i:Nat} {s:One} (hs:l[i]?=some s) (h2:s.1=2):∀K,i<K→(i:Int)∈(bt l K).1
 |0,h=>absurd h (by omega)
 |K+1,h=>by
  have kB:i<K→(i:Int)∈(bt l K).1:=MG hs h2 K
  by_cases e:i=K
  ·subst e
   rw[MH hs h2]
   exact List.mem_append_right _ (List.mem_singleton.2 rfl)
  ·unfold bt
   split
   ·split
    ·exact List.mem_append_left _ (kB (by omega))
    ·exact kB (by omega)
   ·exact kB (by omega)
theorem Zo {L:List a_} {j k:Nat} {x:Int} (hj:(fA L)[j]?=some x) (hk:(fA L)[k]?=some x):j=k:=by
 have nd:(pg L.length).Pairwise (·≠·):=by
  unfold pg
  rw[List.pairwise_map]
  exact List.Pairwise.imp (fun h e=>h (by omega)) (List.nodup_range (n:=L.length))
 have nd:(fA L).Pairwise (·≠·):=((nM L L.length).pairwise_iff (fun h=>Ne.symm h)).2 nd
 rw[List.pairwise_iff_getElem] at nd
 obtain⟨h1,e1⟩:=List.getElem?_eq_some_iff.1 hj
 obtain⟨h2,e2⟩:=List.getElem?_eq_some_iff.1 hk
 rcases Nat.lt_trichotomy j k with a|a|a
 ·exact absurd (e1.trans e2.symm) (nd j k h1 h2 a)
 ·exact a
 ·exact absurd (e2.trans e1.symm) (nd k j h2 h1 a)
section
variable {rg:Key×Key} {m:Int} {T:List bI} {l:List One} {ap an:Nat}
theorem PI.Qq (h:PI rg m T l [] ap an) (hp:0<(bt l l.length).1.length) (hf:ph (bt l l.length).1 (bt l l.length).2=true):PI rg m T l (mT (bt l l.length).1 (bt l l.length).2) 0 0:=by
 have hlen:=(s7 l l.length).2.symm
 have aaW:=HR (bt l l.length).1 (bt l l.length).2
 have auv:=Qj hlen hf
 have EC:=LF (bt l l.length).1 (bt l l.length).2
 have dz:mT (bt l l.length).1 (bt l l.length).2≠[]:=fun e=>by rw[e] at EC;simp at EC;omega
 have dZ:∀{k:Nat} {x:bI},(mT (bt l l.length).1 (bt l l.length).2).flatten[k]?=some x→∃(j:Nat) (i:Nat) (s:One),(fA (bt l l.length).2)[k]?=some (j:Int)∧(bt l l.length).1[j]?=some x.1∧x.1=(i:Int)∧l[i]?=some s∧s.1=2∧s.2.1=x.2.1:=fun{k x} hx=>by
  rw[aaW,List.getElem?_map] at hx
  cases ho:(fA (bt l l.length).2)[k]? with
  |none=>rw[ho] at hx;cases hx
  |some o=>
   rw[ho] at hx
   have hx:=(Option.some.inj hx).symm
   obtain⟨j,rfl,b1,b2⟩:=Rm hlen (w8 (List.mem_of_getElem? ho))
   obtain⟨i,s,c1,c2,c3,c4,c5⟩:=Sr l.length b1 b2
   rw[hx]
   exact⟨j,i,s,rfl,b1,c2,c3,c4,c5⟩
 refine⟨h.n1,h.n2,h.lt,fun t ht=>?_,h.st,fun k x hx=>?_,fun j k x z hx hz e=>?_,fun _ i s hs h2=>?_,fun _=>by rw[EC];omega,by simp⟩
 ·obtain⟨i,s,b1,b2,b3,b4,b5,b6,b7⟩:=h.ts t ht
  exact⟨i,s,b1,b2,b3,b4,b5,b6,fun _=>b7 rfl⟩
 ·obtain⟨j,i,s,a1,a2,a3,a4,a5,a6⟩:=dZ hx
  obtain⟨_,_,t,b1,b2⟩:=h.st i s a4 (by omega)
  obtain⟨i',s',c1,c2,c3,_,_,_,c7⟩:=h.ts t b1
  have:i'=i:=by omega
  subst this
  rw[a4] at c2;cases c2
  exact⟨t,b1,by rw[b2,a3],by rw[←c3,a6],fun hk=>by simp[cV] at hk,fun _=>c7 rfl a5,fun _=>⟨i',s,a3,a4,a5⟩⟩
 ·obtain⟨j1,_,_,a1,a2,_⟩:=dZ hx
  obtain⟨j2,_,_,b1,b2,_⟩:=dZ hz
  obtain⟨h1,e1⟩:=List.getElem?_eq_some_iff.1 a2
  obtain⟨h2,e2⟩:=List.getElem?_eq_some_iff.1 b2
  have:=Qk auv h1 h2 (by rw[e1,e2,e])
  subst this
  exact Zo a1 b1
 ·have hm:=MG hs h2 l.length (List.getElem?_eq_some_iff.1 hs).1
  obtain⟨j,hj⟩:=List.mem_iff_getElem?.1 hm
  obtain⟨hj1,WJ⟩:=List.getElem?_eq_some_iff.1 hj
  have ho:(j:Int)∈fA (bt l l.length).2:=(y5 _).2 ⟨by omega,by omega⟩
  obtain⟨k,hk⟩:=List.mem_iff_getElem?.1 ho
  refine⟨k,Oj (bt l l.length).1 (bt l l.length).2 (j:Int),by omega,by rw[aaW,List.getElem?_map,hk];rfl,?_⟩
  unfold Oj
  simp only[Int.toNat_natCast]
  rw[hj];rfl
end
section
variable {rg:Key×Key} {m:Int} {T:List bI} {l l':List One} {gs nQ:List (List bI)} {ap an nR nS:Nat} {a8 nP e:Int} {ps dh:List Pr} {done:List (a_×eH)}
theorem PI.may (h:PI rg m T l gs ap an):∀g∈gs,∀x∈g,eM x.2.1=true∧lN rg x.2.1=true:=fun g hg x hx=>by
 obtain⟨k,hk⟩:=List.mem_iff_getElem?.1 (List.mem_flatten.2 ⟨g,hg,hx⟩)
 obtain⟨t,b1,b2,b3,_⟩:=h.gt k x hk
 obtain⟨i,s,c1,c2,c3,c4,_⟩:=h.ts t b1
 obtain⟨d1,d2,_⟩:=h.st i s c2 (by omega)
 rw[←b3,←c3]
 exact⟨d1,d2⟩
theorem PI.next (h:PI rg m T l gs ap an) (ok:rK l) (nx:Nx a8 ps l gs ap an nP done e dh l' nQ nR nS) (AW:∀q∈ps,rI rg.1 rg.2 q.1=true) (hb:ps.length≤1000):
 KF T done∧PI rg m (rf T done) l' nQ nR nS∧rK l'∧(∀q∈dh,rI rg.1 rg.2 q.1=true)∧dh.length≤1000:=by
 have key:∀{g:List bI} {x0:bI},gs[ap]?=some g→g[0]?=some x0→(∀q∈dh,q.1=x0.2.1.key∧x0.2.1.kind≠6∨q∈ps)→∀q∈dh,rI rg.1 rg.2 q.1=true:=fun hg h0 hq q hm=>by
  rcases hq q hm with⟨e1,e2⟩|hm
  ·have:=(h.may _ (List.mem_of_getElem? hg) _ (List.mem_of_getElem? h0)).2
   unfold lN at this
   rw[if_neg e2] at this
   rw[e1];exact this
  ·exact AW q hm
 cases nx with
 |bad hg h0 _ hq hl=>exact⟨.nil T,by rw[ij];exact h,ok,key hg h0 hq,hl⟩
 |app hg h0 hr _ hq hl=>exact⟨h.pre hg hr,h.app hg hr,ok,key hg h0 hq,hl⟩
 |FU=>exact⟨.nil T,by rw[ij];exact h,ok,AW,hb⟩
 |MD hg hx _ hn=>exact⟨.nil T,by rw[ij];exact h.auu hg hx hn,HO ok _ _,AW,hb⟩
 |fin hg hx _ hn=>exact⟨.nil T,by rw[ij];exact h.fin hg hx hn,HO ok _ _,AW,hb⟩
 |sa hg hd h0=>
  have:=h.emp hg hd
  subst this
  exact⟨.nil T,by rw[ij];exact h.sa _,Ul ok (by decide) (by decide) _,AW,hb⟩
 |DB=>exact⟨.nil T,by rw[ij];exact h,ok,AW,hb⟩
 |Qq _ hp hg hf=>
  subst hg
  exact⟨.nil T,by rw[ij];exact h.Qq hp hf,ok,AW,hb⟩
 |idle=>exact⟨.nil T,by rw[ij];exact h,ok,AW,hb⟩
def dK (T:List bI) (done:List (a_×eH)) (k:Nat):List (a_×eH):=(rf T (done.take k)).map (·.2)
theorem uL (T:List bI) (done:List (a_×eH)) (k:Nat):(dK T done k).length=T.length:=by simp[dK,rf]
theorem KG (T:List bI) (done:List (a_×eH)) (k j:Nat):(dK T done k)[j]?=(T[j]?).map fun t=>(vS (done.take k) t).2:=by
 unfold dK rf
 rw[List.getElem?_map,List.getElem?_map,Option.map_map]
 rfl
theorem H_ (done:List (a_×eH)) (t:bI):(vS done t).2.1=t.2.1∧(vS done t).1=t.1:=by
 unfold vS
 split<;>exact⟨rfl,rfl⟩
theorem Zp (hp:KF T done) (n2:∀(j k:Nat) t u,T[j]?=some t→T[k]?=some u→t.2.1.2.1=u.2.1.2.1→j=k) {k:Nat} {d:a_×eH} (hd:done[k]?=some d):
 ∃(j0:Nat) (c:eH),(dK T done k)[j0]?=some (d.1,c)∧c.1= -1∧(∀(j:Nat) u,(dK T done k)[j]?=some u→u.1.2.1=d.1.2.1→j=j0)∧dK T done (k+1)=(dK T done k).set j0 d:=by
 obtain⟨t,ht,e1,e2⟩:=hp.one d (List.mem_of_getElem? hd)
 obtain⟨j0,hj⟩:=List.mem_iff_getElem?.1 ht
 obtain⟨Bb,hke⟩:=List.getElem?_eq_some_iff.1 hd
 have ani:done.take (k+1)=done.take k++[d]:=by rw[List.take_succ_eq_append_getElem Bb,hke]
 have dz:∀f∈done.take k,f.1.2.1≠d.1.2.1:=fun f hf e=>by
  obtain⟨i,hi,rfl⟩:=List.mem_take_iff_getElem.1 hf
  have:=hp.inj i k _ d (List.getElem?_eq_getElem (by omega)) hd e
  omega
 have huq:∀(j:Nat) u,T[j]?=some u→u.2.1.2.1=d.1.2.1→j=j0:=fun j u hu e=>n2 j j0 u t hu hj (by rw[e,e1])
 have hf0:(done.take k).find? (fun f=>(f.1.2.1:Int)==t.2.1.2.1)=none:=List.find?_eq_none.2 fun f hf=>by
  simp only[beq_iff_eq]
  rw[e1]
  exact dz f hf
 refine⟨j0,t.2.2,?_,e2,fun j u hu e=>?_,List.ext_getElem? fun j=>?_⟩
 ·rw[KG,hj]
  unfold vS
  simp only[Option.map_some]
  rw[hf0,←e1]
 ·rw[KG] at hu
  cases kZ:T[j]? with
  |none=>rw[kZ] at hu;cases hu
  |some v=>
   rw[kZ] at hu
   have hu:=(Option.some.inj hu).symm
   exact huq j v kZ (by rw[←(H_ (done.take k) v).1];rw[hu] at e;exact e)
 ·rw[KG,ani,List.getElem?_set,uL,KG]
  by_cases hjj:j0=j
  ·subst hjj
   obtain⟨mq,_⟩:=List.getElem?_eq_some_iff.1 hj
   rw[if_pos rfl,if_pos mq,hj]
   unfold vS
   simp only[Option.map_some]
   rw[List.find?_append,hf0,Option.none_or]
   simp only[List.find?_cons,e1,beq_self_eq_true]
  ·rw[if_neg hjj]
   cases kZ:T[j]? with
   |none=>rfl
   |some v=>
    simp only[Option.map_some]
    unfold vS
    have:¬(d.1.2.1:Int)=v.2.1.2.1:=fun e=>hjj (huq j v kZ e.symm).symm
    rw[List.find?_append,List.find?_cons,(beq_eq_false_iff_ne.2 this:((d.1.2.1:Int)==v.2.1.2.1)=false),List.find?_nil,Option.or_none]
end
def Ia (pc pS now tH:Int) (y:Int×Int×Int×Int):Prop:=y.1=tH∧y.2.2.2≤now+tH∧(0≤pc→pS≤now∨y.2.2.1=pc∧pS≤y.2.2.2)
theorem Zq {y:Int×Int×Int×Int} {now w:Int} (h1:0≤y.2.2.1) (h2:now<y.2.2.2) (dz:¬((fy y now).2=true∧(fy y now).1≠w)):y.2.2.1=w:=by
 unfold fy at dz
 rw[if_neg (show ¬((y.2.2.1:Int)= -1∨(y.2.2.2:Int)≤now) by omega)] at dz
 exact Classical.byContradiction fun h=>dz ⟨rfl,h⟩
theorem MI {pc pS now gr tH w:Int} {y:Int×Int×Int×Int} (h:Ia pc pS now tH y) (hn:now≤gr) (dz:¬((fy y gr).2=true∧(fy y gr).1≠w)) (h1:0≤pc) (h2:gr<pS):pc=w:=by
 rcases h.2.2 h1 with a|⟨a,b⟩
 ·omega
 ·rw[←a];exact Zq (by omega) (by omega) dz
theorem Zr {pc pS now gr tH w ep:Int} {y:Int×Int×Int×Int} (h:Ia pc pS now tH y) (hn:now≤gr) (dz:¬((fy y gr).2=true∧(fy y gr).1≠w)):Ia pc pS gr tH (y.1,ep,w,gr+tH):=by
 refine⟨h.1,Int.le_refl _,fun h1=>?_⟩
 by_cases h2:gr<pS
 ·have:=MI h hn dz h1 h2
  have h3:=h.2.1
  have:=h.2.2 h1
  exact .inr ⟨by show w=pc;omega,by show pS≤gr+tH;omega⟩
 ·exact .inl (by omega)
theorem Uw {pc pS now gr tH:Int} {y:Int×Int×Int×Int} (h:Ia pc pS now tH y) (hn:now≤gr):Ia pc pS gr tH y:=⟨h.1,by have:=h.2.1;omega,fun h1=>(h.2.2 h1).imp (fun a=>by omega) id⟩
def lO (c:Int):Int:=Int.tmod (if c<0 then IntKind.i64.wrap (0 - IntKind.i64.wrap (c+1)) else c) 3
theorem y8 (c:Int):S7 c 3 (lO c,()):=amo _ _ fun H K hk=>by
 unfold A7
 unfold lO at hk
 refine bf (fW (fun h=>?_) fun h=>?_)
 ·rw[if_pos h] at hk;exact⟨by show(3:Int)≠0;decide,hk⟩
 ·rw[if_neg h] at hk;exact⟨by show(3:Int)≠0;decide,hk⟩
theorem Ux {c:Int} (h: -9223372036854775808≤c):0≤lO c∧lO c≤2:=by
 have key:∀x:Int,0≤x→0≤Int.tmod x 3∧Int.tmod x 3≤2:=fun x hx=>by
  rw[Int.tmod_eq_emod_of_nonneg hx]
  omega
 unfold lO
 split
 ·rw[jd (x:=c+1) (by omega) (by omega),jd (x:=0 - (c+1)) (by omega) (by omega)]
  exact key _ (by omega)
 ·exact key _ (by omega)
theorem if4 {a b c d:Bool} {F X I:Prop} (hi:I) (hf:a=true→b=true→c=true→d=true→F) (hx:X):af a (af b (af c (I∧af d F X) X) X) X:=
 cM (fun h1=>cM (fun h2=>cM (fun h3=>⟨hi,cM (fun h4=>hf h1 h2 h3 h4) fun _=>hx⟩) fun _=>hx) fun _=>hx) fun _=>hx
theorem Lm {l:List One} {r:a_} (hm:eM r=true):((jy l r).2.1≠0∧(jy l r).2.2=l)∨∃(i:Nat) (s0:One),l[i]?=some s0∧s0.1=0∧jy l r=((i:Int),0,l.set i (1,r,fw)):=by
 unfold jy
 rw[if_neg (by rw[hm];decide)]
 split
 ·exact .inl ⟨by show(4:Int)≠0;decide,rfl⟩
 ·split
  ·exact .inl ⟨by show(5:Int)≠0;decide,rfl⟩
  ·rename_i i hi
   obtain⟨h1,h2,_⟩:=List.findIdx?_eq_some_iff_getElem.1 hi
   refine .inr ⟨i,l[i],List.getElem?_eq_getElem h1,?_,rfl⟩
   exact beq_iff_eq.1 h2
section
variable {A:PA} {H H':HP} {p:Nat} {rg:Key×Key} {cf:DA} {ps:List Pr} {l:List One} {y:Int×Int×Int×Int} {gs:List (List bI)} {ap an:Nat}
theorem Zs (h:PW A H p rg cf ps l y gs ap an) {m:Int} {T:List bI} (yc:PI rg m T l gs ap an) (ok:rK l) (AW:∀q∈ps,rI rg.1 rg.2 q.1=true) (hb:ps.length≤1000) (hm:cf.2.2.2.1≤1000) (w now gr pc pS:Int) (h0:0≤now) (hn:now≤gr) (mC:gr≤1000000) (GY:1≤cf.2.2.2.2.1) (EC:cf.2.2.2.2.1≤1000) (Je:Ia pc pS now cf.2.2.2.2.1 y) (K:HT [(false,.one (.int .i64)),(false,.row (.cons aM dH)),(false,.one .any)]→HP→Prop)
 (hk:∀A' nP done e dh l' nQ nR nS y' H',KF T done→PI rg (m+1) (rf T done) l' nQ nR nS→rK l'→(∀q∈dh,rI rg.1 rg.2 q.1=true)→dh.length≤1000→PW A' H' p rg cf dh l' y' nQ nR nS→(e=0→0≤pc→pc≠w→gr<pS→False)→
  (e=0→nP=0→Ia (-1) (IntKind.i64.wrap (gr+cf.2.2.2.2.1)) gr cf.2.2.2.2.1 y')→(e=0→nP≠0→Ia w (IntKind.i64.wrap (gr+cf.2.2.2.2.1)) gr cf.2.2.2.2.1 y')→(e≠0→Ia pc pS gr cf.2.2.2.2.1 y')→K (nP,done,er e,()) H'):C9 (some p) w gr H K:=by
 have hwr:IntKind.i64.wrap (gr+cf.2.2.2.2.1)=gr+cf.2.2.2.2.1:=jd (by omega) (by omega)
 refine qm h ok hb hm (fun g hg x hx=>(yc.may g hg x hx).1) (fun i z hz h1=>(yc.st i z hz (by omega)).2.1) w gr K (fun e he _=>?_) ?_
 ·exact hk A 0 [] e ps l gs ap an y H (.nil T) (by rw[ij];exact yc.up) ok AW hb h (fun a=>absurd a he) (fun a=>absurd a he) (fun a=>absurd a he) fun _=>Uw Je hn
 ·intro hf dz ep A' nP done e dh l' nQ nR nS H' nx hw
  obtain⟨b1,b2,b3,b4,b5⟩:=yc.next ok nx AW hb
  have hw0:0≤w:=by
   unfold qk at hf
   simp only[Bool.and_eq_true,decide_eq_true_eq] at hf
   exact hf.1
  have hy:y.1=cf.2.2.2.2.1:=Je.1
  have CO:∀w',(w'=w∨w'= -1)→Ia w' (IntKind.i64.wrap (gr+cf.2.2.2.2.1)) gr cf.2.2.2.2.1 (y.1,ep,w',IntKind.i64.wrap (gr+y.1)):=fun w' _=>by
   rw[hy,hwr]
   exact⟨rfl,Int.le_refl _,fun _=>.inr ⟨rfl,Int.le_refl _⟩⟩
  refine hk A' nP done e dh l' nQ nR nS _ H' b1 b2.up b3 b4 b5 hw (fun _ h1 h2 h3=>h2 (MI Je hn dz h1 h3)) (fun e1 e2=>?_) (fun e1 e2=>?_) fun e1=>?_
  ·unfold WU
   rw[if_pos ⟨e1,e2⟩]
   exact CO (-1) (.inr rfl)
  ·unfold WU
   rw[if_neg fun a=>e2 a.2]
   exact CO w (.inl rfl)
  ·unfold WU
   rw[if_neg fun a=>e1 a.1,hy,hwr,←hy]
   have:=Zr (ep:=ep) Je hn dz
   rw[←hy] at this
   exact this
end
theorem Zt (T:List bI) (done:List (a_×eH)):T.map (·.2)=dK T done 0:=by
 unfold dK
 rw[List.take_zero,ij]
theorem Ln {l:List One} {t:bI} {i:Nat} {s:One} (e:t.1=(i:Int)) (h:l[i]?=some s) (hr:s.2.1=t.2.1) (hs:s.1=1∨s.1=2∨s.1=3):((mM l t.1 t.2.1.1 t.2.1.2.1).2.1≠0∧(mM l t.1 t.2.1.1 t.2.1.2.1).2.2=l)∨(s.1=3∧mM l t.1 t.2.1.1 t.2.1.2.1=(s.2.2,0,l.set i vO)):=by
 unfold mM
 rw[MF e h]
 simp only
 rw[if_neg (by rw[hr];rintro(a|a|a);omega;exact a rfl;exact a rfl)]
 by_cases h3:s.1<3
 ·rw[if_pos h3]
  exact .inl ⟨by show(10:Int)≠0;decide,rfl⟩
 ·rw[if_neg h3,if_neg (by omega),e,Int.toNat_natCast]
  exact .inr ⟨by omega,rfl⟩
theorem Bj (rg:Key×Key) (cf:DA) (ds:List (Int×Int×Int×Int×a_)) (hds:∀d∈ds,-9223372036854775808≤d.2.2.2.1) (H:HP) (K:HT [(false,.one .bool)]→HP→Prop) (hk:∀H',K (true,()) H'):A3 rg cf ds H K:=by
 unfold A3
 refine ang H _ fun H2=>au fun _=>fW (fun _=>hk _) fun h1=>au fun _=>fW (fun _=>hk _) fun h2=>au fun _=>fW (fun _=>hk _) fun h3=>?_
 have h3:¬((ds.length:Nat):Int)>200:=h3
 refine JG 3 rg cf _ (fun h=>absurd h (by decide)) (fun _ H'=>cd rfl (cd rfl (hk _))) ?_
 intro _ hB A0 p H7 hw0
 obtain⟨_,_,hm,_,_,_,_,GY,EC⟩:=y7.1 hB
 refine bP rfl ⟨dP 0,bP rfl ?_⟩
 refine gY ds.length (fun i v H=>∃(A:PA) (T:List bI) (l:List One) (y:Int×Int×Int×Int) (gs:List (List bI)) (ap an:Nat) (ps:List Pr) (now pc pS:Int),v=((ds,(),(),true,some p,T.map (·.2),T.map (·.1),now,pc,pS,(i:Int),()),(rg.1,rg.2,()),(cf.1,cf.2.1,cf.2.2.1,cf.2.2.2.1,cf.2.2.2.2.1,cf.2.2.2.2.2,()),())∧PW A H p rg cf ps l y gs ap an∧PI rg i T l gs ap an∧rK l∧(∀q∈ps,rI rg.1 rg.2 q.1=true)∧ps.length≤1000∧0≤now∧now≤2*(i:Int)∧Ia pc pS now cf.2.2.2.2.1 y∧T.length≤i) ?_ ?_
 ·exact⟨A0,[],_,_,[],0,0,[],0,-1,0,rfl,hw0,PI.new rg _,Y9 _,by simp,by simp,by omega,by omega,⟨rfl,by show(0:Int)≤0+_;omega,fun h=>absurd h (by decide)⟩,Nat.le_refl _⟩
 rintro i _ H C hi ⟨A,T,l,y,gs,ap,an,ps,now,pc,pS,rfl,hw,yc,cJ,mV,hb,BZ,hn1,Je,hT⟩ hC
 dsimp only
 refine au fun _=>dR (fun aY=>?_) fun aY=>?_
 ·have hx:ds[i]?=some ds[i]:=List.getElem?_eq_getElem aY
  generalize ds[i]=x at hx
  have hxm:=List.mem_of_getElem? hx
  refine mJ hx (ai _ (Zk x.2.2.2.2) (bN (fun _=>hk _) fun hsm=>ai _ (y8 _) (oK (fun WV=>?_) fun WV=>?_)))
  ·have j6:kS (x.2.2.2.2.1,(i:Int),x.2.2.2.2.2.2):=by
    have:=Fi (show ym x.2.2.2.2=true from hsm)
    exact this
   have same:∀H',PW A H' p rg cf ps l y gs ap an→C ((ds,(),(),true,some p,T.map (·.2),T.map (·.1),now,pc,pS,IntKind.i64.wrap ((i:Int)+1),()),(rg.1,rg.2,()),(cf.1,cf.2.1,cf.2.2.1,cf.2.2.2.1,cf.2.2.2.2.1,cf.2.2.2.2.2,()),()) H':=fun H' Be=>by
    rw[w1 (by omega)]
    exact hC aY _ _ ⟨A,T,l,y,gs,ap,an,ps,now,pc,pS,rfl,Be,yc.up,cJ,mV,hb,BZ,by omega,Je,by omega⟩
   refine ME hw.hp rfl (by show(0:Int)≠3;decide) hw.hs _ j6 _ (fun _=>⟨dP 1,bP rfl (same _ hw)⟩) (fun _ _=>⟨dP 6,bP rfl (same _ hw)⟩) fun hmq ld=>⟨dP _,?_⟩
   have Be:=hw.slot (Dq l (x.2.2.2.2.1,(i:Int),x.2.2.2.2.2.2))
   rcases Lm (l:=l) hmq with⟨e1,e2⟩|⟨j,s0,e1,e2,e3⟩
   ·rw[e2] at Be⊢
    exact bP (by show bj (er _)=false;rw[k9];exact decide_eq_false e1) (same _ Be)
   ·rw[e3] at Be⊢
    refine cd rfl (bM ?_ (bM ?_ ?_))
    ·show((T.map (·.2)).length+1)*200≤_
     rw[List.length_map];omega
    ·show((T.map (·.1)).length+1)*8≤_
     rw[List.length_map];omega
    have:=hC aY _ _ ⟨A,T++[((j:Int),(x.2.2.2.2.1,(i:Int),x.2.2.2.2.2.2),VK)],_,y,gs,ap,an,ps,now,pc,pS,rfl,Be,yc.post e1 e2 hmq ld rfl,xG cJ ⟨by show(0:Int)≤1;decide,by show(1:Int)≤4;decide,j6,fun e=>absurd e (by show(1:Int)≠0;decide)⟩,mV,hb,BZ,by omega,Je,by rw[List.length_append];simp;omega⟩
    rw[List.map_append,List.map_append,←w1 (by omega)] at this
    exact this
  ·refine ai _ (y8 _) (ai _ (y8 _) ?_)
   have hpn:=Ux (hds x hxm)
   have hnw:IntKind.i64.wrap (now+lO x.2.2.2.1)=now+lO x.2.2.2.1:=jd (by omega) (by omega)
   refine Zs hw yc cJ mV hb hm (lO x.2.1) now _ pc pS BZ (by rw[hnw];omega) (by rw[hnw];omega) GY EC Je _ ?_
   intro A' nP done e dh l' nQ nR nS y' H' BD auw py acU ir Be hc uh hlw hle
   rw[hnw] at hc uh hlw hle
   dsimp only
   rw[hnw]
   refine if4 (dP e) (fun a1 a2 a3 a4=>(hc (by rw[k9] at a4;exact of_decide_eq_true a4) (of_decide_eq_true a1) (by simpa using a2) (of_decide_eq_true a3)).elim) ?_
   refine Lv (fun v Hv=>Hv=H'∧∃(FV FW:Int),v=((ds,(),(),true,some p,T.map (·.2),T.map (·.1),now+lO x.2.2.2.1,FV,FW,(i:Int),done,()),(rg.1,rg.2,()),(cf.1,cf.2.1,cf.2.2.1,cf.2.2.2.1,cf.2.2.2.2.1,cf.2.2.2.2.2,()),())∧Ia FV FW (now+lO x.2.2.2.1) cf.2.2.2.2.1 y') ?_ ?_
   ·rintro v Hv ⟨rfl,FV,FW,rfl,auy⟩
    refine cN done.length (fun k=>((ds,(),(),true,some p,dK T done k,T.map (·.1),now+lO x.2.2.2.1,FV,FW,(i:Int),done,(k:Int),()),(rg.1,rg.2,()),(cf.1,cf.2.1,cf.2.2.1,cf.2.2.2.1,cf.2.2.2.2.1,cf.2.2.2.2.2,()),())) (fun _=>True) (by dsimp only;rw[Zt T done];rfl) trivial ?_
    intro k Ck zK _ hCk
    dsimp only
    refine au fun _=>dR (fun Bb=>?_) fun Bb=>?_
    ·have hd:done[k]?=some done[k]:=List.getElem?_eq_getElem Bb
     generalize done[k]=d at hd
     obtain⟨j0,c,a1,a2,a3,a4⟩:=Zp BD yc.n2 hd
     have hj0:j0<T.length:=by
      rw[←uL T done k];exact(List.getElem?_eq_some_iff.1 a1).1
     refine cN T.length (fun j=>((ds,(),(),true,some p,(if j≤j0 then dK T done k else dK T done (k+1)),T.map (·.1),now+lO x.2.2.2.1,FV,FW,(i:Int),done,(k:Int),(if j≤j0 then(0:Int) else 1),(j:Int),()),(rg.1,rg.2,()),(cf.1,cf.2.1,cf.2.2.1,cf.2.2.2.1,cf.2.2.2.2.1,cf.2.2.2.2.2,()),())) (fun _=>True) rfl trivial ?_
     intro j Cj hj1 _ hCj
     dsimp only
     refine au fun _=>?_
     have hlen:(if j≤j0 then dK T done k else dK T done (k+1)).length=T.length:=by split<;>exact uL _ _ _
     refine cM (fun hjb=>?_) fun hjb=>?_
     ·have mq:j<T.length:=by
       have:=of_decide_eq_true hjb
       rw[hlen] at this
       omega
      rw[hlen]
      have FX:=hCj mq trivial
      rw[←w1 (by omega)] at FX
      rcases Nat.lt_trichotomy j j0 with Jg|Jg|Jg
      ·rw[if_pos (by omega:j+1≤j0),if_pos (by omega:j+1≤j0)] at FX
       rw[if_pos (by omega:j≤j0),if_pos (by omega:j≤j0)]
       have hu:(dK T done k)[j]?=some ((dK T done k)[j]'(by rw[uL];exact mq)):=List.getElem?_eq_getElem _
       refine eG mq (dj hu (mJ hd (oK (fun he=>?_) fun he=>FX)))
       have:=a3 j _ hu he
       omega
      ·subst Jg
       rw[if_neg (by omega:¬j+1≤j),if_neg (by omega:¬j+1≤j),a4] at FX
       rw[if_pos (Nat.le_refl j),if_pos (Nat.le_refl j)]
       refine eG mq (dj a1 (mJ hd (cd (beq_self_eq_true _) (eG mq (dj a1 (bP (by show(c.1 != -1)=false;rw[a2];rfl) (eG mq (dj a1 (mJ hd (ai _ (Qr d.1) (bP rfl (mJ hd (eG mq (dj a1 ?_))))))))))))))
       exact FX
      ·rw[if_neg (by omega:¬j+1≤j0),if_neg (by omega:¬j+1≤j0)] at FX
       rw[if_neg (by omega:¬j≤j0),if_neg (by omega:¬j≤j0)]
       have hu:(dK T done (k+1))[j]?=some ((dK T done (k+1))[j]'(by rw[uL];exact mq)):=List.getElem?_eq_getElem _
       refine eG mq (dj hu (mJ hd (oK (fun he=>?_) fun he=>FX)))
       have RM:(dK T done k)[j]?=some ((dK T done (k+1))[j]'(by rw[uL];exact mq)):=by
        rw[←hu,a4,List.getElem?_set_ne (by omega)]
       have:=a3 j _ RM he
       omega
     ·have mq:¬j<T.length:=fun a=>by
       have:=of_decide_eq_false hjb
       rw[hlen] at this
       omega
      rw[if_neg (by omega:¬j≤j0),if_neg (by omega:¬j≤j0)]
      refine bP rfl ?_
      have:=hCk Bb trivial
      rw[←w1 (by omega)] at this
      exact this
    ·obtain rfl:k=done.length:=by omega
     refine HZ Be.hp rfl Be.ht Be.o3 ir _ ?_
     refine cN dh.length (fun q=>((ds,(),(),true,some p,dK T done done.length,T.map (·.1),now+lO x.2.2.2.1,FV,FW,(i:Int),dh,(q:Int),()),(rg.1,rg.2,()),(cf.1,cf.2.1,cf.2.2.1,cf.2.2.2.1,cf.2.2.2.2.1,cf.2.2.2.2.2,()),())) (fun _=>True) rfl trivial ?_
     intro q Cq hq1 _ hCq
     dsimp only
     refine au fun _=>dR (fun Jf=>?_) fun Jf=>?_
     ·have:=hCq Jf trivial
      rw[←w1 (by omega)] at this
      refine dk Jf (ai _ (anj _ _) (bP ?_ this))
      show(!rI rg.1 rg.2 (dh[q]).1)=false
      rw[acU _ (List.getElem_mem Jf)];rfl
     ·rw[w1 (by omega)]
      refine hC aY _ _ ⟨A',rf T done,l',y',nQ,nR,nS,dh,now+lO x.2.2.2.1,FV,FW,?_,Be,auw,py,acU,ir,by omega,by omega,auy,by unfold rf;rw[List.length_map];omega⟩
      have e1:dK T done done.length=(rf T done).map (·.2):=by unfold dK;rw[List.take_length]
      have e2:T.map (·.1)=(rf T done).map (·.1):=by
       unfold rf
       rw[List.map_map]
       exact List.map_congr_left fun t _=>(H_ done t).2.symm
      rw[e1,e2]
   ·intro C' AT
    refine⟨dP e,cM (fun he=>?_) fun he=>?_⟩
    ·have he:e=0:=by rw[k9] at he;exact of_decide_eq_true he
     refine oK (fun hd=>?_) fun hd=>?_
     ·exact AT _ _ ⟨rfl,_,_,rfl,uh he hd⟩
     ·exact AT _ _ ⟨rfl,_,_,rfl,hlw he hd⟩
    ·have he:e≠0:=by rw[k9] at he;exact of_decide_eq_false he
     exact AT _ _ ⟨rfl,_,_,rfl,hle he⟩
 ·refine gY T.length (fun j v Hv=>∃(l':List One),v=((true,some p,T.map (·.2),T.map (·.1),(j:Int),()),())∧PW A Hv p rg cf ps l' y gs ap an∧rK l'∧∀(k:Nat) t,j≤k→T[k]?=some t→∃(i:Nat) (s:One),t.1=(i:Int)∧l'[i]?=some s∧s.2.1=t.2.1∧(s.1=1∨s.1=2∨s.1=3)∧(s.1=3→s.2.2=t.2.2)) ⟨l,rfl,hw,cJ,fun k t _ ht=>?_⟩ ?_
  ·obtain⟨i',s,b1,b2,b3,b4,b5,_⟩:=yc.ts t (List.mem_of_getElem? ht)
   exact⟨i',s,b1,b2,b3,b4,b5⟩
  rintro j _ Hv Cj hj ⟨l',rfl,Be,py,RF⟩ hCj
  dsimp only
  refine au fun _=>?_
  rw[List.length_map,List.length_map]
  refine dR (fun mq=>?_) fun mq=>hk _
  have ht:T[j]?=some T[j]:=List.getElem?_eq_getElem mq
  generalize T[j]=t at ht
  have htD:(T.map (·.2))[j]?=some t.2:=by rw[List.getElem?_map,ht];rfl
  obtain⟨i',s,b1,b2,b3,b4,b5⟩:=RF j t (Nat.le_refl _) ht
  refine eG mq (dj (x:=t.1) (by rw[List.getElem?_map,ht];rfl) (eG mq (dj htD (eG mq (dj htD ?_)))))
  refine Zu Be.hp rfl Be.hs py t.1 t.2.1.1 t.2.1.2.1 _ ⟨dP _,?_⟩
  have GD:=Be.slot (Qe l' t.1 t.2.1.1 t.2.1.2.1)
  rcases Ln b1 b2 b3 b4 with⟨e1,e2⟩|⟨e1,e2⟩
  ·rw[e2] at GD⊢
   refine bP (by show bj (er _)=false;rw[k9];exact decide_eq_false e1) ?_
   rw[w1 (by omega)]
   exact hCj mq _ _ ⟨l',rfl,GD,py,fun k u hk hu=>RF k u (by omega) hu⟩
  ·rw[e2] at GD⊢
   refine cd rfl (eG mq (dj htD ?_))
   rw[b5 e1]
   refine ai _ (Zi t.2.2) (bP rfl ?_)
   rw[w1 (by omega)]
   refine hCj mq _ _ ⟨_,rfl,GD,xG py xH,fun k u hk hu=>?_⟩
   obtain⟨i2,s2,c1,c2,c3⟩:=RF k u (by omega) hu
   refine⟨i2,s2,c1,?_,c3⟩
   have:i'≠i2:=fun e=>by
    have:=yc.n1 j k t u ht hu (by rw[b1,c1,e])
    omega
   rw[List.getElem?_set_ne this];exact c2
theorem ank:Al Tryz.prog 9 aj 24=true:=by kernel_rfl
theorem anm:Al Tryz.prog 9 kCF 26=true:=by kernel_rfl
theorem ann:Al Tryz.prog 31 (.row (.cons (.one (.int .i64)) (.cons (.one (.int .i64)) (.cons (.one (.int .i64)) (.cons (.one (.int .i64)) aM))))) 27=true:=by kernel_rfl
theorem Ff (W:World) (a b:Array Value) (c:Sl) (n0:Nat) (h0:EP Tryz.prog W n0 24 a.toList) (n1:Nat) (h1:EP Tryz.prog W n1 26 b.toList) (n2:Nat) (h2:EP Tryz.prog W n2 27 [.slice c.a c.len c.cap]):
 fL Tryz.prog 3 [.agg a,.agg b,.slice c.a c.len c.cap] [.one .bool] W fun x W'=>x=(true,())∧aV [] W W':=by
 obtain⟨x,hx,_⟩:=p8 _ ank h0
 obtain⟨y,hy,_⟩:=p8 _ anm h1
 obtain⟨z,hz,wz⟩:=p8 _ ann h2
 exact T3 (afo x y z _ _ (Bj x y z (fun d hd=>(K4 (wz.2 d hd).2.2.2.1).1) _ _ fun _=>rfl)) (yS rfl rfl hx rfl (yS rfl rfl hy rfl (yS rfl rfl hz rfl YX)))
end Go.Proofs.YtmoebnnbjppjbaaGreat
