/- Pf: texts of ours, one behind the other, in short writing (spaces and names cut by a program of ours): Sort4, Elord1, Elord2, Jour1, Jour2, Darena, Dkeys, Lib2, Dgrow, Kx, Ku, Dprune, Kp, Dcur, Kz, Pt1, Pt2, Pt3. -/
import Derived.Test.YtmoebnnbjppjbaaGreatPe
import Derived.Test.YtmoebnnbjppjbaaGreatPd
set_option linter.unusedSimpArgs false
set_option linter.unusedVariables false
namespace Go.Proofs.YtmoebnnbjppjbaaGreat
open Go Go.Gp Go.Ga Go.Th
section
variable {H:HP} {aC t:Nat} {s:Sl} {n c:Nat} {cmp:Int→Int→Int} {lt:Int→Int→Prop}
def Shape (bs:Nat):List (List Int)→Prop
 |[]=>True
 |[C]=>0<C.length∧C.length≤bs
 |C::r=>C.length=bs∧Shape bs r
structure sd (cmp:Int→Int→Int) (lt:Int→Int→Prop) (S:List Int) (Cs:List (List Int)):Prop where
 FY:∀C∈Cs,eO lt C
 ah:Cs.Pairwise (oV cmp lt)
 perm:Cs.flatten.Perm S
theorem oH {bs:Nat} {C:List Int} {r:List (List Int)} (h:Shape bs (C::r)):0<C.length∧C.length≤bs∧Shape bs r∧(r≠[]→C.length=bs):=by
 cases r with
 |nil=>exact⟨h.1,h.2,trivial,fun h=>absurd rfl h⟩
 |cons D r=>
  have hD:0<bs:=by
   have:=oH h.2
   omega
  exact⟨by rw[h.1];exact hD,Nat.le_of_eq h.1,h.2,fun _=>h.1⟩
theorem UD {bs:Nat} {C:List Int} {r:List (List Int)} (h1:0<C.length) (h2:C.length≤bs) (h3:Shape bs r) (h4:r≠[]→C.length=bs):Shape bs (C::r):=by
 cases r with
 |nil=>exact⟨h1,h2⟩
 |cons D r=>exact⟨h4 (by simp),h3⟩
theorem lP {bs:Nat}:∀{D E:List (List Int)},(∀C∈D,C.length=bs)→0<bs→Shape bs E→Shape bs (D++E)
 |[],_,_,_,h=>h
 |C::D,E,hD,h0,hE=>UD (by rw[hD C (by simp)];exact h0) (Nat.le_of_eq (hD C (by simp))) (lP (fun x hx=>hD x (by simp[hx])) h0 hE) fun _=>hD C (by simp)
theorem nj {bs:Nat}:∀{D:List (List Int)},(∀C∈D,C.length=bs)→D.flatten.length=D.length*bs
 |[],_=>by simp
 |C::D,h=>by
  rw[List.flatten_cons,List.length_append,nj fun x hx=>h x (by simp[hx]),h C (by simp),List.length_cons,Nat.add_mul,Nat.one_mul,Nat.add_comm]
theorem wG {S:List Int} {D R:List (List Int)} {A B C:List Int} (h:sd cmp lt S (D++A::B::R)) (hp:C.Perm (A++B)) (hr:eO lt C):sd cmp lt S (D++C::R):=by
 have hm:∀x∈C,x∈A∨x∈B:=fun x hx=>List.mem_append.1 (hp.subset hx)
 have h0:=List.pairwise_append.1 h.ah
 have h1:=List.pairwise_cons.1 h0.2.1
 have h2:=List.pairwise_cons.1 h1.2
 refine⟨fun X hX=>?_,List.pairwise_append.2 ⟨h0.1,List.pairwise_cons.2 ⟨fun X hX x hx y hy=>?_,h2.2⟩,fun X hX Y hY=>?_⟩,?_⟩
 ·rcases List.mem_append.1 hX with hX|hX
  ·exact h.FY X (by simp[hX])
  ·rcases List.mem_cons.1 hX with rfl|hX
   ·exact hr
   ·exact h.FY X (by simp[hX])
 ·rcases hm x hx with hx|hx
  ·exact h1.1 X (by simp[hX]) x hx y hy
  ·exact h2.1 X hX x hx y hy
 ·rcases List.mem_cons.1 hY with rfl|hY
  ·exact fun x hx y hy=>(hm y hy).elim (fun hy=>h0.2.2 X hX A (by simp) x hx y hy) fun hy=>h0.2.2 X hX B (by simp) x hx y hy
  ·exact h0.2.2 X hX Y (by simp[hY])
 ·refine List.Perm.trans ?_ h.perm
  simp only[List.flatten_append,List.flatten_cons]
  refine List.Perm.append_left _ ?_
  rw[←List.append_assoc]
  exact List.Perm.append_right _ hp
theorem Ie {S:List Int} {D R:List (List Int)} {A B:List Int} (h:sd cmp lt S (D++A::B::R)):eO lt A∧eO lt B∧oV cmp lt A B:=
 ⟨h.FY A (by simp),h.FY B (by simp),(List.pairwise_cons.1 (List.pairwise_append.1 h.ah).2.1).1 B (by simp)⟩
theorem UE (g:I0 H aC t s n c cmp lt) (S:List Int) (hl:S.length=n) (ho:Dr cmp lt S) (K:HT []→HP→Prop) (hk:∀C:List Int,C.Perm S→eO lt C→K () (Hx H aC t s C)):
 abA s (n:Int) [c] (Hx H aC t s S) K:=Ge _ _ _ _ _ (by
 unfold U9
 have kv:=g.pE
 refine gG (fun v H'=>∃(D:List (List Int)) (T R:List Int),v=((s,(n:Int),[c],20,((D.length*20:Nat):Int),((D.length*20+20:Nat):Int),()),())∧S=T++R∧(∀C∈D,C.length=20)∧sd cmp lt T D∧H'=Hx H aC t s (D.flatten++R)) (fun v _=>(n+20 - v.1.2.2.2.2.2.1).toNat) ⟨[],[],S,rfl,by simp,by simp,⟨by simp,by simp,by simp⟩,by simp⟩ ?_
 rintro v H' ⟨D,T,R,rfl,rfl,hD,hP,rfl⟩
 dsimp only
 have lD:=nj hD
 have lT:=hP.perm.length_eq
 have lS:T.length+R.length=n:=by rw[←hl,List.length_append]
 have nG:=ho.app
 refine alf (fun h1=>?_) fun h1=>?_
 ·have eR:R.take 20++R.drop 20=R:=List.take_append_drop _ _
  have l1:(R.take 20).length=20:=by rw[List.length_take];omega
  have hoR:=nG.2.1
  rw[←eR] at hoR
  have e:D.flatten++R=D.flatten++(R.take 20++R.drop 20):=by rw[eR]
  rw[e]
  refine aba g D.flatten (R.take 20) (R.drop 20) (by rw[←e,List.length_append];omega) hoR.app.1 (by rw[lD]) (by rw[lD,l1]) _ fun C p r=>?_
  rw[wI (by omega) (by omega)]
  refine⟨⟨D++[C],T++R.take 20,R.drop 20,?_,by rw[List.append_assoc,eR],fun X hX=>?_,⟨fun X hX=>?_,List.pairwise_append.2 ⟨hP.ah,by simp,fun X hX Y hY=>?_⟩,?_⟩,by simp⟩,by omega⟩
  ·have e1:((D.length*20+20:Nat):Int)+20=(((D++[C]).length*20+20:Nat):Int):=by rw[List.length_append,List.length_cons,List.length_nil];omega
   have e2:((D.length*20+20:Nat):Int)=(((D++[C]).length*20:Nat):Int):=by rw[List.length_append,List.length_cons,List.length_nil];omega
   rw[e1,e2]
  ·rcases List.mem_append.1 hX with hX|hX
   ·exact hD X hX
   ·obtain rfl:X=C:=by simpa using hX
    rw[p.length_eq,l1]
  ·rcases List.mem_append.1 hX with hX|hX
   ·exact hP.FY X hX
   ·obtain rfl:X=C:=by simpa using hX
    exact r
  ·obtain rfl:Y=C:=by simpa using hY
   exact nG.2.2.sub (fun x hx=>hP.perm.subset (List.mem_flatten.2 ⟨X,hX,hx⟩)) fun y hy=>List.mem_of_mem_take (p.subset hy)
  ·rw[List.flatten_append]
   exact hP.perm.append (by simpa using p)
 ·have e:D.flatten++R=D.flatten++(R++[]):=by simp
  rw[e]
  refine aba g D.flatten R [] (by rw[←e,List.length_append];omega) nG.2.1 (by rw[lD]) (by rw[lD];omega) _ fun C p r=>?_
  rw[List.append_nil]
  have lC:=p.length_eq
  have base:∃Cs:List (List Int),Shape 20 Cs∧sd cmp lt (T++R) Cs∧D.flatten++C=Cs.flatten:=by
   by_cases hC:C=[]
   ·subst hC
    have hR:R=[]:=List.eq_nil_of_length_eq_zero (by simpa using lC.symm)
    subst hR
    refine⟨D,by have:=lP (E:=[]) hD (by decide) trivial;rwa [List.append_nil] at this,by rw[List.append_nil];exact hP,by simp⟩
   ·refine⟨D++[C],lP hD (by decide) ⟨List.length_pos_iff.2 hC,by omega⟩,⟨fun X hX=>?_,List.pairwise_append.2 ⟨hP.ah,by simp,fun X hX Y hY=>?_⟩,?_⟩,by simp⟩
    ·rcases List.mem_append.1 hX with hX|hX
     ·exact hP.FY X hX
     ·obtain rfl:X=C:=by simpa using hX
      exact r
    ·obtain rfl:Y=C:=by simpa using hY
     exact nG.2.2.sub (fun x hx=>hP.perm.subset (List.mem_flatten.2 ⟨X,hX,hx⟩)) fun y hy=>p.subset hy
    ·rw[List.flatten_append]
     exact hP.perm.append (by simpa using p)
  obtain⟨Cs,j6,SB,eCs⟩:=base
  rw[eCs]
  clear eCs
  refine gG (fun v H'=>∃(bs:Nat) (Cs:List (List Int)),v=((s,(n:Int),[c],(bs:Int),()),())∧0<bs∧bs≤2000020∧Shape bs Cs∧sd cmp lt (T++R) Cs∧H'=Hx H aC t s Cs.flatten) (fun v _=>(n - v.1.2.2.2.1).toNat) ⟨20,Cs,rfl,by decide,by decide,j6,SB,rfl⟩ ?_
  rintro v H' ⟨bs,Cs,rfl,b0,b1,j6,SB,rfl⟩
  dsimp only
  have lCs:=SB.perm.length_eq
  rw[hl] at lCs
  refine dR (fun h2=>?_) fun h2=>?_
  ·have w2:IntKind.i64.wrap (2*(bs:Int))=((2*bs:Nat):Int):=by rw[wI (by omega) (by omega)];omega
   have w3:IntKind.i64.wrap ((bs:Int)*2)=((2*bs:Nat):Int):=by rw[wI (by omega) (by omega)];omega
   rw[w2]
   refine gG (fun v H'=>∃(D R':List (List Int)),v=((s,(n:Int),[c],(bs:Int),((D.length*(2*bs):Nat):Int),((D.length*(2*bs)+2*bs:Nat):Int),()),())∧(∀C∈D,C.length=2*bs)∧Shape bs R'∧sd cmp lt (T++R) (D++R')∧H'=Hx H aC t s (D++R').flatten) (fun v _=>(n+2*bs - v.1.2.2.2.2.2.1).toNat) ⟨[],Cs,by simp,by simp,j6,by simpa using SB,by simp⟩ ?_
   rintro v H' ⟨D,R',rfl,hD,hR,Fj,rfl⟩
   dsimp only
   rw[w2,w3]
   have lD:=nj hD
   have lA:=Fj.perm.length_eq
   rw[hl,List.flatten_append,List.length_append,lD] at lA
   have next:∀(E:List (List Int)),Shape (2*bs) E→sd cmp lt (T++R) E→(∃(bs':Nat) (Cs':List (List Int)),(((s,(n:Int),[c],((2*bs:Nat):Int),()),()):(Sl×Int×List Nat×Int×Unit)×Unit)=((s,(n:Int),[c],(bs':Int),()),())∧0<bs'∧bs'≤2000020∧Shape bs' Cs'∧sd cmp lt (T++R) Cs'∧Hx H aC t s E.flatten=Hx H aC t s Cs'.flatten)∧(n - (((2*bs:Nat):Int))).toNat<((n:Int)- (bs:Int)).toNat:=fun E h1 h2=>⟨⟨2*bs,E,rfl,by omega,by omega,h1,h2,rfl⟩,by omega⟩
   rw[show IntKind.i64.wrap (((D.length*(2*bs):Nat):Int)+(bs:Int))=((D.length*(2*bs)+bs:Nat):Int) from by rw[wI (by omega) (by omega)];omega]
   refine alf (fun h3=>?_) fun h3=>?_
   ·
    match R',hR,Fj,lA with
    |[],_,_,lA=>simp only[List.flatten_cons,List.flatten_nil,List.length_append,List.length_nil] at lA;omega
    |[A],hR,_,lA=>have:=hR.2;simp only[List.flatten_cons,List.flatten_nil,List.length_append,List.length_nil] at lA;omega
    |A::B::R',hR,Fj,lA=>
     have hA:A.length=bs:=hR.1
     have hB:=oH hR.2
     have lB:B.length=bs:=by
      by_cases hR0:R'=[]
      ·subst hR0;simp only[List.flatten_cons,List.flatten_nil,List.length_append,List.length_nil] at lA;have:=hB.2.1;omega
      ·exact hB.2.2.2 hR0
     obtain⟨r1,r2,ah⟩:=Ie Fj
     rw[show(D++A::B::R').flatten=D.flatten++(A++(B++R'.flatten)) from by simp]
     refine KI g ho.tr _ D.flatten A B R'.flatten _ (Nat.le_refl _) (List.length_pos_iff.1 (by omega)) (List.length_pos_iff.1 (by omega)) (by simp only[List.length_append,lD];simp only[List.flatten_cons,List.flatten_nil,List.length_append,List.length_nil] at lA;omega) r1 r2 ah (fun C p r=>?_) (by rw[lD]) (by rw[lD,hA]) (by rw[lD,hA,lB];omega)
     rw[wI (by omega) (by omega)]
     refine⟨⟨D++[C],R',?_,fun X hX=>?_,hB.2.2.1,by simpa using wG Fj p r,by simp⟩,by omega⟩
     ·rw[List.length_append,List.length_cons,List.length_nil,Nat.add_mul]
      have:((D.length*(2*bs)+(0+1)*(2*bs)+2*bs:Nat):Int)=((D.length*(2*bs)+2*bs:Nat):Int)+((2*bs:Nat):Int):=by omega
      rw[this]
      have:((D.length*(2*bs)+(0+1)*(2*bs):Nat):Int)=((D.length*(2*bs)+2*bs:Nat):Int):=by omega
      rw[this]
     ·rcases List.mem_append.1 hX with hX|hX
      ·exact hD X hX
      ·obtain rfl:X=C:=by simpa using hX
       rw[p.length_eq,List.length_append];omega
   ·
    match R',hR,Fj,lA with
    |[],_,Fj,lA=>
     refine bP (decide_eq_false (by simp only[List.flatten_cons,List.flatten_nil,List.length_append,List.length_nil] at lA;omega)) ?_
     exact next (D++[]) (lP (E:=[]) hD (by omega) trivial) Fj
    |[A],hR,Fj,lA=>
     refine bP (decide_eq_false (by simp only[List.flatten_cons,List.flatten_nil,List.length_append,List.length_nil] at lA;have:=hR.2;omega)) ?_
     exact next (D++[A]) (lP (E:=[A]) hD (by omega) ⟨hR.1,by have:=hR.2;omega⟩) Fj
    |A::B::R',hR,Fj,lA=>
     have hA:A.length=bs:=hR.1
     have hB:=oH hR.2
     have hR0:R'=[]:=Classical.byContradiction fun hc=>by
      have:=hB.2.2.2 hc
      simp only[List.flatten_cons,List.flatten_nil,List.length_append,List.length_nil] at lA
      omega
     subst hR0
     simp only[List.flatten_cons,List.flatten_nil,List.length_append,List.length_nil] at lA
     obtain⟨r1,r2,ah⟩:=Ie Fj
     refine cd (decide_eq_true (by omega)) ?_
     rw[show(D++[A,B]).flatten=D.flatten++(A++(B++[])) from by simp]
     refine KI g ho.tr _ D.flatten A B [] _ (Nat.le_refl _) (List.length_pos_iff.1 (by omega)) (List.length_pos_iff.1 hB.1) (by simp only[List.length_append,lD,List.length_nil];omega) r1 r2 ah (fun C p r=>?_) (by rw[lD]) (by rw[lD,hA]) (by rw[lD,hA];omega)
     have lC:=p.length_eq
     rw[List.length_append] at lC
     have:=next (D++[C]) (lP (E:=[C]) hD (by omega) ⟨by omega,by omega⟩) (wG Fj p r)
     simpa using this
  ·
   have one:eO lt Cs.flatten:=by
    match Cs,j6,SB,lCs with
    |[],_,_,_=>simp
    |[A],_,SB,_=>simpa using SB.FY A (by simp)
    |A::B::r,j6,_,lCs=>
     have h1:A.length=bs:=j6.1
     have h2:=(oH j6.2).1
     simp at lCs
     omega
   exact hk _ SB.perm one)
theorem Tk (g:I0 H aC t s n c cmp lt) (S:List Int) (hl:S.length=n) (ho:Dr cmp lt S) (K:HT []→HP→Prop) (hk:∀C:List Int,C.Perm S→eO lt C→K () (Hx H aC t s C)):
 UI s [c] (Hx H aC t s S) K:=Gd _ _ _ _ (by
 unfold U8
 rw[g.len]
 exact UE g S hl ho _ hk)
end
theorem BA (r:a_):S91 r (lg r,()):=aeL r fun H K hk=>by
 unfold A91
 unfold lg at hk
 by_cases h:r.kind=6
 ·rw[if_pos h] at hk;exact cd (by rw[beq_iff_eq];exact h) hk
 ·rw[if_neg h] at hk;exact bP (by rw[beq_eq_false_iff_ne];exact h) hk
theorem atl (a b:Int):aiU [a,b] ((if a≠0 then a else b),()):=Xe [a,b] fun H K hk=>by
 unfold US
 refine au fun _=>?_
 refine cN 2 (fun i=>((0,[a,b],((2:Nat):Int),(i:Int),()),())) (fun i=>(1≤i→a=0)∧(2≤i→b=0)) rfl ⟨by omega,by omega⟩ ?_
 intro i C hi hp hC
 dsimp only
 refine dR (fun h=>?_) fun h=>?_
 ·rw[w1 (by omega)]
  match i,h with
  |0,_=>
   refine b_ (i:=0) rfl rfl ?_
   by_cases ha:a=0
   ·exact bP (by simp[ha]) (hC (by omega) ⟨fun _=>ha,by omega⟩)
   ·rw[if_pos ha] at hk;exact cd (by simpa using ha) hk
  |1,_=>
   have ha:=hp.1 (Nat.le_refl _)
   rw[if_neg (by rw[ha];simp)] at hk
   refine b_ (i:=1) rfl rfl ?_
   by_cases hb:b=0
   ·exact bP (by simp[hb]) (hC (by omega) ⟨fun _=>ha,fun _=>hb⟩)
   ·exact cd (by simpa using hb) hk
 ·obtain rfl:i=2:=by omega
  rw[if_neg (by rw[hp.1 (by omega)];simp),hp.2 (Nat.le_refl _)] at hk
  exact hk
theorem Lx (r:a_):0≤lg r∧lg r≤1:=by unfold lg;split<;>omega
theorem afF {l:List a_} {H:HP} {c:Nat} (hc:H c=some ⟨.row aM,l⟩) {y x:Int} (hy:vX l y) (hx:vX l x) (K:HT [(false,.one (.int .i64))]→HP→Prop) (hk:K (ZY l y x,()) H):JJ y x (some c) H K:=SI _ _ _ _ _ (by
 unfold acd
 have ry:=Eo hy
 have rx:=Eo hx
 have ey:y=((y.toNat:Nat):Int):=by have:=hy.1;omega
 have ex:x=((x.toNat:Nat):Int):=by have:=hx.1;omega
 refine ax (aF hc (b_ ey ry (aF hc (b_ ex rx (ai _ (rm _ _) (aF hc (b_ ey ry (ai _ (BA _) (aF hc (b_ ex rx (ai _ (BA _) (ai _ (atl _ _) ?_))))))))))))
 have h1:=Lx (rq l y)
 have h2:=Lx (rq l x)
 rw[wI (x:=lg (rq l y)- lg (rq l x)) (by omega) (by omega)]
 exact hk)
theorem Yw {H:HP} {s:Sl} {c:Nat} (h0:s.len=0) (K:HT []→HP→Prop) (hk:K () H):UI s [c] H K:=Gd _ _ _ _ (by
 unfold U8
 rw[h0]
 refine Ge _ _ _ _ _ ?_
 unfold U9
 refine gG (fun v H'=>v=((s,((0:Nat):Int),[c],20,0,20,()),())∧H'=H) (fun _ _=>0) ⟨rfl,rfl⟩ ?_
 rintro v H' ⟨rfl,rfl⟩
 refine bP rfl (Gf _ _ _ _ _ _ ?_)
 unfold U_
 refine gG (fun v tO=>v=((s,0,((0:Nat):Int),[c],1,()),())∧tO=H') (fun _ _=>0) ⟨rfl,rfl⟩ ?_
 rintro v tO ⟨rfl,rfl⟩
 refine bP rfl ?_
 refine gG (fun v H3=>v=((s,((0:Nat):Int),[c],20,()),())∧H3=tO) (fun _ _=>0) ⟨rfl,rfl⟩ ?_
 rintro v H3 ⟨rfl,rfl⟩
 exact bP rfl hk)
theorem Yx (l:List a_) (hl:l.length≤1000) (H:HP) (K:HT [(false,.one .sl)]→HP→Prop) (hk:rM IK 3 (fA l) H fun s H'=>K (s,()) H'):C90 l H K:=uU rfl (Xf _ _ _ (by
 unfold A90
 intro c Rh
 have dZ:(H.set c (.row aM) l) c=some ⟨.row aM,l⟩:=cq _ _ _ _
 refine aF dZ (au fun _=>?_)
 refine cN l.length (fun i=>((c,pg i,(l.length:Int),(i:Int),()),())) (fun _=>True) rfl trivial ?_
 intro i C hi _ hC
 dsimp only
 refine dR (fun h=>?_) fun h=>?_
 ·refine bM (by rw[pB];omega) ?_
  rw[w1 (by omega),←uV]
  exact hC h trivial
 ·obtain rfl:i=l.length:=by omega
  intro s H' hp
  obtain⟨h1,h2,h3,h4⟩:=hp
  rw[pB] at h1
  rcases h4 with⟨h5,h6,rfl⟩|⟨n,h5,h6,rfl⟩
  ·have h0:l.length=0:=by rw[←pB l.length,h6];rfl
   refine Yw (by rw[h5]) _ ?_
   refine⟨H,dI Rh,hk s H ⟨?_,h2,h3,.inl ⟨h5,?_,rfl⟩⟩⟩
   ·rw[fA,lQ];exact h1
   ·exact List.eq_nil_of_length_eq_zero (by rw[fA,lQ];exact h0)
  ·have bb:n≠c:=fun e=>by subst e;rw[dZ] at h6;cases h6
   have ZZ:H n=none:=by rw[di bb] at h6;exact h6
   have g:I0 (H.set c (.row aM) l) n 3 s l.length c (ZY l) (zh l):=⟨h5,h1,by omega,fun xs y x K' aY bW=>by
    have hyx:vX l y∧vX l x:=by rcases aY with h|h<;>exact⟨by first|exact h.2.1|exact h.1,by first|exact h.1|exact h.2.1⟩
    exact afF (l:=l) ((di (Ne.symm bb)).trans dZ) hyx.1 hyx.2 K' bW⟩
   refine Tk g (pg l.length) (pB _) (Tl l) _ fun C' ji hr=>?_
   obtain rfl:=Oc ji hr
   refine⟨H.set n (.arr IK 3) (s,fA l),?_,hk s _ ⟨by rw[fA,lQ];exact h1,h2,h3,.inr ⟨n,h5,ZZ,rfl⟩⟩⟩
   exact HP.le.set (dI Rh)))
theorem Ri {l:List a_} {x:Int} (h:vX l x):∃i:Nat,x=(i:Int)∧l[i]?=some (rq l x):=⟨x.toNat,by have:=h.1;omega,Eo h⟩
theorem amr {g:List Int} (h:g≠[]):g[0]?=some (g.headD 0):=by
 cases g with
 |nil=>exact absurd rfl h
 |cons x g=>rfl
theorem afG {g:List Int} (h:g≠[]):g.headD 0∈g:=by
 cases g with
 |nil=>exact absurd rfl h
 |cons x g=>exact List.mem_cons_self
theorem Yy {l:List a_} {i:Nat} (h:i<l.length):∃x,(fA l)[i]?=some x∧vX l x:=by
 have hi:i<(fA l).length:=by rw[fA,lQ];exact h
 exact⟨_,List.getElem?_eq_getElem hi,w8 (List.getElem_mem hi)⟩
theorem Yz {l:List a_} {i:Nat} {x:Int} (h:(fA l)[i]?=some x):nv l (fA l) (i+1)=BB l (nv l (fA l) i) x:=by
 show(match(fA l)[i]? with|some i'=>BB l (nv l (fA l) i) i'|none=>nv l (fA l) i)=_
 rw[h]
abbrev Rj:=Nat×Sl×List Int
structure uW (H:HP) (T:List Rj):Prop where
 nd:(T.map (·.1)).Nodup
 bR:∀p∈T,p.2.1.a=some ⟨p.1,0,none⟩∧p.2.1.len=p.2.2.length∧H p.1=some ⟨.arr IK 3,(p.2.1,p.2.2)⟩
theorem uW.le {H H':HP} {T:List Rj} (h:uW H T) (hl:H.le H'):uW H' T:=⟨h.nd,fun p hp=>by obtain⟨h1,h2,h3⟩:=h.bR p hp;exact⟨h1,h2,hl.get h3⟩⟩
theorem uW.new {H:HP} {T:List Rj} (h:uW H T) {n:Nat} (hn:H n=none) {s:Sl} {g:List Int} (h1:s.a=some ⟨n,0,none⟩) (h2:s.len=g.length):uW (H.set n (.arr IK 3) (s,g)) (T++[(n,s,g)]):=by
 have ne:∀p∈T,p.1≠n:=fun p hp e=>by have:=(h.bR p hp).2.2;rw[e,hn] at this;cases this
 refine⟨?_,fun p hp=>?_⟩
 ·rw[List.map_append]
  refine List.nodup_append.2 ⟨h.nd,by simp,fun a ha b hb=>?_⟩
  obtain⟨p,hp,rfl⟩:=List.mem_map.1 ha
  obtain rfl:b=n:=by simpa using hb
  exact ne p hp
 ·rcases List.mem_append.1 hp with hp|hp
  ·obtain⟨a,b,c⟩:=h.bR p hp
   exact⟨a,b,by rw[di (ne p hp)];exact c⟩
  ·obtain rfl:p=(n,s,g):=by simpa using hp
   exact⟨h1,h2,cq _ _ _ _⟩
theorem uW.pop {H:HP} {T:List Rj} {p:Rj} (h:uW H (T++[p])):uW (H.del p.1) T:=by
 have nd:=h.nd
 rw[List.map_append] at nd
 have nd:=List.nodup_append.1 nd
 refine⟨nd.1,fun q hq=>?_⟩
 obtain⟨a,b,c⟩:=h.bR q (List.mem_append_left _ hq)
 refine⟨a,b,?_⟩
 have:q.1≠p.1:=nd.2.2 q.1 (List.mem_map_of_mem hq) p.1 (by simp)
 show(if q.1=p.1 then none else H q.1)=_
 rw[if_neg this];exact c
abbrev AS (T:List Rj):List Sl:=T.map fun p=>p.2.1
abbrev Z0 (T:List Rj):List (List Int):=T.map fun p=>p.2.2
theorem Z1 {r:a_} (h:r.kind≠6):lg r=0:=by unfold lg;rw[if_neg h]
theorem Z2 {r:a_} (h:r.kind=6):lg r=1:=by unfold lg;rw[if_pos h]
theorem YA (T:List Rj):T=[]∨∃D g,T=D++[g]:=by
 rcases List.eq_nil_or_concat T with h|⟨D,g,h⟩
 ·exact .inl h
 ·exact .inr ⟨D,g,by rw[h,List.concat_eq_append]⟩
theorem aki {H H':HP} {n:Nat} (h:H.le H') (hn:H' n=none):H n=none:=by
 cases e:H n with
 |none=>rfl
 |some o=>have:=h.get e;rw[hn] at this;cases this
theorem Tm (l:List a_) (hl:l.length≤1000) (H:HP) (K:HT [(false,.row (.one .sl))]→HP→Prop) (hk:∀H' T,H.le H'→uW H' T→Z0 T=FC l→K (AS T,()) H'):C78 l H K:=Xi _ _ _ (by
 unfold A78
 refine Yx l hl H _ ?_
 have lo:(fA l).length=l.length:=by rw[fA,lQ]
 intro s H0 hp
 obtain⟨p1,p2,p3,p4⟩:=hp
 have tk:∃H1,acy IK 3 s H0 (fA l) H1∧H.le H1:=by
  rcases p4 with⟨h5,h6,rfl⟩|⟨n,h5,h6,rfl⟩
  ·exact⟨H0,.inl ⟨h5,h6,rfl⟩,HP.le.refl _⟩
  ·refine⟨_,.inr ⟨n,h5,cq _ _ _ _,rfl⟩,fun m hm=>?_⟩
   have:m≠n:=fun e=>by rw[e,h6] at hm;cases hm
   show(if m=n then none else(H.set n _ _) m)=_
   rw[if_neg this,di this]
 obtain⟨H1,tk,atm⟩:=tk
 refine⟨fA l,H1,tk,au fun _=>?_⟩
 rw[lo]
 refine gY l.length (fun i v H'=>∃T,v=((l,AS T,fA l,(l.length:Int),(i:Int),()),())∧uW H' T∧Z0 T=nv l (fA l) i∧H.le H'∧∀p∈T,H p.1=none) ⟨[],rfl,⟨by simp,by simp⟩,rfl,atm,by simp⟩ ?_
 rintro i v H' C hi ⟨T,rfl,hT,eT,hle,dz⟩ hC
 dsimp only
 refine dR (fun h=>?_) fun h=>?_
 ·obtain⟨x,hx,hqx⟩:=Yy h
  have ok:=DL (fun x hx=>w8 hx) i (l:=l) (o:=fA l)
  have nx:=hC h
  simp only[Yz hx] at nx
  rw[←eT] at ok nx
  obtain⟨ix,ex,hrx⟩:=Ri hqx
  have akj:=ok.len
  rw[List.length_map] at akj
  rw[w1 (by omega)]
  have add:Z0 T++[[x]]=BB l (Z0 T) x→rM IK 3 [x] H' fun s H2=>cR (AS T).length 1 24 (C ((l,AS T++[s],fA l,(l.length:Int),((i+1:Nat):Int),()),()) H2):=fun e=>by
   refine xT (by simp) fun s n hn hs=>bM (by rw[List.length_map];omega) ?_
   exact nx _ _ ⟨T++[(n,s,[x])],by simp,hT.new hn hs.bR hs.len,by rw[←e];simp,hle.trans (dI hn),fun p hp=>(List.mem_append.1 hp).elim (dz p) fun hp=>by obtain rfl:p=(n,s,[x]):=(by simpa using hp);exact aki hle hn⟩
  refine⟨by omega,by rw[lo];omega,?_⟩
  rw[Int.toNat_natCast]
  refine dj hx (au fun _=>?_)
  rcases YA T with rfl|⟨D,p,rfl⟩
  ·exact bP rfl (add rfl)
  ·obtain⟨b,s1,g⟩:=p
   have eI:Z0 (D++[(b,s1,g)])=Z0 D++[g]:=by simp
   have eS:AS (D++[(b,s1,g)])=AS D++[s1]:=by simp
   rw[eI] at ok add nx
   rw[eS] at add⊢
   have hg:g≠[]:=ok.ne g (by simp)
   have hlg:=ok.all g (by simp)
   have hqh:vX l (g.headD 0):=ok.ok g (by simp) _ (afG hg)
   obtain⟨ih,eh,hrh⟩:=Ri hqh
   obtain⟨a1,a2,a3⟩:=hT.bR (b,s1,g) (by simp)
   dsimp only at a1 a2 a3
   rw[uX] at nx add
   have hz:=amr hg
   generalize g.headD 0=hd at hqh eh hrh nx add hz
   rw[List.length_append,List.length_cons,List.length_nil] at akj
   have lD:(AS D).length=D.length:=List.length_map _
   have wD:IntKind.i64.wrap (((AS D++[s1]).length:Nat)- 1)=(D.length:Int):=by rw[wI (by simp<;>omega) (by simp<;>omega)];simp<;>omega
   rw[wD]
   have inD:∀{A:Nat→Prop},A D.length→cS (D.length:Int) (AS D++[s1]).length A:=fun{A} h=>⟨by omega,by simp<;>omega,by rw[Int.toNat_natCast];exact h⟩
   have gD:(AS D++[s1])[D.length]?=some s1:=by rw[←lD];simp
   have no:JW l hd x=false→_:=fun h=>add (by rw[if_neg (by rw[h];simp)])
   unfold JW at no nx
   refine cd (decide_eq_true (by omega)) (b_ ex hrx (ai _ (BA _) ?_))
   dsimp only
   by_cases h2:(rq l x).kind=6
   ·refine bP (by rw[Z2 h2];rfl) (no (by simp[h2]))
   refine cd (by rw[Z1 h2];rfl) (inD (dj gD ?_))
   have hg0:0<s1.len:=by rw[a2];exact List.length_pos_iff.2 hg
   refine jk (i:=0) a1 rfl hg0 (gT a3 hz (b_ eh hrh (ai _ (BA _) ?_)))
   dsimp only
   by_cases h1:(rq l hd).kind=6
   ·refine bP (by rw[Z2 h1];rfl) (no (by simp[h1]))
   refine cd (by rw[Z1 h1];rfl) (b_ ex hrx (ai _ (tc _ _) ?_))
   dsimp only
   by_cases h3:(rq l hd).key=(rq l x).key
   ·refine cd (decide_eq_true h3) (inD (dj gD ?_))
    refine⟨g,_,.inr ⟨b,a1,a3,rfl⟩,bM (by omega) (xT (by simp) fun s2 n hn hs=>inD (dj gD ?_))⟩
    rw[if_pos (by simp[h1,h2,h3])] at nx
    have hb0:H b=none:=dz (b,s1,g) (by simp)
    have Od:H.le (H'.del b):=fun m hm=>by
     have:m≠b:=fun e=>by rw[e,hb0] at hm;cases hm
     show(if m=b then none else H' m)=_
     rw[if_neg this];exact hle m hm
    refine nx _ _ ⟨D++[(n,s2,g++[x])],?_,hT.pop.new hn hs.bR hs.len,by simp,Od.trans (dI hn),fun p hp=>(List.mem_append.1 hp).elim (fun hp=>dz p (List.mem_append_left _ hp)) fun hp=>by obtain rfl:p=(n,s2,g++[x]):=(by simpa using hp);exact aki Od hn⟩
    rw[show List.set (AS D++[s1]) D.length s2=AS D++[s2] from w9 lD.symm]
    simp
   ·exact bP (decide_eq_false h3) (no (by simp[h3]))
 ·obtain rfl:i=l.length:=by omega
  exact hk H' T hle hT eT)
def BC:AK→Nat
 |.arr (.one _) _=>1
 |.arr (.cons _ (.cons (.cons _ _) _)) t=>if t=139 then 1 else 0
 |.cons (.one .sl) (.cons (.one .sl) _)=>1
 |_=>0
def pC (H H':HP):Prop:=∀m o,H m=some o→BC o.k≠1→H' m=some o
theorem pC.refl (H:HP):pC H H:=fun _ _ h _=>h
theorem pC.trans {H H' tO:HP} (h:pC H H') (h':pC H' tO):pC H tO:=fun m o h1 h2=>h' m o (h m o h1 h2) h2
theorem pC.set {H H':HP} (h:pC H H') {n:Nat} {k:AK} {x:k.T} (hn:∀o,H n=some o→BC o.k=1):pC H (H'.set n k x):=fun m o h1 h2=>by
 have:m≠n:=fun e=>by subst e;exact h2 (hn o h1)
 rw[di this];exact h m o h1 h2
structure lh (H:HP) (n b be:Nat) (s se:Sl) (gs:List (List bI)) (ap an:Nat):Prop where
 bo:H n=some ⟨iP,(s,se,(ap:Int),(an:Int))⟩
 sl:s.len=gs.flatten.length
 el:se.len=gs.length
 cap:s.len≤s.cap
 z:gs=[]→s=⟨none,0,0⟩∧se=⟨none,0,0⟩
 bR:gs≠[]→s.a=some ⟨b,0,none⟩∧pT H b FZ 139 s gs.flatten∧se.a=some ⟨be,0,none⟩∧pT H be IK 3 se (pU gs)
 ne:∀g∈gs,g≠[]
 le:gs.flatten.length≤32
 Z3:ap≤gs.length
 anl:an≤cV gs ap
 short:∀g∈gs,∀x∈g,kS x.2.1∧j5 x.2.2
theorem yr:∀{gs:List (List bI)},(∀g∈gs,g≠[])→gs.length≤gs.flatten.length
 |[],_=>by simp
 |g::gs,h=>by
  have h1:=yr (gs:=gs) fun a ha=>h a (List.mem_cons_of_mem _ ha)
  have h2:=List.length_pos_iff.2 (h g List.mem_cons_self)
  rw[List.flatten_cons,List.length_append,List.length_cons];omega
section
variable {H:HP} {n b be:Nat} {s se:Sl} {gs:List (List bI)} {ap an:Nat}
theorem lh.few (h:lh H n b be s se gs ap an):gs.length≤32:=Nat.le_trans (yr h.ne) h.le
theorem lh.dn (h:lh H n b be s se gs ap an) (k:Nat):cV gs k≤32:=Nat.le_trans (tP gs k) h.le
theorem lh.nn (h:lh H n b be s se gs ap an) (hg:gs≠[]):n≠b∧n≠be∧b≠be:=by
 obtain⟨_,a2,_,a4⟩:=h.bR hg
 have h1:=h.bo
 refine⟨fun e=>?_,fun e=>?_,fun e=>?_⟩
 ·rw[e,show H b=_ from a2] at h1;injection h1 with h1;injection h1 with h1;cases h1
 ·rw[e,show H be=_ from a4] at h1;injection h1 with h1;injection h1 with h1;cases h1
 ·rw[e] at a2;have:=(show H be=_ from a2).symm.trans (show H be=_ from a4);injection this with h1;injection h1 with h1;injection h1 with h1;cases h1
theorem afI (H:HP) (K:HT [(false,.ref)]→HP→Prop) (hk:∀n H',lh H' n 0 0 ⟨none,0,0⟩ ⟨none,0,0⟩ [] 0 0→H.le H'→K (some n,()) H'):C21 H K:=Xj _ _ (by
 unfold A21
 intro n hn
 exact hk n _ ⟨cq _ _ _ _,rfl,rfl,Nat.le_refl _,fun _=>⟨rfl,rfl⟩,fun h=>absurd rfl h,by simp,by simp,by simp,by simp,by simp⟩ (dI hn))
theorem YB (h:lh H n b be s se gs ap an) (K:HT [(false,.one .bool)]→HP→Prop) (hk:K (decide (gs≠[]),()) H):C76 (some n) H K:=Xk _ _ _ (by
 unfold A76
 refine ax (aF h.bo ?_)
 have e:decide (((s.len:Nat):Int)>0)=decide (gs≠[]):=by
  rw[Bool.eq_iff_iff,decide_eq_true_eq,decide_eq_true_eq,h.sl]
  have:=yr h.ne
  constructor
  ·intro h1 h2;rw[h2] at h1;simp at h1
  ·intro h1;have:=List.length_pos_iff.2 h1;omega
 show K (decide (((s.len:Nat):Int)>0),()) H
 rw[e];exact hk)
theorem Ly (h:lh H n b be s se gs ap an) (K:HT [(false,.one (.int .i64))]→HP→Prop) (hk:K ((cV gs ap:Int),()) H):C67 (some n) H K:=Xl _ _ _ (by
 unfold A67
 have hf:=h.few
 have hl:=h.Z3
 refine ax (aF h.bo ?_)
 by_cases h0:ap=0
 ·subst h0;rw[Tn] at hk;exact cd rfl hk
 ·have vY:gs≠[]:=fun e=>by rw[e] at hl;simp at hl;exact h0 hl
  obtain⟨_,_,a3,a4⟩:=h.bR vY
  refine bP (by simp;omega) (ax (aF h.bo (ax (aF h.bo ?_))))
  refine jk (i:=ap - 1) a3 (by dsimp only;rw[wI (by omega) (by omega)];omega) (by rw[h.el];omega) (gT a4 (Gi (by omega)) ?_)
  rw[show ap - 1+1=ap from by omega];exact hk)
def te (s:Sl) (gs:List (List bI)) (ap:Nat):Sl:=if ap=gs.length then⟨none,0,0⟩ else⟨if s.cap=cV gs ap then s.a else s.a.map (·.add (cV gs ap*14)),cV gs (ap+1)- cV gs ap,s.cap - cV gs ap⟩
theorem w_ (h:lh H n b be s se gs ap an):(te s gs ap).len=((gs[ap]?).getD []).length:=by
 unfold te
 split
 ·rename_i e;rw[e];simp
 ·rename_i e
  have hl:=h.Z3
  have hg:gs[ap]?=some gs[ap]:=List.getElem?_eq_getElem (by omega)
  rw[hG hg,hg]
  simp
theorem Rk (h:lh H n b be s se gs ap an) {g:List bI} (hg:gs[ap]?=some g):(te s gs ap).a=some ⟨b,cV gs ap*14,none⟩∧gs≠[]:=by
 obtain⟨hk,e⟩:=List.getElem?_eq_some_iff.1 hg
 have bb:gs≠[]:=fun e=>by rw[e] at hk;simp at hk
 obtain⟨a1,_⟩:=h.bR bb
 have h1:=hG hg
 have h2:=tP gs (ap+1)
 have h3:=List.length_pos_iff.2 (h.ne g (e▸List.getElem_mem hk))
 have h4:=h.cap
 rw[h.sl] at h4
 unfold te
 rw[if_neg (by omega),if_neg (by omega),a1]
 refine⟨?_,bb⟩
 show some ((Addr.mk b 0 none).add (cV gs ap*14))=_
 rw[bw,Nat.zero_add]
theorem Rl {s:Sl} {m:Int} {b o i sz:Nat} {K:Addr→Prop} (hs:s.a=some ⟨b,o*sz,none⟩) (hm:m=(i:Int)) (hi:i<s.len) (h:K (Oe b (o+i) sz)):dF s m sz K:=by
 subst hm
 refine⟨by omega,by omega,_,hs,?_⟩
 rw[bw,Int.toNat_natCast,←Nat.add_mul];exact h
theorem Gj (h:lh H n b be s se gs ap an) (K:HT [(false,.one .sl)]→HP→Prop) (hk:K (te s gs ap,()) H):C63 (some n) H K:=Xm _ _ _ (by
 unfold A63
 have hf:=h.few
 have hl:=h.Z3
 refine ax (aF h.bo (ax (aF h.bo ?_)))
 dsimp only
 rw[h.el]
 unfold te at hk
 by_cases e:ap=gs.length
 ·rw[if_pos e] at hk
  exact cd (by rw[beq_iff_eq];omega) hk
 ·rw[if_neg e] at hk
  have vY:gs≠[]:=fun e'=>by rw[e'] at hl e;simp at hl e;exact e hl
  obtain⟨_,_,a3,a4⟩:=h.bR vY
  refine bP (by rw[beq_eq_false_iff_ne];omega) (ax (aF h.bo (cI _ (fun K' bW=>Ly h K' bW) (ax (aF h.bo (ax (aF h.bo ?_)))))))
  refine jk (i:=ap) a3 rfl (by rw[h.el];omega) (gT a4 (Gi (by omega)) ?_)
  have h1:=yu gs (show ap≤ap+1 from by omega)
  have h2:=tP gs (ap+1)
  have h3:=h.cap
  rw[h.sl] at h3
  refine⟨by dsimp only;omega,by dsimp only;omega,by dsimp only;omega,?_⟩
  simp only[Int.toNat_natCast]
  exact hk)
theorem Gk (r:a_) (hr:kS r):S64 r (r,()):=aeP r fun H K hk=>by
 unfold A64
 obtain⟨h1,h2,h3,h4⟩:=hr
 exact ai _ (bJ _ (by show r.key.length≤_;omega)) (ai _ (bJ _ (by show r.val.length≤_;omega)) (ai _ (bJ _ (by show r.kB.length≤_;omega)) (ai _ (bJ _ (by show r.to.length≤_;omega)) hk)))
theorem Lz (a:eH) (ha:j5 a):S68 a (a,()):=aeQ a fun H K hk=>by
 obtain⟨h1,h2,h3⟩:=ha
 obtain⟨c,f,v,l,st⟩:=a
 simp only at h1 h2 h3
 unfold A68
 refine ai _ (bJ _ (by show v.length≤_;omega)) (au fun _=>?_)
 refine cN l.length (fun i=>(((),(),l,(l.length:Int),(i:Int),()),(c,f,v,l.take i,st,()),(0,false,(),(),0,()),())) (fun _=>True) (by simp) trivial fun i C hi _ hC=>?_
 dsimp only at hC⊢
 refine dR (fun aY=>?_) fun o0=>?_
 ·have hp:=h3 _ (List.getElem_mem aY)
  refine dk aY (ai _ (bJ _ (by omega)) (ai _ (bJ _ (by omega)) (bM (by rw[List.length_take];omega) ?_)))
  rw[w1 (by omega)]
  have:=hC aY trivial
  rw[bH aY] at this
  exact this
 ·obtain rfl:i=l.length:=by omega
  rw[List.take_length];exact hk
def Z4 (gs:List (List bI)) (ap:Nat):List a_:=((gs[ap]?).getD []).map fun x=>x.2.1
theorem pV {gs:List (List bI)} {k i:Nat} {g:List bI} {x:bI} (hg:gs[k]?=some g) (hx:g[i]?=some x):gs.flatten[cV gs k+i]?=some x:=by
 obtain⟨hi,_⟩:=List.getElem?_eq_some_iff.1 hx
 rw[pD hg]
 unfold cV
 rw[List.getElem?_append_right (by omega),show(gs.take k).flatten.length+i - (gs.take k).flatten.length=i from by omega,List.getElem?_append_left hi]
 exact hx
theorem I1 (h:lh H n b be s se gs ap an) {g:List bI} (hg:gs[ap]?=some g):g.length≤32:=by
 have h1:=hG hg
 have h2:=h.dn (ap+1)
 omega
theorem YC (h:lh H n b be s se gs ap an) (K:HT [(false,.row aM)]→HP→Prop) (hk:K (Z4 gs ap,()) H):C46 (some n) H K:=Xp _ _ _ (by
 unfold A46
 refine cI _ (fun K' bW=>Gj h K' bW) ?_
 dsimp only
 rw[w_ h]
 unfold Z4 at hk
 cases hg:gs[ap]? with
 |none=>
  rw[hg] at hk
  refine cN 0 (fun i=>(([],te s gs ap,0,0,()),())) (fun _=>True) rfl trivial fun i C hi _ hC=>bP rfl hk
 |some g=>
  rw[hg] at hk
  have Of:g∈gs:=List.mem_of_getElem? hg
  have hl:=w_ h
  rw[hg] at hl
  have hl:(te s gs ap).len=g.length:=hl
  have hgl:=I1 h hg
  obtain⟨a1,a2⟩:=Rk h hg
  obtain⟨_,a3,_,_⟩:=h.bR a2
  show a9 (([],te s gs ap,(g.length:Int),0,()),()) _ _
  refine cN g.length (fun i=>(((g.take i).map fun x=>x.2.1,te s gs ap,(g.length:Int),(i:Int),()),())) (fun _=>True) rfl trivial fun i C hi _ hC=>?_
  dsimp only
  refine dR (fun h1=>?_) fun h1=>?_
  ·have j6:=(h.short g Of g[i] (List.getElem_mem h1)).1
   refine Rl (b:=b) (o:=cV gs ap) (i:=i) a1 rfl (by rw[hl];exact h1) (gT a3 (pV hg (List.getElem?_eq_getElem h1)) (ai _ (Gk _ j6) (bM (by simp;omega) ?_)))
   have:=hC h1 trivial
   rw[bH h1,List.map_append] at this
   rw[w1 (by omega)]
   exact this
  ·obtain rfl:i=g.length:=by omega
   rw[List.take_length];exact hk)
def LC (gs:List (List bI)) (ap an:Nat):Int×eH×Bool:=if cV gs ap≤an then(0,fw,false) else match gs.flatten[an]? with|some x=>(x.1,x.2.2,true)|none=>(0,fw,false)
theorem Gl {gs:List (List bI)} {i:Nat} {x:bI} (h:gs.flatten[i]?=some x):∃g∈gs,x∈g:=List.mem_flatten.1 (List.mem_of_getElem? h)
theorem yv (h:lh H n b be s se gs ap an) (aY:an<cV gs ap):∃x,gs.flatten[an]?=some x∧LC gs ap an=(x.1,x.2.2,true):=by
 have h1:=tP gs ap
 have hx:gs.flatten[an]?=some gs.flatten[an]:=List.getElem?_eq_getElem (by omega)
 refine⟨_,hx,?_⟩
 unfold LC
 rw[if_neg (by omega),hx]
theorem Gm (h:lh H n b be s se gs ap an) (K:HT [(false,.one (.int .i64)),(true,dH),(false,.one .bool)]→HP→Prop) (hk:K ((LC gs ap an).1,(LC gs ap an).2.1,(LC gs ap an).2.2,()) H):C48 (some n) H K:=Xq _ _ _ (by
 unfold A48
 refine ax (aF h.bo (cI _ (fun K' bW=>Ly h K' bW) ?_))
 dsimp only
 by_cases aY:cV gs ap≤an
 ·unfold LC at hk
  rw[if_pos aY] at hk
  exact cd (decide_eq_true (by omega)) hk
 ·obtain⟨x,hx,e⟩:=yv h (by omega)
  rw[e] at hk
  have h1:=tP gs ap
  have vY:gs≠[]:=fun e'=>by rw[e'] at aY;simp[cV] at aY
  obtain⟨a1,a3,_,_⟩:=h.bR vY
  obtain⟨g,hg,hxg⟩:=Gl hx
  refine bP (decide_eq_false (by omega)) (ax (aF h.bo (ax (aF h.bo ?_))))
  exact jk (i:=an) a1 rfl (by rw[h.sl];omega) (gT a3 hx (ai _ (Lz _ (h.short g hg x hxg).2) hk)))
theorem lh.tag (h:lh H n b be s se gs ap an) {o:OB}:(H n=some o→BC o.k=1)∧(gs≠[]→H b=some o→BC o.k=1):=by
 refine⟨fun e=>by rw[h.bo] at e;injection e with e;subst e;rfl,fun hg e=>?_⟩
 obtain⟨_,a2,_,_⟩:=h.bR hg
 rw[show H b=_ from a2] at e;injection e with e;subst e;rfl
theorem To (h:lh H n b be s se gs ap an) (res:List eH) (xc:∀a∈res,j5 a) (hrl:res.length≤1000) (K:HT [(false,.one .any)]→HP→Prop) (I2:gs[ap]?=none→K (er 10,()) H) (h1:∀g,gs[ap]?=some g→res.length≠g.length→K (er 1,()) H)
 (ok:∀g,gs[ap]?=some g→res.length=g.length→∀H',lh H' n b be s se (gs.set ap (mh g res)) (ap+1) an→pC H H'→K (er 0,()) H'):C66 (some n) res H K:=Xr _ _ _ _ (by
 unfold A66
 refine cI _ (fun K' bW=>Gj h K' bW) ?_
 dsimp only
 rw[w_ h]
 cases hg:gs[ap]? with
 |none=>
  refine cd rfl ?_
  rw[wH (by decide)];exact I2 hg
 |some g=>
  have Of:g∈gs:=List.mem_of_getElem? hg
  have hg0:=List.length_pos_iff.2 (h.ne g Of)
  have hl:=w_ h
  rw[hg] at hl
  have hl:(te s gs ap).len=g.length:=hl
  have hgl:=I1 h hg
  obtain⟨a1,a2⟩:=Rk h hg
  obtain⟨b1,b2,b3,b4⟩:=h.bR a2
  obtain⟨n1,n2,n3⟩:=h.nn a2
  have I3:=(List.getElem?_eq_some_iff.1 hg).1
  have hf:=h.few
  show af ((g.length:Int)==0) _ _
  refine bP (by rw[beq_eq_false_iff_ne];omega) (au fun _=>?_)
  show af ((res.length:Int)!=(g.length:Int)) _ _
  by_cases hr:res.length=g.length
  case neg=>
   refine cd (by rw[bne_iff_ne];omega) ?_
   rw[wH (by decide)];exact h1 g hg hr
  refine bP (by simp[hr]) (au fun _=>?_)
  have sp:=pD hg
  refine gY g.length (fun i v H'=>v=((some n,te s gs ap,res,(res.length:Int),(i:Int),()),())∧H'=H.set b (.arr FZ 139) (s,(gs.take ap).flatten++(rO g res i++(gs.drop (ap+1)).flatten))) ⟨rfl,?_⟩ ?_
  ·rw[Og,←sp];exact(hU b2).symm
  rintro i v H' C hi ⟨rfl,rfl⟩ hC
  dsimp only at hC⊢
  rw[hr]
  refine dR (fun h2=>?_) fun h2=>?_
  ·have hir:i<res.length:=by omega
   obtain⟨z1,z2⟩:=Oh hr h2
   have uY:=Gn hr i
   refine b_ rfl (List.getElem?_eq_getElem hir) (ai _ (Lz _ (xc _ (List.getElem_mem hir))) ?_)
   refine Rl (b:=b) (o:=cV gs ap) (i:=i) a1 rfl (by rw[hl];exact h2) (wJ (cq _ _ _ _) (x:=g[i]) ?_ ?_)
   ·unfold cV
    rw[List.getElem?_append_right (by omega),show(gs.take ap).flatten.length+i - (gs.take ap).flatten.length=i from by omega,List.getElem?_append_left (by omega)]
    exact z1
   ·dsimp only
    rw[nT]
    refine hC h2 _ _ ⟨by rw[w1 (by omega),hr],?_⟩
    congr 2
    unfold cV
    rw[List.set_append_right _ _ (by omega),show(gs.take ap).flatten.length+i - (gs.take ap).flatten.length=i from by omega,List.set_append_left _ _ (by omega)]
    rw[←z2]
  ·obtain rfl:i=g.length:=by omega
   rw[Gq hr,←qD (g':=mh g res) hg]
   have hd:(H.set b (.arr FZ 139) (s,(gs.set ap (mh g res)).flatten)) n=some ⟨iP,(s,se,(ap:Int),(an:Int))⟩:=(di n1).trans h.bo
   refine ax (aF hd (ax (aF hd ?_)))
   dsimp only
   rw[w1 (by omega)]
   have zl:=yw hr
   have fl:(gs.set ap (mh g res)).flatten.length=gs.flatten.length:=by rw[qD hg,sp];simp only[List.length_append,zl]
   have:=ok g hg hr ((H.set b (.arr FZ 139) (s,(gs.set ap (mh g res)).flatten)).set n iP (s,se,((ap+1:Nat):Int),(an:Int))) ?_ ?_
   ·rw[show er 0=Value.nilIface from rfl] at this;exact this
   ·refine⟨cq _ _ _ _,by rw[h.sl,fl],by rw[h.el,List.length_set],h.cap,fun e=>?_,fun _=>⟨b1,(di (Ne.symm n1)).trans (cq _ _ _ _),b3,?_⟩,fun x hx=>?_,by rw[fl];exact h.le,by rw[List.length_set];omega,?_,fun x hx=>?_⟩
    ·have:=congrArg List.length e;rw[List.length_set] at this;exact absurd (List.eq_nil_of_length_eq_zero this) a2
    ·rw[Oi hg zl]
     exact(di (Ne.symm n2)).trans ((di (Ne.symm n3)).trans b4)
    ·rcases List.mem_or_eq_of_mem_set hx with hx|rfl
     ·exact h.ne x hx
     ·exact fun e=>by rw[e] at zl;simp at zl;omega
    ·rw[DM hg zl];exact Nat.le_trans h.anl (yu gs (Nat.le_succ ap))
    ·rcases List.mem_or_eq_of_mem_set hx with hx|rfl
     ·exact h.short x hx
     ·intro y hy
      unfold mh at hy
      obtain⟨i,hi,rfl⟩:=List.getElem_of_mem hy
      rw[List.getElem_zipWith]
      exact⟨(h.short g Of _ (List.getElem_mem _)).1,xc _ (List.getElem_mem _)⟩
   ·exact pC.set (pC.set (pC.refl H) fun o e=>h.tag.2 a2 e) fun o e=>h.tag.1 e)
theorem Ig (h:lh H n b be s se gs ap an) (K:HT [(false,.one .any)]→HP→Prop) (I2:cV gs ap≤an→K (er 10,()) H)
 (cG:an<cV gs ap→an+1≠gs.flatten.length→∀H',lh H' n b be s se gs ap (an+1)→pC H H'→K (er 0,()) H')
 (fin:an<cV gs ap→an+1=gs.flatten.length→∀H',lh H' n 0 0 ⟨none,0,0⟩ ⟨none,0,0⟩ [] 0 0→pC H H'→K (er 0,()) H'):C70 (some n) H K:=Xs _ _ _ (by
 unfold A70
 refine cI _ (fun K' bW=>Gm h K' bW) ?_
 dsimp only
 by_cases aY:cV gs ap≤an
 ·have e:LC gs ap an=(0,fw,false):=by unfold LC;rw[if_pos aY]
  rw[e]
  refine cd rfl ?_
  rw[wH (by decide)];exact I2 aY
 ·obtain⟨x,hx,e⟩:=yv h (by omega)
  rw[e]
  have hd:=h.dn ap
  have vY:gs≠[]:=fun e'=>by rw[e'] at aY;simp[cV] at aY
  obtain⟨n1,n2,n3⟩:=h.nn vY
  refine bP rfl (ax (aF h.bo (ax (aF h.bo ?_))))
  dsimp only
  rw[w1 (by omega)]
  have hs:=cq H n iP (s,se,(ap:Int),((an+1:Nat):Int))
  refine ax (aF hs (ax (aF hs ?_)))
  dsimp only
  rw[h.sl]
  by_cases hl:an+1=gs.flatten.length
  ·refine cd (by rw[beq_iff_eq];omega) (ax (aF hs ?_))
   rw[nT]
   have:=fin (by omega) hl (H.set n iP (⟨none,0,0⟩,⟨none,0,0⟩,0,0)) ⟨cq _ _ _ _,rfl,rfl,Nat.le_refl _,fun _=>⟨rfl,rfl⟩,fun h=>absurd rfl h,by simp,by simp,by simp,by simp,by simp⟩ (pC.set (pC.refl H) fun o e=>h.tag.1 e)
   exact this
  ·refine bP (by rw[beq_eq_false_iff_ne];omega) ?_
   have:=cG (by omega) hl (H.set n iP (s,se,(ap:Int),((an+1:Nat):Int))) ⟨cq _ _ _ _,h.sl,h.el,h.cap,h.z,fun hg=>by obtain⟨b1,b2,b3,b4⟩:=h.bR hg;exact⟨b1,(di (Ne.symm n1)).trans b2,b3,(di (Ne.symm n2)).trans b4⟩,h.ne,h.le,h.Z3,by omega,h.short⟩ (pC.set (pC.refl H) fun o e=>h.tag.1 e)
   exact this)
end
theorem afJ (aI:List Int) (l:List a_) (hs:aI.length=l.length):S77 aI l (ph aI l,()):=aeU aI l fun H K hk=>by
 unfold A77
 refine au fun hlen=>?_
 refine cN l.length (fun i=>((aI,l,l,(l.length:Int),(i:Int),()),())) (fun i=>s_ i (Wn aI l)=true) rfl (by rfl) fun i C hi hP hC=>?_
 dsimp only
 refine dR (fun h1=>?_) fun h1=>?_
 ·have tQ:i<aI.length:=by omega
  have no:Wn aI l i=false→K (false,()) H:=fun hf=>by
   have:ph aI l=false:=by unfold ph;rw[su h1 hf,Bool.and_false]
   rw[this] at hk;exact hk
  have ef:Wn aI l i=(eM l[i]&& !decide (aI[i]∈aI.take i)):=by
   unfold Wn;rw[List.getElem?_eq_getElem h1,List.getElem?_eq_getElem tQ]
  refine dk h1 (ai _ (xS _) ?_)
  show af (!(eM l[i])) _ _
  cases hm:eM l[i] with
  |false=>exact cd rfl (no (by rw[ef,hm,Bool.false_and]))
  |true=>
   refine bP rfl (gj (a:=0) (b:=i) rfl rfl (Nat.zero_le _) (by omega) (dk tQ (ai _ (zi _ _) ?_)))
   rw[sub_zero,Nat.sub_zero]
   show af (decide (aI[i]∈aI.take i)) _ _
   cases hd:decide (aI[i]∈aI.take i) with
   |true=>exact cd rfl (no (by rw[ef,hd];simp))
   |false=>
    refine bP rfl ?_
    rw[w1 (by omega)]
    refine hC h1 ?_
    rw[N',hP,ef,hm,hd];rfl
 ·obtain rfl:i=l.length:=by omega
  refine au fun _=>?_
  unfold ph at hk
  rw[hP,Bool.and_true] at hk
  have e:decide ((l.length:Int)>0)=decide (0<l.length):=by rw[Bool.eq_iff_iff,decide_eq_true_eq,decide_eq_true_eq];omega
  rw[e];exact hk
theorem Rm {aI:List Int} {l:List a_} (hs:aI.length=l.length) {x:Int} (h:vX l x):∃j:Nat,x=(j:Int)∧aI[j]?=some (Oj aI l x).1∧l[j]?=some (rq l x):=by
 obtain⟨h1,h2⟩:=h
 refine⟨x.toNat,by omega,?_,Eo ⟨h1,h2⟩⟩
 unfold Oj
 rw[List.getElem?_eq_getElem (by omega:x.toNat<aI.length)];rfl
theorem LD (l:List a_):JX l (FC l) l.length:=DL (fun x hx=>w8 hx) l.length
theorem afK {aI:List Int} {l:List a_}:∀g∈mT aI l,g≠[]:=fun g hg=>by
 unfold mT at hg
 obtain⟨g0,h0,rfl⟩:=List.mem_map.1 hg
 have:=(LD l).ne g0 h0
 simpa using this
theorem afL (gs:List (List bI)) {i j:Nat} {g:List bI} (h:gs[i]?=some g) (hj:j≤g.length):cV gs i+j≤gs.flatten.length:=by
 have h1:=hG h
 have h2:=tP gs (i+1)
 omega
theorem KM (gs:List (List bI)) (i:Nat):List.map (fun k:Nat=>(cV gs (k+1):Int)) (List.range (i+1))=List.map (fun k:Nat=>(cV gs (k+1):Int)) (List.range i)++[(cV gs (i+1):Int)]:=by rw[List.range_succ,List.map_append];rfl
section
variable {H:HP} {n b be:Nat} {s se:Sl} {gs:List (List bI)} {ap an:Nat}
theorem Tp (h:lh H n b be s se gs ap an) (aI:List Int) (l:List a_) (hl:l.length≤1000) (j6:∀r∈l,kS r) (K:HT [(false,.one .any)]→HP→Prop) (I2:gs≠[]→K (er 10,()) H) (h1:gs=[]→aI.length≠l.length∨ph aI l=false→K (er 1,()) H)
 (h2:gs=[]→aI.length=l.length→ph aI l=true→32<l.length→K (er 2,()) H)
 (ok:gs=[]→aI.length=l.length→ph aI l=true→l.length≤32→∀H' b be s se,lh H' n b be s se (mT aI l) 0 0→pC H H'→K (er 0,()) H'):C53 (some n) aI l H K:=Xt _ _ _ _ _ (by
 unfold A53
 refine cI _ (fun K' bW=>YB h K' bW) ?_
 dsimp only
 by_cases vY:gs=[]
 case neg=>
  refine cd (decide_eq_true vY) ?_
  rw[wH (by decide)];exact I2 vY
 refine bP (decide_eq_false (by simpa using vY)) (au fun _=>au fun _=>?_)
 by_cases hs:aI.length=l.length
 case neg=>
  refine cd (by rw[bne_iff_ne];omega) ?_
  rw[wH (by decide)];exact h1 vY (.inl hs)
 refine bP (by simp[hs]) (ai _ (afJ aI l hs) ?_)
 dsimp only
 cases hf:ph aI l with
 |false=>
  refine cd rfl ?_
  rw[wH (by decide)];exact h1 vY (.inr hf)
 |true=>
  refine bP rfl (au fun _=>?_)
  by_cases hb:32<l.length
  ·refine cd (decide_eq_true (by omega)) ?_
   rw[wH (by decide)];exact h2 vY hs hf hb
  refine bP (decide_eq_false (by omega)) (ax (aF h.bo ?_))
  obtain⟨z1,z2⟩:=h.z vY
  have I3:ap=0:=by have:=h.Z3;rw[vY] at this;simpa using this
  have han:an=0:=by have:=h.anl;rw[vY] at this;simpa[cV] using this
  subst I3 han
  refine⟨[],H.del n,.inl ⟨z1,rfl,rfl⟩,[],H.del n,.inl ⟨z2,rfl,rfl⟩,?_⟩
  refine Tm l hl (H.del n) _ fun H1 T hle hT eT=>au fun _=>?_
  dsimp only
  have gok:=LD l
  have hbl:(mT aI l).length=T.length:=by unfold mT;rw[List.length_map,←eT,List.length_map]
  have Gr:=LF aI l
  have ayt:0<l.length:=by
   unfold ph at hf
   rw[Bool.and_eq_true,decide_eq_true_eq] at hf;exact hf.1
  have hTl:T.length≤32:=by have:=gok.len;rw[←eT,List.length_map] at this;omega
  rw[List.length_map]
  refine cN T.length (fun i=>(((),aI,l,AS T,(T.length:Int),(i:Int),()),(((mT aI l).take i).flatten,List.map (fun k:Nat=>(cV (mT aI l) (k+1):Int)) (List.range i),0,0,()),())) (fun _=>True) (by simp) trivial fun i C hi _ hC=>?_
  dsimp only
  refine dR (fun h3=>?_) fun h3=>?_
  ·obtain⟨a1,a2,a3⟩:=hT.bR T[i] (List.getElem_mem h3)
   have e1:(AS T)[i]?=some T[i].2.1:=by rw[List.getElem?_map,List.getElem?_eq_getElem h3];rfl
   have e2:(FC l)[i]?=some T[i].2.2:=by rw[←eT,List.getElem?_map,List.getElem?_eq_getElem h3];rfl
   have e3:(mT aI l)[i]?=some (T[i].2.2.map (Oj aI l)):=by unfold mT;rw[List.getElem?_map,e2];rfl
   have Of:T[i].2.2∈FC l:=List.mem_of_getElem? e2
   have akn:=gok.ok T[i].2.2 Of
   have nx:=hC h3 trivial
   refine b_ rfl e1 ?_
   generalize T[i].2.1=si at a1 a2 a3⊢
   generalize T[i].2.2=g at a2 a3 e2 e3 akn⊢
   generalize T[i].1=bi at a1 a3
   rw[a2]
   have ams:=hG e3
   rw[List.length_map] at ams
   refine cN g.length (fun j=>(((),aI,l,AS T,(T.length:Int),(i:Int),si,(g.length:Int),(j:Int),()),(((mT aI l).take i).flatten++(g.take j).map (Oj aI l),List.map (fun k:Nat=>(cV (mT aI l) (k+1):Int)) (List.range i),0,0,()),())) (fun _=>True) (by simp) trivial fun j C' hj _ AT=>?_
   dsimp only
   refine dR (fun h4=>?_) fun h4=>?_
   ·have hq:=akn g[j] (List.getElem_mem h4)
    obtain⟨jj,ej,r1,r2⟩:=Rm hs hq
    have BD:=afL (mT aI l) e3 (j:=j) (by rw[List.length_map];omega)
    have hd:((mT aI l).take i).flatten.length=cV (mT aI l) i:=rfl
    refine jk (i:=j) a1 rfl (by rw[a2];exact h4) (gT a3 (List.getElem?_eq_getElem h4) (b_ ej r1 (b_ ej r2 (ai _ (Gk _ (j6 _ (List.mem_of_getElem? r2))) (bM (by rw[List.length_append,List.length_map,List.length_take];omega) ⟨rfl,?_⟩)))))
    have:=AT h4 trivial
    rw[bH h4,List.map_append,←List.append_assoc] at this
    rw[w1 (by omega)]
    exact this
   ·obtain rfl:j=g.length:=by omega
    rw[List.take_length]
    have ef:((mT aI l).take i).flatten++g.map (Oj aI l)=((mT aI l).take (i+1)).flatten:=by
     obtain⟨hk,e⟩:=List.getElem?_eq_some_iff.1 e3
     rw[bH hk,e,List.flatten_append];simp
    rw[ef]
    refine au fun _=>bM (by rw[List.length_map,List.length_range];omega) ⟨rfl,?_⟩
    rw[w1 (by omega)]
    rw[KM] at nx
    exact nx
  ·obtain rfl:i=T.length:=by omega
   rw[←hbl,List.take_length]
   have bb:mT aI l≠[]:=fun e=>by rw[e] at Gr;simp at Gr;omega
   have Ep:(mT aI l).flatten≠[]:=fun e=>by rw[e] at Gr;simp at Gr;omega
   have hen:pU (mT aI l)≠[]:=fun e=>by have:=BE (mT aI l);rw[e] at this;exact bb (List.eq_nil_of_length_eq_zero this.symm)
   refine xT Ep fun s' b' ir jl vZ=>xT hen fun se' be' U' acz atn=>?_
   have nb:n≠b':=fun e=>vZ _ jl.bR e.symm
   have nbe:n≠be':=fun e=>atn _ acz.bR e.symm
   have bbe:be'≠b':=fun e=>by rw[e,cq] at U';cases U'
   have:=ok vY hs hf (by omega) (((H1.set b' (.arr FZ 139) (s',(mT aI l).flatten)).set be' (.arr IK 3) (se',pU (mT aI l))).set n iP (s',se',((0:Nat):Int),((0:Nat):Int))) b' be' s' se' ?_ ?_
   ·exact this
   ·refine⟨cq _ _ _ _,jl.len,acz.len.trans (BE _),by rw[jl.len];exact jl.cap,fun e=>absurd e bb,fun _=>⟨jl.bR,?_,acz.bR,?_⟩,afK,by rw[Gr];omega,Nat.zero_le _,Nat.zero_le _,fun g hg x hx=>?_⟩
    ·exact(di (Ne.symm nb)).trans ((di (Ne.symm bbe)).trans (cq _ _ _ _))
    ·exact(di (Ne.symm nbe)).trans (cq _ _ _ _)
    ·unfold mT at hg
     obtain⟨g0,h0,rfl⟩:=List.mem_map.1 hg
     obtain⟨y,hy,rfl⟩:=List.mem_map.1 hx
     have hq:=gok.ok g0 h0 y hy
     exact⟨j6 _ (List.mem_of_getElem? (Eo hq)),by show(0:Nat)≤100;decide,by show(0:Nat)≤1000;decide,fun p hp=>by have hp:p∈([]:List Pr):=hp;cases hp⟩
   ·intro m o hm ho
    have m1:m≠n:=fun e=>by subst e;exact ho (h.tag.1 hm)
    have m2:(H.del n) m=some o:=by show(if m=n then none else H m)=_;rw[if_neg m1];exact hm
    have m3:H1 m=some o:=hle.get m2
    have m4:m≠b':=fun e=>by subst e;rw[ir] at m3;cases m3
    have m5:m≠be':=fun e=>by subst e;rw[di bbe] at U';rw[U'] at m3;cases m3
    rw[di m1,di m5,di m4];exact m3)
end
open Go Go.Gp Go.Ga
set_option maxRecDepth 100000
set_option maxHeartbeats 0
def cT:TypeId→Option AK
 |133=>some (kR)
 |92=>some (eo)
 |_=>none
def cU:FuncId→Option oW
 |33=>some ⟨P33,R33,2⟩
 |34=>some ⟨P34,ZF,2⟩
 |35=>some ⟨QX,M_,0⟩
 |36=>some ⟨QY,F2,0⟩
 |37=>some ⟨VT,IS,0⟩
 |55=>some ⟨P55,Q0,1⟩
 |56=>some ⟨Lp,zd,1⟩
 |58=>some ⟨ZI,Q2,0⟩
 |59=>some ⟨IU,uP,0⟩
 |79=>some ⟨P79,V9,1⟩
 |80=>some ⟨P80,Q3,1⟩
 |82=>some ⟨V_,IV,0⟩
 |93=>some ⟨P93,Q4,0⟩
 |95=>some ⟨Q5,F4,0⟩
 |104=>some ⟨JK,wT,0⟩
 |111=>some ⟨JL,wU,0⟩
 |112=>some ⟨UL,JM,2⟩
 |113=>some ⟨Nw,Bl,2⟩
 |117=>some ⟨UM,JO,2⟩
 |_=>none
theorem bZ:Tryz.prog.follows .mixedOrders=true:=by kernel_rfl
def A33 (H:HP) (K:HT R33→HP→Prop):Prop:=
 pd kR ([],[],[]) H fun i1 H2=>K (some i1,()) H2
theorem WZ (H K) (h:A33 H K):C33 H K:=
 aa bZ Tryz.func33 (Eq.mp (by kernel_rfl:A33 H K=bq ⟨Tryz.prog,cU,cT,[],ch⟩ ⟨[],[]⟩ (.seq .n (.seq .n (.gh [.cls 2 kR] .n))) Tryz.f33 P33 (()) R33 H K) h)
def NZ (a0:pz) (H:HP) (K:HT uP→HP→Prop):Prop:=
 Q82 a0.2.2.2.1 fun(l1:T82)=>aP a0.2.1.length fun n2=>a9 (V:=(Unit×Unit×Unit×(List aq)×Int×Int×Unit)×(Bool×(List aq)×List (List UInt8)×List Int×Int×Unit)×(Bool×Unit×Unit×Unit×Int×Unit)×(Bool×(List aq)×List (List UInt8)×List Int×Int×Unit)×Unit) (((),(),(),a0.2.1,n2,0,()),(a0.1,a0.2.1,a0.2.2.1,a0.2.2.2.1,a0.2.2.2.2,()),(false,(),(),(),0,()),(a0.1,[],[],l1.1,a0.2.2.2.2,()),()) H fun x3 H4 B5=>af (decide (x3.1.2.2.2.2.2.1<x3.1.2.2.2.2.1)) (bT x3.1.2.2.2.1 x3.1.2.2.2.2.2.1 fun(l6:aq)=>oI l6.1 fun(l7:od)=>oI l6.2 fun(l8:od)=>cR x3.2.2.2.1.2.1.length 1 48 (B5 (((),(),(),x3.1.2.2.2.1,x3.1.2.2.2.2.1,IntKind.i64.wrap (x3.1.2.2.2.2.2.1+1),()),(x3.2.1.1,x3.2.1.2.1,x3.2.1.2.2.1,x3.2.1.2.2.2.1,x3.2.1.2.2.2.2.1,()),(x3.2.2.1.1,(),(),(),x3.2.2.1.2.2.2.2.1,()),(x3.2.2.2.1.1,x3.2.2.2.1.2.1++[(l7.1,l8.1)],x3.2.2.2.1.2.2.1,x3.2.2.2.1.2.2.2.1,x3.2.2.2.1.2.2.2.2.1,()),()) H4)) (aP x3.2.1.2.2.1.length fun n9=>a9 (V:=(Unit×Unit×List (List UInt8)×Int×Int×Unit)×(Bool×Unit×Unit×Unit×Int×Unit)×(Bool×(List aq)×List (List UInt8)×List Int×Int×Unit)×Unit) (((),(),x3.2.1.2.2.1,n9,0,()),(x3.2.2.1.1,(),(),(),x3.2.2.1.2.2.2.2.1,()),(x3.2.2.2.1.1,x3.2.2.2.1.2.1,x3.2.2.2.1.2.2.1,x3.2.2.2.1.2.2.2.1,x3.2.2.2.1.2.2.2.2.1,()),()) H4 fun bp oX Q8=>af (decide (bp.1.2.2.2.2.1<bp.1.2.2.2.1)) (bT bp.1.2.2.1 bp.1.2.2.2.2.1 fun(l13:List UInt8)=>oI l13 fun(Wb:od)=>cR bp.2.2.1.2.2.1.length 1 24 (Q8 (((),(),bp.1.2.2.1,bp.1.2.2.2.1,IntKind.i64.wrap (bp.1.2.2.2.2.1+1),()),(bp.2.1.1,(),(),(),bp.2.1.2.2.2.2.1,()),(bp.2.2.1.1,bp.2.2.1.2.1,bp.2.2.1.2.2.1++[Wb.1],bp.2.2.1.2.2.2.1,bp.2.2.1.2.2.2.2.1,()),()) oX)) (K ((bp.2.2.1.1,bp.2.2.1.2.1,bp.2.2.1.2.2.1,bp.2.2.1.2.2.2.1,bp.2.2.1.2.2.2.2.1),()) oX))
theorem wX (a0 H K) (h:NZ a0 H K):C59 a0 H K:=
 aa bZ Tryz.func59 (Eq.mp (by kernel_rfl:NZ a0 H K=bq ⟨Tryz.prog,cU,cT,[],ch⟩ ⟨[(7,.row .byte),(11,.row (.one (.int .i64))),(12,.row (.one (.int .i64))),(17,.row aj),(24,.row aj),(26,.row .byte),(27,.row .byte),(29,.row .byte),(30,.row .byte),(32,.row aj),(33,.own aj 56),(37,.row (.row .byte)),(42,.row .byte),(44,.row (.row .byte)),(45,.row .byte),(46,.row .byte),(47,.row (.row .byte)),(48,.own (.row .byte) 22)],[((3,1),.own aj 56),((3,2),.own (.row .byte) 22)]⟩ (.seq .n (.seq (.ord 9444732965739290427392) (.seq (.seq .n (.aC (.loop [1,2,3,17,18,19] [1,2,3] (.seq .n (.seq (.cond .n .n) (.seq (.aC (.seq .n (.ord 75557863725914323419136))) .n)))))) (.seq (.seq .n (.aC (.loop [2,3,37,38,39] [2,3] (.seq .n (.seq (.cond .n .n) (.seq (.aC (.seq .n (.ord 2361183241434822606848))) .n)))))) (.seq .n .n))))) Tryz.f59 IU (a0,()) uP H K) h)
theorem Q9 (a0) {r} (h:∀H K,K r H→NZ a0 H K):S59 a0 r:=fun H K hk=>wX a0 H K (h H K hk)
def A80 (a0:Option Nat) (a1:Int) (H:HP) (K:HT Q3→HP→Prop):Prop:=
 ao a0 fun i1=>aJ kR i1 H fun(x2:ZC)=>af (decide (a1≥0)) (aP x2.1.length fun n3=>af (decide (a1<n3)) (cS a1 x2.2.1.length fun i4=>gN x2.2.1 i4 fun(b5:Bool)=>K (b5,()) ((H.del i1).set i1 kR (x2.1,x2.2.1,x2.2.2))) (K (false,()) ((H.del i1).set i1 kR (x2.1,x2.2.1,x2.2.2)))) (K (false,()) ((H.del i1).set i1 kR (x2.1,x2.2.1,x2.2.2)))
theorem W3 (a0 a1 H K) (h:A80 a0 a1 H K):C80 a0 a1 H K:=
 aa bZ Tryz.func80 (Eq.mp (by kernel_rfl:A80 a0 a1 H K=bq ⟨Tryz.prog,cU,cT,[],ch⟩ ⟨[(12,.row Lo),(20,.row (.one .bool))],[]⟩ (.seq .n (.seq (.gh [.ze 0 kR] .n) (.gh [.cls 0 kR] .n))) Tryz.f80 P80 (a0,a1,()) Q3 H K) h)
def Wc (a0:Option Nat) (a1:Int) (H:HP) (K:HT zd→HP→Prop):Prop:=
 Z80 a0 a1 H fun(x1:T80)=>af (! x1.1) (K ((false,[],[],[],0),false,()) H) (ao a0 fun i2=>aJ kR i2 H fun(x3:ZC)=>cS a1 x3.1.length fun i4=>gN x3.1 i4 fun(x5:pz)=>Q59 (x5.1,x5.2.1,x5.2.2.1,x5.2.2.2.1,x5.2.2.2.2) fun(x6:T59)=>K ((x6.1.1,x6.1.2.1,x6.1.2.2.1,x6.1.2.2.2.1,x6.1.2.2.2.2),true,()) ((H.del i2).set i2 kR (x3.1,x3.2.1,x3.2.2)))
theorem DG (a0 a1 H K) (h:Wc a0 a1 H K):V1 a0 a1 H K:=
 aa bZ Tryz.func56 (Eq.mp (by kernel_rfl:Wc a0 a1 H K=bq ⟨Tryz.prog,cU,cT,[],ch⟩ ⟨[(14,.row Lo)],[]⟩ (.seq .n (.seq (.seq .n (.cond (.seq .n .n) .n)) (.seq (.gh [.ze 0 kR] .n) (.gh [.cls 0 kR] .n)))) Tryz.f56 Lp (a0,a1,()) zd H K) h)
def abX (a0:Option Nat) (a1:Int) (a2:pz) (H:HP) (K:HT JO→HP→Prop):Prop:=
 Z80 a0 a1 H fun(x1:T80)=>af (! x1.1) (K (.iface 62 (.int .i64 3),()) H) (ao a0 fun i2=>aJ kR i2 H fun(x3:ZC)=>Q59 (a2.1,a2.2.1,a2.2.2.1,a2.2.2.2.1,a2.2.2.2.2) fun(x4:T59)=>cS a1 x3.1.length fun i5=>gN x3.1 i5 fun(x6:pz)=>K (.nilIface,()) ((H.del i2).set i2 kR (List.set x3.1 i5 (x4.1.1,x4.1.2.1,x4.1.2.2.1,x4.1.2.2.2.1,x4.1.2.2.2.2),x3.2.1,x3.2.2)))
theorem SC (a0 a1 a2 H K) (h:abX a0 a1 a2 H K):Bm a0 a1 a2 H K:=
 aa bZ Tryz.func117 (Eq.mp (by kernel_rfl:abX a0 a1 a2 H K=bq ⟨Tryz.prog,cU,cT,[],ch⟩ ⟨[(6,.one .any),(11,.one .any),(15,.row Lo)],[]⟩ (.seq .n (.seq (.seq .n (.cond (.seq .n .n) .n)) (.seq (.gh [.ze 0 kR] (.ord 0)) (.seq .n (.gh [.cls 0 kR] .n))))) Tryz.f117 UM (a0,a1,a2,()) JO H K) h)
def A34 (a0:Option Nat) (a1:pz) (H:HP) (K:HT ZF→HP→Prop):Prop:=
 ao a0 fun i1=>aJ kR i1 H fun(x2:ZC)=>aP x2.2.2.length fun n3=>af (decide ((IntKind.i64.wrap (n3 - 1))≥0)) (cS (IntKind.i64.wrap (n3 - 1)) x2.2.2.length fun i4=>gN x2.2.2 i4 fun n5=>fe x2.2.2.length 0 (IntKind.i64.wrap (n3 - 1)) fun i6 i7=>((0:Int)=0)∧(Q59 (a1.1,a1.2.1,a1.2.2.1,a1.2.2.2.1,a1.2.2.2.2) fun(x8:T59)=>cS n5 x2.1.length fun i9=>gN x2.1 i9 fun(bp:pz)=>cS n5 x2.2.1.length fun i11=>gN x2.2.1 i11 fun(b12:Bool)=>K (n5,()) ((H.del i1).set i1 kR (List.set x2.1 i9 (x8.1.1,x8.1.2.1,x8.1.2.2.1,x8.1.2.2.2.1,x8.1.2.2.2.2),List.set x2.2.1 i11 true,List.take i7 x2.2.2)))) (Q59 (a1.1,a1.2.1,a1.2.2.1,a1.2.2.2.1,a1.2.2.2.2) fun(fG:T59)=>cR x2.1.length 1 88 (cR x2.2.1.length 1 1 (aP ((x2.1++[(fG.1.1,fG.1.2.1,fG.1.2.2.1,fG.1.2.2.2.1,fG.1.2.2.2.2)]).length) fun Wd=>K (IntKind.i64.wrap (Wd - 1),()) ((H.del i1).set i1 kR (x2.1++[(fG.1.1,fG.1.2.1,fG.1.2.2.1,fG.1.2.2.2.1,fG.1.2.2.2.2)],x2.2.1++[true],x2.2.2)))))
theorem Ls (a0 a1 H K) (h:A34 a0 a1 H K):M9 a0 a1 H K:=
 aa bZ Tryz.func34 (Eq.mp (by kernel_rfl:A34 a0 a1 H K=bq ⟨Tryz.prog,cU,cT,[28],ch⟩ ⟨[(10,.row (.one (.int .i64))),(18,.row (.one (.int .i64))),(26,.row (.one (.int .i64))),(28,.row (.one (.int .i64))),(34,.row Lo),(39,.row (.one .bool)),(51,.row Lo),(54,.row Lo),(55,.own Lo 90),(59,.row (.one .bool)),(60,.row (.one .bool)),(61,.own (.one .bool) 4),(69,.row Lo)],[]⟩ (.seq .n (.seq (.seq (.gh [.ze 0 kR] .n) (.seq .n (.cond (.seq .n (.seq .n (.seq (.ord 0) (.seq .n (.gh [.cls 0 kR] .n))))) .n))) (.seq (.ord 0) (.seq .n (.gh [.cls 0 kR] .n))))) Tryz.f34 P34 (a0,a1,()) ZF H K) h)
def abY (a0:Option Nat) (a1:Int) (H:HP) (K:HT NC→HP→Prop):Prop:=
 Z80 a0 a1 H fun(x1:T80)=>af (! x1.1) (K (.iface 62 (.int .i64 3),()) H) (ao a0 fun i2=>aJ kR i2 H fun(x3:ZC)=>cS a1 x3.1.length fun i4=>gN x3.1 i4 fun(x5:pz)=>cS a1 x3.2.1.length fun i6=>gN x3.2.1 i6 fun(b7:Bool)=>cR x3.2.2.length 1 8 (K (.nilIface,()) ((H.del i2).set i2 kR (List.set x3.1 i4 (false,[],[],[],0),List.set x3.2.1 i6 false,x3.2.2++[a1]))))
theorem SD (a0 a1 H K) (h:abY a0 a1 H K):ND a0 a1 H K:=
 aa bZ Tryz.func120 (Eq.mp (by kernel_rfl:abY a0 a1 H K=bq ⟨Tryz.prog,cU,cT,[],ch⟩ ⟨[(4,.one .any),(9,.one .any),(13,.row Lo),(18,.row (.one .bool)),(27,.row (.one (.int .i64))),(29,.row (.one (.int .i64))),(30,.own (.one (.int .i64)) 3)],[]⟩ (.seq .n (.seq (.seq .n (.cond (.seq .n .n) .n)) (.seq (.gh [.ze 0 kR] (.ord 0)) (.seq .n (.seq .n (.gh [.cls 0 kR] .n)))))) Tryz.f120 aby (a0,a1,()) NC H K) h)
def A17 (a0:Int) (H:HP) (K:HT R17→HP→Prop):Prop:=
 af (decide (a0<3)) (K (none,.iface 62 (.int .i64 1),()) H) (af (decide (a0>16)) (K (none,.iface 62 (.int .i64 1),()) H) (C33 H fun(x1:T33) H2=>M9 x1.1 (true,[],[],[],(-1)) H2 fun(x3:ZD) H4=>pd eo (x1.1,x3.1,a0,0) H4 fun i5 H6=>K (some i5,.nilIface,()) H6))
theorem W4 (a0 H K) (h:A17 a0 H K):C17 a0 H K:=
 aa bZ Tryz.func17 (Eq.mp (by kernel_rfl:A17 a0 H K=bq ⟨Tryz.prog,cU,cT,[],ch⟩ ⟨[(3,.one .any),(11,.one .any)],[]⟩ (.seq .n (.seq (.seq .n (.cond (.seq .n .n) .n)) (.seq .n (.seq .n (.gh [.cls 19 eo] .n))))) Tryz.f17 P17 (a0,()) R17 H K) h)
def A93 (a0:pz) (a1:List UInt8) (H:HP) (K:HT Q4→HP→Prop):Prop:=
 aiV a0.2.2.1 a1 fun(x1:ahY)=>bE (V:=(Int×Unit)×Unit) (fun x2 H3=>K (x2.1.1,()) H3) fun B4=>af x1.2.1 (B4 ((IntKind.i64.wrap (x1.1+1),()),()) H) (B4 ((x1.1,()),()) H)
theorem W5 (a0 a1 H K) (h:A93 a0 a1 H K):C93 a0 a1 H K:=
 aa bZ Tryz.func93 (Eq.mp (by kernel_rfl:A93 a0 a1 H K=bq ⟨Tryz.prog,cU,cT,[],ch⟩ ⟨[(1,.row .byte),(9,.row (.row .byte)),(10,.row .byte)],[]⟩ (.seq .n (.seq .n (.join [(5,.v (.one (.int .i64)))] [] (.seq .n (.cond .n .n)) (.seq .n .n)))) Tryz.f93 P93 (a0,a1,()) Q4 H K) h)
theorem aeC (a0 a1) {r} (h:∀H K,K r H→A93 a0 a1 H K):S93 a0 a1 r:=fun H K hk=>W5 a0 a1 H K (h H K hk)
def A79 (a0:Option Nat) (a1:List UInt8) (H:HP) (K:HT V9→HP→Prop):Prop:=
 ao a0 fun i1=>aJ eo i1 H fun(x2:gu)=>a9 (V:=(Option Nat×List UInt8×List Int×Unit)×Unit) ((a0,a1,[x2.2.1],()),()) H fun x3 H4 B5=>ao x3.1.1 fun i6=>aJ eo i6 H4 fun(x7:gu)=>aP x3.1.2.2.1.length fun n8=>cS (IntKind.i64.wrap (n8 - 1)) x3.1.2.2.1.length fun i9=>gN x3.1.2.2.1 i9 fun xN=>Q1 x7.1 xN H4 fun(br:VN)=>af (! br.2.1) (K (x3.1.2.2.1,()) H4) (af br.1.1 (K (x3.1.2.2.1,()) H4) (ck Tryz.prog 93 [(true,.cons (.one .bool) (.cons (.bQ aj) (.cons (.bQ (.row .byte)) (.cons (.bQ (.one (.int .i64))) (.one (.int .i64)))))),(false,.row .byte)] ((br.1.1,br.1.2.1,br.1.2.2.1,br.1.2.2.2.1,br.1.2.2.2.2),x3.1.2.1,()) [(false,.one (.int .i64))] fun(bL:Int×Unit)=>bT br.1.2.2.2.1 bL.1 fun vT=>cR x3.1.2.2.1.length 1 8 (B5 ((x3.1.1,x3.1.2.1,x3.1.2.2.1++[vT],()),()) H4)))
theorem W6 (a0 a1 H K) (h:A79 a0 a1 H K):C79 a0 a1 H K:=
 aa bZ Tryz.func79 (Eq.mp (by kernel_rfl:A79 a0 a1 H K=bq ⟨Tryz.prog,cU,cT,[12],ch⟩ ⟨[(1,.row .byte),(4,.own (.one (.int .i64)) 3),(5,.own (.one (.int .i64)) 3),(12,.row (.one (.int .i64))),(18,.own (.one (.int .i64)) 3),(19,.own (.one (.int .i64)) 3),(33,.own (.one (.int .i64)) 3),(34,.own (.one (.int .i64)) 3),(36,.row (.one (.int .i64))),(38,.row .byte),(42,.row (.one (.int .i64))),(43,.own (.one (.int .i64)) 3)],[]⟩ (.seq .n (.seq .n (.aC (.loop [0,1,5] [] (.aC (.seq (.ord 604462909807314587353088) (.seq (.seq .n (.cond (.seq .n .n) .n)) (.ord 0)))))))) Tryz.f79 P79 (a0,a1,()) V9 H K) h)
def A55 (a0:Option Nat) (a1:List UInt8) (H:HP) (K:HT Q0→HP→Prop):Prop:=
 Z79 a0 a1 H fun(l1:T79)=>aP l1.1.length fun n2=>bT l1.1 (IntKind.i64.wrap (n2 - 1)) fun n3=>K (n3,()) H
theorem W7 (a0 a1 H K) (h:A55 a0 a1 H K):C55 a0 a1 H K:=
 aa bZ Tryz.func55 (Eq.mp (by kernel_rfl:A55 a0 a1 H K=bq ⟨Tryz.prog,cU,cT,[],ch⟩ ⟨[(1,.row .byte),(5,.row (.one (.int .i64))),(7,.row .byte),(8,.row (.one (.int .i64))),(9,.row (.one (.int .i64))),(10,.row (.one (.int .i64)))],[]⟩ (.seq .n (.seq .n (.seq .n .n))) Tryz.f55 P55 (a0,a1,()) Q0 H K) h)
def A85 (a0:Option Nat) (a1:List UInt8) (H:HP) (K:HT Wa→HP→Prop):Prop:=
 ao a0 fun i1=>aJ eo i1 H fun(x2:gu)=>Z55 a0 a1 H fun(x3:T55)=>Q1 x2.1 x3.1 H fun(x4:VN)=>Q95 x4.1.2.1 a1 fun(x5:T95)=>af (! x5.2.1) (K ([],false,()) H) (bT x4.1.2.1 x5.1 fun(l6:aq)=>K (l6.2,true,()) H)
theorem W8 (a0 a1 H K) (h:A85 a0 a1 H K):C85 a0 a1 H K:=
 aa bZ Tryz.func85 (Eq.mp (by kernel_rfl:A85 a0 a1 H K=bq ⟨Tryz.prog,cU,cT,[],ch⟩ ⟨[(1,.row .byte),(4,.row .byte),(16,.row .byte),(23,.row aj),(24,.row .byte),(31,.row aj),(35,.row .byte)],[]⟩ (.seq .n (.seq (.ord 75557863725914323419136) (.seq .n (.seq (.seq .n (.cond (.seq .n .n) .n)) (.seq .n .n))))) Tryz.f85 P85 (a0,a1,()) Wa H K) h)
def A28 (a0:Option Nat) (H:HP) (K:HT VS→HP→Prop):Prop:=
 Z55 a0 [] H fun(x1:T55)=>a9 (V:=(Option Nat×(List aq)×Int×Unit)×Unit) ((a0,[],x1.1,()),()) H fun x2 H3 B4=>af ((x2.1.2.2.1:Int)!=(-1)) (ao x2.1.1 fun i5=>aJ eo i5 H3 fun(x6:gu)=>Q1 x6.1 x2.1.2.2.1 H3 fun(x7:VN)=>af (! x7.2.1) (K (x2.1.2.1,()) H3) (cR x2.1.2.1.length x7.1.2.1.length 48 (B4 ((x2.1.1,x2.1.2.1++x7.1.2.1,x7.1.2.2.2.2,()),()) H3))) (K (x2.1.2.1,()) H3)
theorem W9 (a0 H K) (h:A28 a0 H K):C28 a0 H K:=
 aa bZ Tryz.func28 (Eq.mp (by kernel_rfl:A28 a0 H K=bq ⟨Tryz.prog,cU,cT,[],ch⟩ ⟨[(2,.own aj 56),(3,.own aj 56),(22,.own aj 56),(23,.own aj 56),(25,.row aj),(26,.own aj 56),(29,.own aj 56)],[]⟩ (.seq .n (.seq .n (.seq (.seq .n (.aC (.loop [0,3,4] [] (.seq (.seq .n (.cond .n .n)) (.aC (.seq .n (.seq (.seq .n (.cond (.seq .n .n) .n)) (.ord 0)))))))) (.seq .n .n)))) Tryz.f28 P28 (a0,()) VS H K) h)
def abZ (a0:Option Nat) (a1:Int) (a2:pz) (H:HP) (K:HT JM→HP→Prop):Prop:=
 ao a0 fun i1=>aJ eo i1 H fun(x2:gu)=>Bm x2.1 a1 (a2.1,a2.2.1,a2.2.2.1,a2.2.2.2.1,a2.2.2.2.2) H fun(x3:MX) H4=>((cB x3.1:Bool)=true)∧(af (! (bj x3.1)) (False) (K () H4))
theorem SE (a0 a1 a2 H K) (h:abZ a0 a1 a2 H K):z0 a0 a1 a2 H K:=
 aa bZ Tryz.func112 (Eq.mp (by kernel_rfl:abZ a0 a1 a2 H K=bq ⟨Tryz.prog,cU,cT,[],ch⟩ ⟨[(6,.one .any),(13,.one .any),(14,.one .any),(16,.one .any)],[]⟩ (.seq .n (.seq (.ord 0) (.seq .n (.cond .n .n)))) Tryz.f112 UL (a0,a1,a2,()) JM H K) h)
def N0 (a0:Option Nat) (a1:Int) (H:HP) (K:HT NL→HP→Prop):Prop:=
 ao a0 fun i1=>aJ eo i1 H fun(x2:gu)=>Q1 x2.1 a1 H fun(x3:VN)=>ao a0 fun i4=>aJ eo i4 H fun(x5:gu)=>((2:Int)≠0)∧(af x3.1.1 (aP x3.1.2.1.length fun n6=>ao a0 fun i7=>aJ eo i7 H fun(x8:gu)=>af (decide (n6>x8.2.2.1)) (fe x3.1.2.1.length (IntKind.i64.wrap (Int.tdiv (IntKind.i64.wrap (x5.2.2.1+1)) 2)) ((x3.1.2.1.length:Nat):Int) fun i9 i10=>ao a0 fun i11=>aJ eo i11 H fun(bL:gu)=>M9 bL.1 (true,sub x3.1.2.1 i9 i10,[],[],x3.1.2.2.2.2) H fun(fG:ZD) F5=>fe x3.1.2.1.length 0 (IntKind.i64.wrap (Int.tdiv (IntKind.i64.wrap (x5.2.2.1+1)) 2)) fun i15 i16=>z0 a0 a1 (x3.1.1,sub x3.1.2.1 i15 i16,x3.1.2.2.1,x3.1.2.2.2.1,fG.1) F5 fun(gO:Fl) IW=>bT (sub x3.1.2.1 i9 i10) 0 fun(l19:aq)=>K (l19.1,fG.1,true,()) IW) (af (! x3.1.1) (aP x3.1.2.2.1.length fun n20=>ao a0 fun i21=>aJ eo i21 H fun(kK:gu)=>af (decide (n20>kK.2.2.1)) (bT x3.1.2.2.1 (IntKind.i64.wrap (Int.tdiv (IntKind.i64.wrap (x5.2.2.1+1)) 2)) fun(l23:List UInt8)=>ao a0 fun i24=>aJ eo i24 H fun(gS:gu)=>fe x3.1.2.2.1.length (IntKind.i64.wrap ((IntKind.i64.wrap (Int.tdiv (IntKind.i64.wrap (x5.2.2.1+1)) 2))+1)) ((x3.1.2.2.1.length:Nat):Int) fun i26 i27=>fe x3.1.2.2.2.1.length (IntKind.i64.wrap ((IntKind.i64.wrap (Int.tdiv (IntKind.i64.wrap (x5.2.2.1+1)) 2))+1)) ((x3.1.2.2.2.1.length:Nat):Int) fun i28 i29=>M9 gS.1 (false,[],sub x3.1.2.2.1 i26 i27,sub x3.1.2.2.2.1 i28 i29,0) H fun(xO:ZD) H31=>fe x3.1.2.2.1.length 0 (IntKind.i64.wrap (Int.tdiv (IntKind.i64.wrap (x5.2.2.1+1)) 2)) fun i32 i33=>fe x3.1.2.2.2.1.length 0 (IntKind.i64.wrap ((IntKind.i64.wrap (Int.tdiv (IntKind.i64.wrap (x5.2.2.1+1)) 2))+1)) fun i34 i35=>z0 a0 a1 (x3.1.1,x3.1.2.1,sub x3.1.2.2.1 i32 i33,sub x3.1.2.2.2.1 i34 i35,x3.1.2.2.2.2) H31 fun(mO:Fl) F6=>K (l23,xO.1,true,()) F6) (K ([],0,false,()) H)) (K ([],0,false,()) H))) (af (! x3.1.1) (aP x3.1.2.2.1.length fun n38=>ao a0 fun i39=>aJ eo i39 H fun(oY:gu)=>af (decide (n38>oY.2.2.1)) (bT x3.1.2.2.1 (IntKind.i64.wrap (Int.tdiv (IntKind.i64.wrap (x5.2.2.1+1)) 2)) fun(l41:List UInt8)=>ao a0 fun i42=>aJ eo i42 H fun(IX:gu)=>fe x3.1.2.2.1.length (IntKind.i64.wrap ((IntKind.i64.wrap (Int.tdiv (IntKind.i64.wrap (x5.2.2.1+1)) 2))+1)) ((x3.1.2.2.1.length:Nat):Int) fun i44 i45=>fe x3.1.2.2.2.1.length (IntKind.i64.wrap ((IntKind.i64.wrap (Int.tdiv (IntKind.i64.wrap (x5.2.2.1+1)) 2))+1)) ((x3.1.2.2.2.1.length:Nat):Int) fun i46 i47=>M9 IX.1 (false,[],sub x3.1.2.2.1 i44 i45,sub x3.1.2.2.2.1 i46 i47,0) H fun(ZL:ZD) H49=>fe x3.1.2.2.1.length 0 (IntKind.i64.wrap (Int.tdiv (IntKind.i64.wrap (x5.2.2.1+1)) 2)) fun i50 i51=>fe x3.1.2.2.2.1.length 0 (IntKind.i64.wrap ((IntKind.i64.wrap (Int.tdiv (IntKind.i64.wrap (x5.2.2.1+1)) 2))+1)) fun i52 i53=>z0 a0 a1 (x3.1.1,x3.1.2.1,sub x3.1.2.2.1 i50 i51,sub x3.1.2.2.2.1 i52 i53,x3.1.2.2.2.2) H49 fun(iQ:Fl) H55=>K (l41,ZL.1,true,()) H55) (K ([],0,false,()) H)) (K ([],0,false,()) H)))
theorem yo (a0 a1 H K) (h:N0 a0 a1 H K):JQ a0 a1 H K:=
 aa bZ Tryz.func129 (Eq.mp (by kernel_rfl:N0 a0 a1 H K=bq ⟨Tryz.prog,cU,cT,[],ch⟩ ⟨[(4,.row .byte),(12,.row .byte),(34,.row aj),(43,.row aj),(45,.row aj),(56,.row aj),(58,.row aj),(67,.row aj),(70,.row .byte),(78,.row (.row .byte)),(87,.row (.row .byte)),(90,.row .byte),(96,.row (.row .byte)),(99,.row (.row .byte)),(101,.row (.one (.int .i64))),(104,.row (.one (.int .i64))),(108,.row (.row .byte)),(110,.row (.row .byte)),(112,.row (.one (.int .i64))),(115,.row (.one (.int .i64))),(122,.row .byte)],[]⟩ (.seq .n (.seq .n (.seq .n (.seq (.aC (.seq (.ord 0) (.cond (.seq (.ord 4722366482869645213696) (.seq (.ord 0) (.seq .n (.seq .n (.seq .n .n))))) (.seq (.ord 0) (.cond (.seq .n (.seq (.ord 0) (.seq (.ord 94447329657392904273920) (.seq .n (.seq .n .n))))) .n))))) (.seq .n .n))))) Tryz.f129 abH (a0,a1,()) NL H K) h)
def A98 (a0:Option Nat) (a1:List UInt8) (a2:List UInt8) (H:HP) (K:HT R98→HP→Prop):Prop:=
 Q37 a1 fun(x1:T37)=>af (! x1.1) (K (false,.iface 62 (.int .i64 1),()) H) (Q36 a2 fun(x2:T36)=>af (! x2.1) (K (false,.iface 62 (.int .i64 1),()) H) (Z79 a0 a1 H fun(l3:T79)=>aP l3.1.length fun n4=>bT l3.1 (IntKind.i64.wrap (n4 - 1)) fun n5=>ao a0 fun i6=>aJ eo i6 H fun(x7:gu)=>Q1 x7.1 n5 H fun(x8:VN)=>abt x8.1.2.1 a1 a2 fun(x9:abd)=>((cB x9.2.2.1:Bool)=true)∧(af (! (bj x9.2.2.1)) (K (false,x9.2.2.1,()) H) (af x9.2.1 (ao a0 fun i10=>aJ eo i10 H fun(br:gu)=>af (decide (br.2.2.2≥1000)) (K (false,.iface 62 (.int .i64 5),()) H) (z0 a0 n5 (x8.1.1,x9.1,x8.1.2.2.1,x8.1.2.2.2.1,x8.1.2.2.2.2) H fun(bL:Fl) pA=>bE (V:=(Bool×Unit)×Unit) (fun l_ H15=>K (l_.1.1,.nilIface,()) H15) fun We=>af x9.2.1 (ao a0 fun i17=>aJ eo i17 pA fun(d_:gu)=>ao a0 fun i19=>aJ eo i19 pA fun(dU:gu)=>Ny a0 l3.1 (pA.set i19 eo (dU.1,dU.2.1,dU.2.2.1,IntKind.i64.wrap (d_.2.2.2+1))) fun(oZ:aia) Wf=>We ((x9.2.1,()),()) Wf) (We ((x9.2.1,()),()) pA))) (z0 a0 n5 (x8.1.1,x9.1,x8.1.2.2.1,x8.1.2.2.2.1,x8.1.2.2.2.2) H fun(gw:Fl) Ek=>bE (V:=(Bool×Unit)×Unit) (fun gS ZM=>K (gS.1.1,.nilIface,()) ZM) fun B27=>af x9.2.1 (ao a0 fun i28=>aJ eo i28 Ek fun(rl:gu)=>ao a0 fun i30=>aJ eo i30 Ek fun(Bp:gu)=>Ny a0 l3.1 (Ek.set i30 eo (Bp.1,Bp.2.1,Bp.2.2.1,IntKind.i64.wrap (rl.2.2.2+1))) fun(N1:aia) Wg=>B27 ((x9.2.1,()),()) Wg) (B27 ((x9.2.1,()),()) Ek))))))
theorem W_ (a0 a1 a2 H K) (h:A98 a0 a1 a2 H K):C98 a0 a1 a2 H K:=
 aa bZ Tryz.func98 (Eq.mp (by kernel_rfl:A98 a0 a1 a2 H K=bq ⟨Tryz.prog,cU,cT,[],ch⟩ ⟨[(1,.row .byte),(2,.row .byte),(7,.one .any),(8,.row (.one (.int .i64))),(12,.row aj),(14,.one .any),(15,.row .byte),(19,.row .byte),(23,.one .any),(25,.row .byte),(26,.row (.one (.int .i64))),(27,.row (.one (.int .i64))),(28,.row (.one (.int .i64))),(44,.row aj),(45,.row .byte),(46,.row .byte),(48,.row aj),(50,.one .any),(52,.one .any),(54,.one .any),(64,.one .any),(65,.row aj),(80,.row (.one (.int .i64)))],[]⟩ (.seq .n (.seq (.seq .n (.cond (.seq .n .n) .n)) (.seq .n (.seq .n (.seq .n (.seq .n (.seq (.aC (.seq .n (.cond (.seq .n .n) (.seq .n (.cond (.seq .n .n) .n))))) (.seq .n (.seq .n (.join [(13,.v (.one .bool))] [] (.seq .n (.cond (.seq .n .n) .n)) (.seq .n .n))))))))))) Tryz.f98 P98 (a0,a1,a2,()) R98 H K) h)
def SK:TypeId→Option AK
 |133=>some (kR)
 |92=>some (eo)
 |_=>none
def SL:FuncId→Option oW
 |58=>some ⟨ZI,Q2,0⟩
 |_=>none
theorem KJ:Tryz.prog.follows .mixedOrders=true:=by kernel_rfl
def UT (a0:List (List UInt8)) (a1:List UInt8) (H:HP) (K:HT wT→HP→Prop):Prop:=
 aP a0.length fun n1=>a9 (V:=(List (List UInt8)×List UInt8×Unit×Int×Int×Int×Unit)×Unit) ((a0,a1,(),n1,0,n1,()),()) H fun x2 H3 B4=>af (decide (x2.1.2.2.2.2.1<x2.1.2.2.2.2.2.1)) ((((0:Int)≤1))∧(bT x2.1.1 (IntKind.i64.wrap (gA .u64 (IntKind.u64.wrap (IntKind.i64.wrap (x2.1.2.2.2.2.1+x2.1.2.2.2.2.2.1))) 1)) fun(l5:List UInt8)=>C58 l5 x2.1.2.1 H3 fun(x6:T58) H7=>af (decide (x6.1<0)) (B4 ((x2.1.1,x2.1.2.1,(),x2.1.2.2.2.1,IntKind.i64.wrap ((IntKind.i64.wrap (gA .u64 (IntKind.u64.wrap (IntKind.i64.wrap (x2.1.2.2.2.2.1+x2.1.2.2.2.2.2.1))) 1))+1),x2.1.2.2.2.2.2.1,()),()) H7) (B4 ((x2.1.1,x2.1.2.1,(),x2.1.2.2.2.1,x2.1.2.2.2.2.1,IntKind.i64.wrap (gA .u64 (IntKind.u64.wrap (IntKind.i64.wrap (x2.1.2.2.2.2.1+x2.1.2.2.2.2.2.1))) 1),()),()) H7))) (af (decide (x2.1.2.2.2.2.1<x2.1.2.2.2.1)) (bT x2.1.1 x2.1.2.2.2.2.1 fun(l8:List UInt8)=>C58 l8 x2.1.2.1 H3 fun(x9:T58) sN=>K (x2.1.2.2.2.2.1,(x9.1:Int)==0,()) sN) (K (x2.1.2.2.2.2.1,false,()) H3))
theorem SM (a0 a1 H K) (h:UT a0 a1 H K):asq a0 a1 H K:=
 aa KJ Tryz.func104 (Eq.mp (by kernel_rfl:UT a0 a1 H K=bq ⟨Tryz.prog,SL,SK,[],ch⟩ ⟨[(0,.row (.row .byte)),(1,.row .byte),(12,.row (.row .byte)),(25,.row (.row .byte)),(28,.row .byte),(29,.row .byte),(41,.row (.row .byte)),(44,.row .byte),(45,.row .byte)],[]⟩ (.seq .n (.seq .n (.seq .n (.seq (.aC (.loop [0,1,2,8,9,10] [] (.seq (.seq .n (.cond .n .n)) (.aC (.seq .n (.seq .n (.cond .n .n))))))) (.seq .n .n))))) Tryz.f104 JK (a0,a1,.func (.func 58) #[] #[],()) wT H K) h)
theorem Xv (a0 a1) {r} (h:∀H K,K r H→UT a0 a1 H K):aiW a0 a1 r:=fun H K hk=>SM a0 a1 H K (h H K hk)
theorem uK:Tryz.prog.underlying 88=some (.slice 22):=by kernel_rfl
theorem elK:∃i,ER Tryz.prog 88 22 3 1 24 i (.slice none 0 0):=by
 obtain⟨i,h1,h2,h3,h4⟩:=qi (t:=22) (z:=.slice none 0 0) (s:=1) (b:=24) (by kernel_rfl)
 exact⟨i,uK,adi,h1,h2,h3,h4,rfl,by decide,by intro v hv;simp[Value.cells] at hv;subst hv;rfl⟩
theorem ovK:OvF Tryz.prog 88 141:=⟨4,fun W args=>run_callFunc_extern Tryz.func141 (by kernel_rfl) (by kernel_rfl) (by kernel_rfl) (e:=Extern.SlicesOverlaps.overlaps #[88,88] #[4]) (by kernel_rfl) args W⟩
theorem RZ (xs ys:List (List UInt8)) (i:Nat) (hi:i≤xs.length) (hb:xs.length+ys.length≤1000000000) {H:HP} {K:HT [(false,.own (.row .byte) 22)]→HP→Prop} (hk:K (xs.take i++ys++xs.drop i,()) H):
 ae Tryz.prog 130 [(false,.own (.row .byte) 22),(false,.one (.int .i64)),(false,.row (.row .byte))] (xs,(i:Int),ys,()) [(false,.own (.row .byte) 22)] H K:=
 yT rfl (by decide) hi (fun W s v cs ds K ho hv RQ bb tQ hvl h1 h2 hk=>by
  apply call130
  obtain⟨inf,T⟩:=elK
  exact D5 T ovK (rt:=142) ho hv RQ bb (by omega) h1 h2 (by omega) (by omega) hk) hk
theorem elI:∃i,ER Tryz.prog 35 3 3 1 8 i (.int .i64 0):=by
 obtain⟨i,h1,h2,h3,h4⟩:=qi (t:=3) (z:=.int .i64 0) (s:=1) (b:=8) (by kernel_rfl)
 exact⟨i,QQ,adi,h1,h2,h3,h4,rfl,by decide,by intro v hv;simp[Value.cells] at hv;subst hv;rfl⟩
theorem ovI:OvF Tryz.prog 35 143:=⟨4,fun W args=>run_callFunc_extern Tryz.func143 (by kernel_rfl) (by kernel_rfl) (by kernel_rfl) (e:=Extern.SlicesOverlaps.overlaps #[35,35] #[4]) (by kernel_rfl) args W⟩
theorem R0 (xs ys:List (Int)) (i:Nat) (hi:i≤xs.length) (hb:xs.length+ys.length≤1000000000) {H:HP} {K:HT [(false,.own (.one (.int .i64)) 3)]→HP→Prop} (hk:K (xs.take i++ys++xs.drop i,()) H):
 ae Tryz.prog 131 [(false,.own (.one (.int .i64)) 3),(false,.one (.int .i64)),(false,.row (.one (.int .i64)))] (xs,(i:Int),ys,()) [(false,.own (.one (.int .i64)) 3)] H K:=
 yT rfl (by decide) hi (fun W s v cs ds K ho hv RQ bb tQ hvl h1 h2 hk=>by
  apply call131
  obtain⟨inf,T⟩:=elI
  exact D5 T ovI (rt:=144) ho hv RQ bb (by omega) h1 h2 (by omega) (by omega) hk) hk
end Go.Proofs.YtmoebnnbjppjbaaGreat
namespace Go.Proofs.YtmoebnnbjppjbaaGreat.O
open Go Go.Gp Go.Ga
set_option maxRecDepth 100000
set_option maxHeartbeats 0
abbrev Fl:Type:=(Unit)
abbrev asD:Type:=(List UInt8×Int×Bool×Unit)
abbrev abh:Type:=(List (List UInt8)×Unit)
abbrev abi:Type:=(List Int×Unit)
abbrev ZD:Type:=(Int×Unit)
abbrev od:Type:=(List UInt8×Unit)
abbrev T80:Type:=(Bool×Unit)
abbrev T82:Type:=(List Int×Unit)
abbrev Lp:List (Bool×AK):=[(false,.ref),(false,.one (.int .i64))]
abbrev zd:List (Bool×AK):=[(true,kNO),(false,.one .bool)]
abbrev V1 (a0:Option Nat) (a1:Int) (H:HP) (K:HT zd→HP→Prop):Prop:=ae Tryz.prog 56 Lp (a0,a1,()) zd H K
abbrev Q1 (a0:Option Nat) (a1:Int) (H:HP) (K:HT zd→Prop):Prop:=fS Tryz.prog 56 Lp (a0,a1,()) zd H K
abbrev IU:List (Bool×AK):=[(true,.cons (.one .bool) (.cons (.row aj) (.cons (.row (.row .byte)) (.cons (.row (.one (.int .i64))) (.one (.int .i64))))))]
abbrev uP:List (Bool×AK):=[(true,kNO)]
abbrev C59 (a0:pz) (H:HP) (K:HT uP→HP→Prop):Prop:=ae Tryz.prog 59 IU (a0,()) uP H K
abbrev Q59 (a0:pz) (K:HT uP→Prop):Prop:=ck Tryz.prog 59 IU (a0,()) uP K
abbrev S59 (a0:pz) (r:HT uP):Prop:=bB Tryz.prog 59 IU (a0,()) uP r
abbrev V_:List (Bool×AK):=[(false,.row (.one (.int .i64)))]
abbrev IV:List (Bool×AK):=[(false,.own (.one (.int .i64)) 3)]
abbrev C82 (a0:List Int) (H:HP) (K:HT IV→HP→Prop):Prop:=ae Tryz.prog 82 V_ (a0,()) IV H K
abbrev Q82 (a0:List Int) (K:HT IV→Prop):Prop:=ck Tryz.prog 82 V_ (a0,()) IV K
abbrev Nw:List (Bool×AK):=[(false,.ref),(false,.row (.one (.int .i64)))]
abbrev Bl:List (Bool×AK):=[]
abbrev Ny (a0:Option Nat) (a1:List Int) (H:HP) (K:HT Bl→HP→Prop):Prop:=ae Tryz.prog 113 Nw (a0,a1,()) Bl H K
abbrev NM:List (Bool×AK):=[(false,.own (.row .byte) 22),(false,.one (.int .i64)),(false,.row (.row .byte))]
abbrev Fv:List (Bool×AK):=[(false,.own (.row .byte) 22)]
abbrev abI (a0:List (List UInt8)) (a1:Int) (a2:List (List UInt8)) (H:HP) (K:HT Fv→HP→Prop):Prop:=ae Tryz.prog 130 NM (a0,a1,a2,()) Fv H K
abbrev NN:List (Bool×AK):=[(false,.own (.one (.int .i64)) 3),(false,.one (.int .i64)),(false,.row (.one (.int .i64)))]
abbrev Fw:List (Bool×AK):=[(false,.own (.one (.int .i64)) 3)]
abbrev abJ (a0:List Int) (a1:Int) (a2:List Int) (H:HP) (K:HT Fw→HP→Prop):Prop:=ae Tryz.prog 131 NN (a0,a1,a2,()) Fw H K
def yp:TypeId→Option AK
 |133=>some (kR)
 |92=>some (eo)
 |_=>none
def yq:FuncId→Option oW
 |34=>some ⟨P34,ZF,2⟩
 |35=>some ⟨QX,M_,0⟩
 |56=>some ⟨Lp,zd,2⟩
 |59=>some ⟨IU,uP,2⟩
 |80=>some ⟨P80,Q3,1⟩
 |82=>some ⟨V_,IV,2⟩
 |93=>some ⟨P93,Q4,0⟩
 |112=>some ⟨UL,JM,2⟩
 |129=>some ⟨abH,NL,2⟩
 |130=>some ⟨NM,Fv,2⟩
 |131=>some ⟨NN,Fw,2⟩
 |_=>none
theorem ss:Tryz.prog.follows .mixedOrders=true:=by kernel_rfl
def ace (a0:Option Nat) (a1:List Int) (H:HP) (K:HT Bl→HP→Prop):Prop:=
 aP a1.length fun n1=>a9 (V:=(Option Nat×List Int×Int×Unit)×Unit) ((a0,a1,IntKind.i64.wrap (n1 - 1),()),()) H fun x2 H3 B4=>af (decide (x2.1.2.2.1≥0)) (bT x2.1.2.1 x2.1.2.2.1 fun n5=>JQ x2.1.1 n5 H3 fun(l6:asD) H7=>af (! l6.2.2.1) (K () H7) (af ((x2.1.2.2.1:Int)==0) (ao x2.1.1 fun i8=>aJ eo i8 H7 fun(x9:gu)=>bT x2.1.2.1 0 fun xN=>M9 x9.1 (false,[],[l6.1],[xN,l6.2.1],0) H7 fun(br:ZD) qA=>ao x2.1.1 fun i13=>aJ eo i13 qA fun(l_:gu)=>K () (qA.set i13 eo (l_.1,br.1,l_.2.2))) (ao x2.1.1 fun i15=>aJ eo i15 H7 fun(sO:gu)=>bT x2.1.2.1 (IntKind.i64.wrap (x2.1.2.2.1 - 1)) fun n17=>ae Tryz.prog 56 [(false,.ref),(false,.one (.int .i64))] (sO.1,n17,()) [(true,.cons (.one .bool) (.cons (.own aj 56) (.cons (.own (.row .byte) 22) (.cons (.own (.one (.int .i64)) 3) (.one (.int .i64)))))),(false,.one .bool)] H7 fun(d_:pz×Bool×Unit) AI=>ck Tryz.prog 93 [(true,.cons (.one .bool) (.cons (.bQ aj) (.cons (.bQ (.row .byte)) (.cons (.bQ (.one (.int .i64))) (.one (.int .i64)))))),(false,.row .byte)] ((d_.1.1,d_.1.2.1,d_.1.2.2.1,d_.1.2.2.2.1,d_.1.2.2.2.2),l6.1,()) [(false,.one (.int .i64))] fun(dU:Int×Unit)=>abI d_.1.2.2.1 dU.1 [l6.1] AI fun(l21:abh) Wf=>abJ d_.1.2.2.2.1 (IntKind.i64.wrap (dU.1+1)) [l6.2.1] Wf fun(l23:abi) Ek=>bT x2.1.2.1 (IntKind.i64.wrap (x2.1.2.2.1 - 1)) fun n25=>z0 x2.1.1 n25 (d_.1.1,d_.1.2.1,l21.1,l23.1,d_.1.2.2.2.2) Ek fun(gv:Fl) Em=>B4 ((x2.1.1,x2.1.2.1,IntKind.i64.wrap (x2.1.2.2.1 - 1),()),()) Em))) (K () H3)
theorem SJ (a0 a1 H K) (h:ace a0 a1 H K):Ny a0 a1 H K:=
 aa ss Tryz.func113 (Eq.mp (by kernel_rfl:ace a0 a1 H K=bq ⟨Tryz.prog,yq,yp,[],ch⟩ ⟨[(1,.row (.one (.int .i64))),(5,.row .byte),(11,.row (.one (.int .i64))),(20,.row (.one (.int .i64))),(25,.row .byte),(39,.row .byte),(40,.row (.row .byte)),(41,.row (.one (.int .i64))),(45,.row (.one (.int .i64))),(55,.row (.one (.int .i64))),(64,.row .byte),(67,.row (.row .byte)),(69,.row .byte),(70,.row (.row .byte)),(71,.own (.row .byte) 22),(73,.row (.one (.int .i64))),(77,.row (.one (.int .i64))),(78,.own (.one (.int .i64)) 3),(82,.row (.one (.int .i64)))],[]⟩ (.seq .n (.aC (.loop [0,1,4] [] (.seq (.seq .n (.cond .n .n)) (.seq (.aC (.seq .n (.seq (.aC (.seq .n (.cond .n (.seq .n (.cond (.seq (.ord 65536) .n) .n))))) (.seq (.ord 302231454903657293676544) (.seq .n (.seq (.ord 1511157274518286468382720) (.ord 0))))))) .n))))) Tryz.f113 Nw (a0,a1,()) Bl H K) h)
def NZ (a0:pz) (H:HP) (K:HT uP→HP→Prop):Prop:=
 C82 a0.2.2.2.1 H fun(l1:T82) H2=>aP a0.2.1.length fun n3=>a9 (V:=(Unit×Unit×Unit×(List aq)×Int×Int×Unit)×(Bool×(List aq)×List (List UInt8)×List Int×Int×Unit)×(Bool×Unit×Unit×Unit×Int×Unit)×(Bool×(List aq)×List (List UInt8)×List Int×Int×Unit)×Unit) (((),(),(),a0.2.1,n3,0,()),(a0.1,a0.2.1,a0.2.2.1,a0.2.2.2.1,a0.2.2.2.2,()),(false,(),(),(),0,()),(a0.1,[],[],l1.1,a0.2.2.2.2,()),()) H2 fun x4 H5 B6=>af (decide (x4.1.2.2.2.2.2.1<x4.1.2.2.2.2.1)) (bT x4.1.2.2.2.1 x4.1.2.2.2.2.2.1 fun(l7:aq)=>oI l7.1 fun(l8:od)=>oI l7.2 fun(l9:od)=>cR x4.2.2.2.1.2.1.length 1 48 (B6 (((),(),(),x4.1.2.2.2.1,x4.1.2.2.2.2.1,IntKind.i64.wrap (x4.1.2.2.2.2.2.1+1),()),(x4.2.1.1,x4.2.1.2.1,x4.2.1.2.2.1,x4.2.1.2.2.2.1,x4.2.1.2.2.2.2.1,()),(x4.2.2.1.1,(),(),(),x4.2.2.1.2.2.2.2.1,()),(x4.2.2.2.1.1,x4.2.2.2.1.2.1++[(l8.1,l9.1)],x4.2.2.2.1.2.2.1,x4.2.2.2.1.2.2.2.1,x4.2.2.2.1.2.2.2.2.1,()),()) H5)) (aP x4.2.1.2.2.1.length fun xN=>a9 (V:=(Unit×Unit×List (List UInt8)×Int×Int×Unit)×(Bool×Unit×Unit×Unit×Int×Unit)×(Bool×(List aq)×List (List UInt8)×List Int×Int×Unit)×Unit) (((),(),x4.2.1.2.2.1,xN,0,()),(x4.2.2.1.1,(),(),(),x4.2.2.1.2.2.2.2.1,()),(x4.2.2.2.1.1,x4.2.2.2.1.2.1,x4.2.2.2.1.2.2.1,x4.2.2.2.1.2.2.2.1,x4.2.2.2.1.2.2.2.2.1,()),()) H5 fun br qA F7=>af (decide (br.1.2.2.2.2.1<br.1.2.2.2.1)) (bT br.1.2.2.1 br.1.2.2.2.2.1 fun(Wb:List UInt8)=>oI Wb fun(l15:od)=>cR br.2.2.1.2.2.1.length 1 24 (F7 (((),(),br.1.2.2.1,br.1.2.2.2.1,IntKind.i64.wrap (br.1.2.2.2.2.1+1),()),(br.2.1.1,(),(),(),br.2.1.2.2.2.2.1,()),(br.2.2.1.1,br.2.2.1.2.1,br.2.2.1.2.2.1++[l15.1],br.2.2.1.2.2.2.1,br.2.2.1.2.2.2.2.1,()),()) qA)) (K ((br.2.2.1.1,br.2.2.1.2.1,br.2.2.1.2.2.1,br.2.2.1.2.2.2.1,br.2.2.1.2.2.2.2.1),()) qA))
theorem wX (a0 H K) (h:NZ a0 H K):C59 a0 H K:=
 aa ss Tryz.func59 (Eq.mp (by kernel_rfl:NZ a0 H K=bq ⟨Tryz.prog,yq,yp,[],ch⟩ ⟨[(7,.row .byte),(11,.row (.one (.int .i64))),(12,.own (.one (.int .i64)) 3),(17,.row aj),(24,.row aj),(26,.row .byte),(27,.row .byte),(29,.row .byte),(30,.row .byte),(32,.row aj),(33,.own aj 56),(37,.row (.row .byte)),(42,.row .byte),(44,.row (.row .byte)),(45,.row .byte),(46,.row .byte),(47,.row (.row .byte)),(48,.own (.row .byte) 22)],[((3,1),.own aj 56),((3,2),.own (.row .byte) 22)]⟩ (.seq .n (.seq (.ord 9444732965739290427392) (.seq (.seq .n (.aC (.loop [1,2,3,17,18,19] [1,2,3] (.seq .n (.seq (.cond .n .n) (.seq (.aC (.seq .n (.ord 75557863725914323419136))) .n)))))) (.seq (.seq .n (.aC (.loop [2,3,37,38,39] [2,3] (.seq .n (.seq (.cond .n .n) (.seq (.aC (.seq .n (.ord 2361183241434822606848))) .n)))))) (.seq .n .n))))) Tryz.f59 IU (a0,()) uP H K) h)
theorem Q9 (a0) {r} (h:∀H K,K r H→NZ a0 H K):S59 a0 r:=fun H K hk=>wX a0 H K (h H K hk)
def Wc (a0:Option Nat) (a1:Int) (H:HP) (K:HT zd→HP→Prop):Prop:=
 Z80 a0 a1 H fun(x1:T80)=>af (! x1.1) (K ((false,[],[],[],0),false,()) H) (ao a0 fun i2=>aJ kR i2 H fun(x3:ZC)=>cS a1 x3.1.length fun i4=>gN x3.1 i4 fun(x5:pz)=>ae Tryz.prog 59 [(true,.cons (.one .bool) (.cons (.row aj) (.cons (.row (.row .byte)) (.cons (.row (.one (.int .i64))) (.one (.int .i64))))))] ((x5.1,x5.2.1,x5.2.2.1,x5.2.2.2.1,x5.2.2.2.2),()) [(true,.cons (.one .bool) (.cons (.own aj 56) (.cons (.own (.row .byte) 22) (.cons (.own (.one (.int .i64)) 3) (.one (.int .i64))))))] (H.del i2) fun(x6:pz×Unit) H7=>K ((x6.1.1,x6.1.2.1,x6.1.2.2.1,x6.1.2.2.2.1,x6.1.2.2.2.2),true,()) (H7.set i2 kR (x3.1,x3.2.1,x3.2.2)))
theorem DG (a0 a1 H K) (h:Wc a0 a1 H K):V1 a0 a1 H K:=
 aa ss Tryz.func56 (Eq.mp (by kernel_rfl:Wc a0 a1 H K=bq ⟨Tryz.prog,yq,yp,[],ch⟩ ⟨[(14,.row Lo)],[]⟩ (.seq .n (.seq (.seq .n (.cond (.seq .n .n) .n)) (.seq (.gh [.ze 0 kR] .n) (.gh [.cls 0 kR] .n)))) Tryz.f56 Lp (a0,a1,()) zd H K) h)
end Go.Proofs.YtmoebnnbjppjbaaGreat.O
namespace Go.Proofs.YtmoebnnbjppjbaaGreat
open Go Go.Gp Go.Ga Go.Th
abbrev Nd:=Bool×List Pr×List Key×List Int×Int
abbrev E5:AK:=.cons (.one .bool) (.cons (.row (.cons (.row .byte) (.row .byte))) (.cons (.row (.row .byte)) (.cons (.row (.one (.int .i64))) (.one (.int .i64)))))
abbrev dd:AK:=.cons (.own E5 90) (.cons (.own (.one .bool) 4) (.own (.one (.int .i64)) 3))
theorem aH {k:AK} {n:Nat} {H:HP} {x:k.T} {K:k.T→Prop} (hn:H n=some ⟨k,x⟩) (h:K x):aJ k n H K:=⟨x,hn,h⟩
theorem ay {n:Nat} {K:Nat→Prop} (h:K n):ao (some n) K:=⟨n,rfl,h⟩
theorem k5 {P:Program} {f:FuncId} {ps:List (Bool×AK)} {xs:HT ps} {rs:List (Bool×AK)} {H:HP} {K:HT rs→Prop} (r:HT rs) (h:∀K':HT rs→HP→Prop,K' r H→ae P f ps xs rs H K') (hk:K r):fS P f ps xs rs H K:=⟨r,h,hk⟩
theorem eG {n i:Nat} {K:Nat→Prop} (h:i<n) (hk:K i):cS (i:Int) n K:=⟨Int.natCast_nonneg i,by omega,by simpa using hk⟩
theorem back {H:HP} {n:Nat} {k:AK} {x:k.T} (h:H n=some ⟨k,x⟩):(H.del n).set n k x=H:=by
 funext m
 unfold HP.set HP.del
 split
 ·rename_i e;subst e;exact h.symm
 ·rename_i e
  first|rfl|(show(if m=n then _ else H m)=H m;rw[if_neg e])
theorem rG (H:HP) (n:Nat) (k:AK) (x:k.T):(H.del n).set n k x=H.set n k x:=by
 funext m
 unfold HP.set HP.del
 split
 ·rfl
 ·rename_i e
  first|rfl|(show(if m=n then _ else H m)=H m;rw[if_neg e])
def qY (l:List Nd) (th:List Bool) (i:Int):Bool:=decide (0≤i)&&(decide (i<(l.length:Int))&&th.getD i.toNat false)
set_option maxRecDepth 100000 in
theorem Un (a:List Int) (ha:a.length≤17592186044416):bB Tryz.prog 82 [(false,.row (.one (.int .i64)))] (a,()) [(false,.row (.one (.int .i64)))] (a,()):=zP (t:=3) rfl (by decide) fun W s cs hs hl hn h1=>by
 apply call82
 unfold G82
 have kT:=hs.len
 obtain⟨p,n,c⟩:=s
 cases p with
 |none=>
  have h0:=(hn rfl).1
  simp only at h0 kT hl
  subst h0
  have:cs=[]:=List.eq_nil_of_length_eq_zero (by rw[kT];simp)
  subst this
  exact⟨bX.nil _ _ _ _,rfl,aV.refl _ _,by simp[aS]⟩
 |some p=>
  simp only[Option.isNone_some,vL]
  refine D9 fun m W1 hm k1 b1=>?_
  obtain⟨i,hi,h2,h3,h4⟩:=qi (t:=3) (z:=.int .i64 0) (s:=1) (b:=8) (by kernel_rfl)
  simp only at hl kT
  refine pI QQ hi h2 h3 h4 rfl (by decide) (bX.blank (B:=0) b1 (Nat.zero_le _)) cs kT (fun j u hj=>?_) h1 (by simp only;omega) (by simp only;omega) (Nat.zero_le _) fun r W2 o2 k2 l2 hb BZ=>?_
  ·obtain⟨q,hq,hc⟩:=(hs.Kq k1).at_ j u hj
   injection hq with hq
   subst hq
   exact hc
  ·simp only[List.nil_append] at o2
   have hb1:=b1.lt
   have G7:=k2.size
   have zK:=k1.size
   refine⟨o2,by simpa using l2,k1.push k2 (by simp[aS,hm]),fun b hbb=>?_⟩
   rcases hb b hbb with h|h
   ·simp only[aS,List.mem_singleton] at h
    subst h
    exact⟨by omega,by omega⟩
   ·exact⟨Nat.le_trans zK h.1,h.2⟩
structure iY (x:Nd):Prop where
 kids:x.2.2.2.1.length≤1000000000
 lK:x.2.1.length≤1000000000
 keys:x.2.2.1.length≤1000000000
 short:∀p∈x.2.1,p.1.length≤140737488355328∧p.2.length≤140737488355328
 low:∀k∈x.2.2.1,k.length≤140737488355328
theorem re (x:Nd) (hx:iY x):S59 x (x,()):=Q9 x fun H K hk=>by
 obtain⟨lf,ps,ks,kd,nx⟩:=x
 obtain⟨h1,h2,h3,h4,h5⟩:=hx
 dsimp only at h1 h2 h3 h4 h5
 unfold NZ
 refine ai _ (Un kd (by omega)) (au fun _=>?_)
 refine cN ps.length (fun i=>(((),(),(),ps,(ps.length:Int),(i:Int),()),(lf,ps,ks,kd,nx,()),(false,(),(),(),0,()),(lf,ps.take i,[],kd,nx,()),())) (fun _=>True) (by simp) trivial fun i C hi _ hC=>?_
 dsimp only at hC⊢
 refine dR (fun h=>?_) fun h=>?_
 ·have hC:=hC h trivial
  have hp:=h4 _ (List.getElem_mem h)
  refine dk h (ai _ (bJ _ hp.1) (ai _ (bJ _ hp.2) (bM (by rw[List.length_take];omega) ?_)))
  rw[w1 (by omega)]
  rw[bH h] at hC
  exact hC
 obtain rfl:i=ps.length:=by omega
 clear hC
 refine au fun _=>?_
 refine cN ks.length (fun i=>(((),(),ks,(ks.length:Int),(i:Int),()),(false,(),(),(),0,()),(lf,ps,ks.take i,kd,nx,()),())) (fun _=>True) (by simp) trivial fun i C jc _ hC=>?_
 dsimp only at hC⊢
 refine dR (fun h=>?_) fun h=>?_
 ·have hC:=hC h trivial
  refine dk h (ai _ (bJ _ (h5 _ (List.getElem_mem h))) (bM (by rw[List.length_take];omega) ?_))
  rw[w1 (by omega)]
  rw[bH h] at hC
  exact hC
 ·obtain rfl:i=ks.length:=by omega
  rw[List.take_length];exact hk
section
variable {H:HP} {n:Nat} {l:List Nd} {th:List Bool} {fr:List Int}
theorem Ks (hn:H n=some ⟨dd,(l,th,fr)⟩) (hl:th.length=l.length) (i:Int) (K:HT [(false,.one .bool)]→HP→Prop) (hk:K (qY l th i,()) H):C80 (some n) i H K:=W3 _ _ _ _ (by
 unfold A80
 unfold qY at hk
 refine ay (aH hn (fW (fun h0=>au fun _=>fW (fun h1=>?_) fun h1=>?_) fun h0=>?_))
 ·have h0:i≥0:=h0
  have h1:i<(l.length:Int):=h1
  obtain⟨j,rfl⟩:∃j:Nat,i=j:=⟨i.toNat,by omega⟩
  have hj:j<th.length:=by omega
  refine eG (by dsimp only;omega) (dj (List.getElem?_eq_getElem hj) ?_)
  rw[back hn]
  rw[decide_eq_true (by omega:(0:Int)≤j),decide_eq_true (by omega:(j:Int)<l.length),Int.toNat_natCast,List.getD_eq_getElem?_getD,List.getElem?_eq_getElem hj] at hk
  exact hk
 ·have h1:¬i<(l.length:Int):=h1
  rw[back hn]
  rw[decide_eq_false h1,Bool.false_and,Bool.and_false] at hk;exact hk
 ·rw[back hn]
  rw[decide_eq_false (show ¬0≤i from h0),Bool.false_and] at hk;exact hk)
abbrev uC:Nd:=(false,[],[],[],0)
def cC (l:List Nd) (th:List Bool) (i:Int):Nd×Bool×Unit:=if qY l th i=true then(l.getD i.toNat uC,true,()) else(uC,false,())
theorem Sg {l:List Nd} {th:List Bool} {i:Int} (h:qY l th i=true):∃j:Nat,i=j∧j<l.length:=by
 unfold qY at h
 simp only[Bool.and_eq_true,decide_eq_true_eq] at h
 exact⟨i.toNat,by omega,by omega⟩
theorem Sh (hn:H n=some ⟨dd,(l,th,fr)⟩) (hl:th.length=l.length) (ho:∀x∈l,iY x) (i:Int) (K:HT [(true,E5),(false,.one .bool)]→HP→Prop) (hk:K (cC l th i) H):V1 (some n) i H K:=DG _ _ _ _ (by
 unfold Wc
 unfold cC at hk
 refine k5 _ (fun K' bW=>Ks hn hl i K' bW) (bN (fun h=>?_) fun h=>?_)
 ·rw[if_neg (by rw[show qY l th i=false from h];simp)] at hk;exact hk
 ·have h:qY l th i=true:=h
  rw[if_pos h] at hk
  obtain⟨j,rfl,hj⟩:=Sg h
  refine ay (aH hn (eG hj (dj (List.getElem?_eq_getElem hj) (ai _ (re l[j] (ho _ (List.getElem_mem hj))) ?_))))
  rw[back hn]
  rw[Int.toNat_natCast,List.getD_eq_getElem?_getD,List.getElem?_eq_getElem hj] at hk
  exact hk)
theorem Si (hn:H n=some ⟨dd,(l,th,fr)⟩) (hl:th.length=l.length) (x:Nd) (hx:iY x) (i:Int) (K:HT [(false,.one .any)]→HP→Prop) (h0:qY l th i=false→K (.iface 62 (.int .i64 3),()) H) (h1:qY l th i=true→K (.nilIface,()) (H.set n dd (l.set i.toNat x,th,fr))):Bm (some n) i x H K:=SC _ _ _ _ _ (by
 unfold abX
 refine k5 _ (fun K' bW=>Ks hn hl i K' bW) (bN (fun h=>h0 h) fun h=>?_)
 have hk:=h1 h
 obtain⟨j,rfl,hj⟩:=Sg h
 refine ay (aH hn (ai _ (re x hx) (eG hj (dj (List.getElem?_eq_getElem hj) ?_))))
 rw[rG]
 exact hk)
theorem Uo (hn:H n=some ⟨dd,(l,th,[])⟩) (hl:th.length=l.length) (hb:l.length≤1000000) (x:Nd) (hx:iY x) (K:HT [(false,.one (.int .i64))]→HP→Prop) (hk:K ((l.length:Int),()) (H.set n dd (l++[x],th++[true],[]))):M9 (some n) x H K:=Ls _ _ _ _ (by
 unfold A34
 refine ay (aH hn (au fun _=>bP rfl (ai _ (re x hx) (bM (by dsimp only;omega) (bM (by dsimp only;omega) (au fun _=>?_))))))
 rw[rG]
 have:IntKind.i64.wrap (((l++[x]).length:Int)- 1)=l.length:=by
  rw[List.length_append,List.length_singleton,jd (by omega) (by omega)];omega
 show K (IntKind.i64.wrap (((l++[x]).length:Int)- 1),()) _
 rw[this]
 exact hk)
theorem Up {q:Nat} (hn:H n=some ⟨dd,(l,th,fr++[(q:Int)])⟩) (hl:th.length=l.length) (hq:q<l.length) (hb:fr.length≤1000000) (x:Nd) (hx:iY x) (K:HT [(false,.one (.int .i64))]→HP→Prop) (hk:K ((q:Int),()) (H.set n dd (l.set q x,th.set q true,fr))):M9 (some n) x H K:=Ls _ _ _ _ (by
 unfold A34
 have e:IntKind.i64.wrap ((((fr++[(q:Int)]).length:Nat):Int)- 1)=(fr.length:Nat):=by
  rw[List.length_append,List.length_singleton,jd (by omega) (by omega)];omega
 have hq2:q<th.length:=by omega
 refine ay (aH hn (au fun _=>?_))
 dsimp only
 rw[e]
 refine cd (decide_eq_true (by omega)) (eG (by simp) (dj (x:=(q:Int)) (by simp) (gj (a:=0) (b:=fr.length) rfl rfl (Nat.zero_le _) (by simp) ⟨rfl,ai _ (re x hx) (eG hq (dj (List.getElem?_eq_getElem hq) (eG hq2 (dj (List.getElem?_eq_getElem hq2) ?_))))⟩)))
 rw[rG]
 have e2:List.take (fr.length - 0) (fr++[(q:Int)])=fr:=by rw[Nat.sub_zero,List.take_left'];rfl
 rw[e2]
 exact hk)
theorem ahr (K:HT [(false,.ref)]→HP→Prop) (hk:∀n,H n=none→K (some n,()) (H.set n dd ([],[],[]))):C33 H K:=WZ _ _ (by
 unfold A33
 exact fun n hn=>hk n hn)
end
def sq (ks:List Key):List Pr:=ks.map fun x=>(x,[])
theorem y6 (ks:List Key):keys (sq ks)=ks:=by
 unfold keys sq
 rw[List.map_map]
 exact List.map_id' ks
theorem xK (ks:List Key) (i:Nat):(sq ks)[i]?=ks[i]?.map fun x=>(x,[]):=by unfold sq;rw[List.getElem?_map]
theorem MA (ks:List Key):(sq ks).length=ks.length:=by unfold sq;rw[List.length_map]
theorem C_ (ks:List Key) (k:Key) (hs:bO ks) (hl:ks.length≤1000000000):aiW ks k ((lb (sq ks) k:Nat),cK (sq ks) k,()):=Xv ks k fun H K hk=>by
 unfold UT
 refine au fun _=>?_
 refine gG (fun v H'=>H'=H∧∃i j:Nat,v=((ks,k,(),(ks.length:Int),(i:Int),(j:Int),()),())∧i≤j∧j≤ks.length∧(∀q p,q<i→ks[q]?=some p→al p k=true)∧(∀q p,j≤q→ks[q]?=some p→al p k=false)) (fun v _=>(v.1.2.2.2.2.2.1 - v.1.2.2.2.2.1).toNat) ⟨rfl,0,ks.length,rfl,Nat.zero_le _,Nat.le_refl _,fun q p h=>absurd h (Nat.not_lt_zero _),fun q p h hp=>by rw[List.getElem?_eq_none h] at hp;cases hp⟩ ?_
 rintro v H' ⟨rfl,i,j,rfl,GO,mq,h1,h2⟩
 dsimp only
 refine dR (fun h=>?_) fun h=>?_
 ·rw[half i j (by omega)]
  have hm:(i+j)/2<ks.length:=by omega
  refine⟨by omega,dk hm ?_⟩
  refine(sL _ _).call ?_
  dsimp only
  refine fW (fun hc=>?_) fun hc=>?_
  ·rw[w1 (by omega)]
   have mN:=qe.1 hc
   refine⟨⟨rfl,(i+j)/2+1,j,rfl,by omega,mq,fun q p hq hp=>?_,h2⟩,by omega⟩
   rcases Nat.lt_or_ge q ((i+j)/2) with h3|h3
   ·have h4:=hs.get (i:=q) (j:=(i+j)/2) h3 hp (List.getElem?_eq_getElem hm)
    exact cy h4 mN
   ·obtain rfl:q=(i+j)/2:=by omega
    rw[List.getElem?_eq_getElem hm] at hp
    injection hp with hp
    subst hp;exact mN
  ·have mN:al ks[(i+j)/2] k=false:=by
    cases hb:al ks[(i+j)/2] k with
    |false=>rfl
    |true=>exact absurd (qe.2 hb) hc
   refine⟨⟨rfl,i,(i+j)/2,rfl,by omega,by omega,h1,fun q p hq hp=>?_⟩,by omega⟩
   rcases Nat.lt_or_ge ((i+j)/2) q with h3|h3
   ·have h4:=hs.get (i:=(i+j)/2) (j:=q) h3 (List.getElem?_eq_getElem hm) hp
    cases hb:al p k with
    |false=>rfl
    |true=>rw[cy h4 hb] at mN;cases mN
   ·obtain rfl:q=(i+j)/2:=by omega
    rw[List.getElem?_eq_getElem hm] at hp
    injection hp with hp
    subst hp;exact mN
 ·obtain rfl:i=j:=by omega
  have up:∀(q:Nat) (p:Pr),(sq ks)[q]?=some p→ks[q]?=some p.1:=fun q p hp=>by
   rw[xK] at hp
   obtain⟨x,hx,rfl⟩:=Option.map_eq_some_iff.1 hp
   exact hx
  have WL:lb (sq ks) k=i:=aaI (by rw[MA];exact mq) (fun q p hq hp=>h1 q p.1 hq (up q p hp)) fun p hp=>h2 i p.1 (Nat.le_refl _) (up i p hp)
  have dZ:cK (sq ks) k=Mu (sq ks) i k:=by rw[←WL,xE (by rw[y6];exact hs)]
  rw[WL,dZ] at hk
  refine dR (fun aY=>dk aY ((sL _ _).call ?_)) fun o0=>?_
  ·unfold Mu at hk
   rw[xK,List.getElem?_eq_getElem aY] at hk
   have:((lJ ks[i] k:Int)==0)=decide (ks[i]=k):=by rw[Bool.eq_iff_iff];simp[xC]
   dsimp only
   rw[this];exact hk
  ·unfold Mu at hk
   rw[xK,List.getElem?_eq_none o0] at hk
   exact hk
def Da (ks:List Key) (k:Key):Nat:=if cK (sq ks) k=true then lb (sq ks) k+1 else lb (sq ks) k
theorem amX (x:Nd) (k:Key) (hs:bO x.2.2.1) (hl:x.2.2.1.length≤1000000000) (WL:lb (sq x.2.2.1) k≤x.2.2.1.length):S93 x k ((Da x.2.2.1 k:Nat),()):=aeC x k fun H K hk=>by
 unfold A93
 unfold Da at hk
 refine ai _ (C_ x.2.2.1 k hs hl) (bf (cM (fun h=>?_) fun h=>?_))
 ·rw[if_pos (show cK (sq x.2.2.1) k=true from h)] at hk
  dsimp only
  rw[w1 (by omega)];exact hk
 ·rw[if_neg (by rw[show cK (sq x.2.2.1) k=false from h];simp)] at hk
  exact hk
abbrev jO:AK:=.cons .ref (.cons (.one (.int .i64)) (.cons (.one (.int .i64)) (.one (.int .i64))))
section
variable {H:HP} {t n:Nat} {root order many:Int} {l:List Nd} {th:List Bool} {fr:List Int}
theorem ahs (ht:H t=some ⟨jO,(some n,root,order,many)⟩) (hn:H n=some ⟨dd,(l,th,fr)⟩) (hl:th.length=l.length) (x:Nd) (hx:iY x) (i:Int) (hi:qY l th i=true) (K:HT []→HP→Prop) (hk:K () (H.set n dd (l.set i.toNat x,th,fr))):z0 (some t) i x H K:=SE _ _ _ _ _ (by
 unfold abZ
 exact ay (aH ht (Si hn hl x hx i _ (fun h=>by rw[hi] at h;cases h) fun _=>⟨rfl,bP rfl hk⟩)))
end
set_option maxRecDepth 100000 in
theorem Lh {W:World} {s:Sl} {cs:List Value} {n:Nat} (hs:Rs W 1 s cs) (hl:s.len=n) (ha:n≤17592186044416) (hn:s.a=none→s.len=0∧s.cap=0) (h1:∀u∈cs,u.oneCell'=true):
 fL Tryz.prog 82 [s.val] [.one .sl] W fun z W'=>bX W' 0 3 1 z.1 cs∧z.1.len=s.len∧aV [] W W'∧∀b∈aS z.1,xk W W' b:=by
 apply call82
 unfold G82
 have kT:=hs.len
 obtain⟨p,n,c⟩:=s
 cases p with
 |none=>
  have h0:=(hn rfl).1
  simp only at h0 kT hl
  subst h0
  have:cs=[]:=List.eq_nil_of_length_eq_zero (by rw[kT])
  subst this
  exact⟨bX.nil _ _ _ _,rfl,aV.refl _ _,by simp[aS]⟩
 |some p=>
  simp only[Option.isNone_some,vL]
  refine D9 fun m W1 hm k1 b1=>?_
  obtain⟨i,hi,h2,h3,h4⟩:=qi (t:=3) (z:=.int .i64 0) (s:=1) (b:=8) (by kernel_rfl)
  simp only at hl kT
  refine pI QQ hi h2 h3 h4 rfl (by decide) (bX.blank (B:=0) b1 (Nat.zero_le _)) cs kT (fun j u hj=>?_) h1 (by simp only;omega) (by simp only;omega) (Nat.zero_le _) fun r W2 o2 k2 l2 hb BZ=>?_
  ·obtain⟨q,hq,hc⟩:=(hs.Kq k1).at_ j u hj
   injection hq with hq
   subst hq
   exact hc
  ·simp only[List.nil_append] at o2
   have hb1:=b1.lt
   have G7:=k2.size
   have zK:=k1.size
   refine⟨o2,by simpa using l2,k1.push k2 (by simp[aS,hm]),fun b hbb=>?_⟩
   rcases hb b hbb with h|h
   ·simp only[aS,List.mem_singleton] at h
    subst h
    exact⟨by omega,by omega⟩
   ·exact⟨Nat.le_trans zK h.1,h.2⟩
theorem Ql (a:List Int) (ha:a.length≤17592186044416) {H:HP} {K:HT [(false,.own (.one (.int .i64)) 3)]→HP→Prop} (hk:K (a,()) H):ae Tryz.prog 82 [(false,.row (.one (.int .i64)))] (a,()) [(false,.own (.one (.int .i64)) 3)] H K:=
 ID rfl (by decide) (fun W s cs hs hl hn h1=>Lh hs hl ha hn h1) hk
abbrev Ml:AK:=.cons (.one .bool) (.cons (.own (.cons (.row .byte) (.row .byte)) 56) (.cons (.own (.row .byte) 22) (.cons (.own (.one (.int .i64)) 3) (.one (.int .i64)))))
theorem Li (x:Nd) (hx:iY x) {H:HP} {K:HT [(true,Ml)]→HP→Prop} (hk:K (x,()) H):O.C59 x H K:=O.wX x H K (by
 obtain⟨lf,ps,ks,kd,nx⟩:=x
 obtain⟨h1,h2,h3,h4,h5⟩:=hx
 dsimp only at h1 h2 h3 h4 h5
 unfold O.NZ
 refine Ql kd (by omega) (au fun _=>?_)
 refine cN ps.length (fun i=>(((),(),(),ps,(ps.length:Int),(i:Int),()),(lf,ps,ks,kd,nx,()),(false,(),(),(),0,()),(lf,ps.take i,[],kd,nx,()),())) (fun _=>True) (by simp) trivial fun i C hi _ hC=>?_
 dsimp only at hC⊢
 refine dR (fun h=>?_) fun h=>?_
 ·have hC:=hC h trivial
  have hp:=h4 _ (List.getElem_mem h)
  refine dk h (ai _ (bJ _ hp.1) (ai _ (bJ _ hp.2) (bM (by rw[List.length_take];omega) ?_)))
  rw[w1 (by omega)]
  rw[bH h] at hC
  exact hC
 obtain rfl:i=ps.length:=by omega
 clear hC
 refine au fun _=>?_
 refine cN ks.length (fun i=>(((),(),ks,(ks.length:Int),(i:Int),()),(false,(),(),(),0,()),(lf,ps,ks.take i,kd,nx,()),())) (fun _=>True) (by simp) trivial fun i C jc _ hC=>?_
 dsimp only at hC⊢
 refine dR (fun h=>?_) fun h=>?_
 ·have hC:=hC h trivial
  refine dk h (ai _ (bJ _ (h5 _ (List.getElem_mem h))) (bM (by rw[List.length_take];omega) ?_))
  rw[w1 (by omega)]
  rw[bH h] at hC
  exact hC
 ·obtain rfl:i=ks.length:=by omega
  rw[List.take_length];exact hk)
abbrev uD:=List Nd×List Bool×List Int
structure Ar (v:uD) (f:Nat→Option Nd) (u:Nat):Prop where
 len:v.2.1.length=v.1.length
 ok:∀x∈v.1,iY x
 is:∀i:Nat,f i=if v.2.1[i]?=some true then v.1[i]? else none
 fre:∃fr:List Nat,v.2.2=fr.map (fun q:Nat=>(q:Int))∧fr.Nodup∧∀q∈fr,v.2.1[q]?=some false
 used:v.1.length=u+v.2.2.length
 pE:v.1.length≤1000000
theorem Ar.new:Ar ([],[],[]) (fun _=>none) 0:=⟨rfl,by simp,by simp,⟨[],rfl,List.nodup_nil,by simp⟩,rfl,by simp⟩
theorem Zb {l:List Nd} {th:List Bool} (hl:th.length=l.length) (i:Nat):qY l th i=decide (th[i]?=some true):=by
 unfold qY
 rw[decide_eq_true (by omega:(0:Int)≤i),Bool.true_and,Int.toNat_natCast,List.getD_eq_getElem?_getD]
 by_cases h:i<l.length
 ·rw[decide_eq_true (by omega:(i:Int)<l.length),Bool.true_and,List.getElem?_eq_getElem (by omega:i<th.length)]
  cases th[i]<;>simp
 ·rw[decide_eq_false (by omega:¬(i:Int)<l.length),List.getElem?_eq_none (by omega)]
  simp
theorem Zc {l:List Nd} {th:List Bool} {i:Int} (h:i<0):qY l th i=false:=by
 unfold qY;rw[decide_eq_false (by omega)];rfl
section
variable {H:HP} {n u:Nat} {v:uD} {f:Nat→Option Nd}
theorem Ar.some (ha:Ar v f u) {i:Nat} {x:Nd} (hf:f i=some x):v.2.1[i]?=some true∧v.1[i]?=some x:=by
 have:=ha.is i
 rw[hf] at this
 split at this
 ·rename_i h;exact⟨h,this.symm⟩
 ·cases this
theorem Ar.qY (ha:Ar v f u) (i:Nat):qY v.1 v.2.1 i=(f i).isSome:=by
 rw[Zb ha.len,ha.is i]
 split
 ·rename_i h
  have hl:i<v.1.length:=by have:=(List.getElem?_eq_some_iff.1 h).1;have:=ha.len;omega
  rw[List.getElem?_eq_getElem hl,h];rfl
 ·rename_i h
  simpa using h
theorem Ar.iq (ha:Ar v f u) {i:Nat} {x:Nd} (hf:f i=Option.some x):iY x:=ha.ok x (List.mem_of_getElem? (ha.some hf).2)
theorem Ar.get (ha:Ar v f u) {i:Nat} {x:Nd} (hf:f i=Option.some x):cC v.1 v.2.1 (i:Int)=(x,true,()):=by
 unfold Go.Proofs.YtmoebnnbjppjbaaGreat.cC
 rw[if_pos (by rw[ha.qY,hf];rfl),Int.toNat_natCast,List.getD_eq_getElem?_getD,(ha.some hf).2]
 rfl
theorem amY (hn:H n=some ⟨dd,v⟩) (ha:Ar v f u) {i:Nat} {x:Nd} (hf:f i=some x) {K:HT [(true,E5),(false,.one .bool)]→HP→Prop} (hk:K (x,true,()) H):V1 (some n) (i:Int) H K:=
 Sh hn ha.len ha.ok _ K (by rw[ha.get hf];exact hk)
theorem aht (hn:H n=some ⟨dd,v⟩) (ha:Ar v f u) {i:Int} (hf:i<0∨f i.toNat=none) {K:HT [(true,E5),(false,.one .bool)]→HP→Prop} (hk:K (uC,false,()) H):V1 (some n) i H K:=
 Sh hn ha.len ha.ok _ K (by
  unfold Go.Proofs.YtmoebnnbjppjbaaGreat.cC
  rw[if_neg];exact hk
  rcases(by omega:i<0∨0≤i) with h|h
  ·rw[Zc h];simp
  ·obtain⟨j,rfl⟩:∃j:Nat,i=j:=⟨i.toNat,by omega⟩
   rw[ha.qY]
   rcases hf with hf|hf
   ·omega
   ·rw[Int.toNat_natCast] at hf;rw[hf];simp)
theorem qj (hn:H n=some ⟨dd,v⟩) (ha:Ar v f u) {i:Nat} {x:Nd} (hf:f i=some x) {K:HT [(true,E5),(false,.one .bool)]→Prop} (hk:K (x,true,())):fS Tryz.prog 56 [(false,.ref),(false,.one (.int .i64))] (some n,(i:Int),()) [(true,E5),(false,.one .bool)] H K:=
 k5 _ (fun K' bW=>amY hn ha hf bW) hk
theorem ahu (hn:H n=some ⟨dd,v⟩) (ha:Ar v f u) {i:Int} (hf:i<0∨f i.toNat=none) {K:HT [(true,E5),(false,.one .bool)]→Prop} (hk:K (uC,false,())):fS Tryz.prog 56 [(false,.ref),(false,.one (.int .i64))] (some n,i,()) [(true,E5),(false,.one .bool)] H K:=
 k5 _ (fun K' bW=>aht hn ha hf bW) hk
theorem k6 (hn:H n=some ⟨dd,v⟩) (ha:Ar v f u) {i:Nat} {x:Nd} (hf:f i=some x) {K:HT [(true,Ml),(false,.one .bool)]→HP→Prop} (hk:K (x,true,()) H):O.V1 (some n) (i:Int) H K:=O.DG _ _ _ _ (by
 unfold O.Wc
 obtain⟨h1,h2⟩:=ha.some hf
 obtain⟨l,th,fr⟩:=v
 have hj:=(List.getElem?_eq_some_iff.1 h2).1
 refine k5 _ (fun K' bW=>Ks hn ha.len i K' bW) (bN (fun h=>?_) fun h=>?_)
 ·have h:qY l th i=false:=h
  have:=ha.qY i
  rw[hf] at this
  simp only at this
  rw[this] at h;cases h
 ·refine ay (aH hn (eG hj (dj h2 (Li x (ha.iq hf) ?_))))
  dsimp only
  rw[back hn]
  exact hk)
theorem Ar.set (ha:Ar v f u) {i:Nat} {y:Nd} (hf:f i=Option.some y) {x:Nd} (hx:iY x):Ar (v.1.set i x,v.2.1,v.2.2) (dA f i (Option.some x)) u:=by
 obtain⟨h1,h2⟩:=ha.some hf
 have hj:=(List.getElem?_eq_some_iff.1 h2).1
 refine⟨by simpa using ha.len,fun z hz=>?_,fun j=>?_,ha.fre,by simpa using ha.used,by simpa using ha.pE⟩
 ·rcases List.mem_or_eq_of_mem_set hz with h|rfl
  ·exact ha.ok z h
  ·exact hx
 ·unfold dA
  by_cases e:j=i
  ·subst e;rw[if_pos rfl,if_pos h1,List.getElem?_set_self hj]
  ·rw[if_neg e,ha.is j];simp only;rw[List.getElem?_set_ne (fun h=>e h.symm)]
theorem Kt (hn:H n=some ⟨dd,v⟩) (ha:Ar v f u) {i:Nat} {y:Nd} (hf:f i=some y) {x:Nd} (hx:iY x) {K:HT [(false,.one .any)]→HP→Prop} (hk:∀v',Ar v' (dA f i (some x)) u→K (.nilIface,()) (H.set n dd v')):Bm (some n) (i:Int) x H K:=by
 obtain⟨l,th,fr⟩:=v
 refine Si hn ha.len x hx _ K (fun h=>?_) fun _=>?_
 ·have:=ha.qY i
  rw[hf] at this
  simp only at this
  rw[this] at h;cases h
 ·rw[Int.toNat_natCast]
  exact hk _ (ha.set hf hx)
theorem Dw (hn:H n=some ⟨dd,v⟩) (ha:Ar v f u) (hu:u<1000000) {x:Nd} (hx:iY x) {K:HT [(false,.one (.int .i64))]→HP→Prop} (hk:∀(q:Nat) v',f q=none→Ar v' (dA f q (some x)) (u+1)→K ((q:Int),()) (H.set n dd v')):M9 (some n) x H K:=by
 obtain⟨l,th,fi⟩:=v
 obtain⟨fr,AZ,eF,fk⟩:=ha.fre
 have kZ:=ha.used
 have hb:=ha.pE
 have hlen:=ha.len
 simp only at AZ fk kZ hb hlen
 rcases List.eq_nil_or_concat fr with rfl|⟨r,q,rfl⟩
 ·simp only[List.map_nil] at AZ
  subst AZ
  simp only[List.length_nil,Nat.add_zero] at kZ
  refine Uo hn ha.len (by omega) x hx K (hk l.length _ ?_ ⟨?_,?_,?_,⟨[],rfl,List.nodup_nil,by simp⟩,?_,?_⟩)
  ·rw[ha.is];simp only
   rw[List.getElem?_eq_none (by omega:th.length≤l.length)];rfl
  ·simp[hlen]
  ·intro z hz
   rcases List.mem_append.1 hz with h|h
   ·exact ha.ok z h
   ·rw[List.mem_singleton.1 h];exact hx
  ·intro j
   simp only
   unfold dA
   by_cases e:j=l.length
   ·subst e
    rw[if_pos rfl,List.getElem?_append_right (by omega),hlen,Nat.sub_self,List.getElem?_append_right (Nat.le_refl _),Nat.sub_self];rfl
   ·rw[if_neg e,ha.is j]
    simp only
    rcases Nat.lt_or_ge j l.length with h|h
    ·rw[List.getElem?_append_left (by omega),List.getElem?_append_left h]
    ·rw[List.getElem?_eq_none (by omega:th.length≤j),List.getElem?_eq_none (by simp;omega:(th++[true]).length≤j)];rfl
  ·simp[kZ]
  ·simp;omega
 ·rw[List.concat_eq_append] at AZ eF fk
  rw[List.map_append] at AZ
  subst AZ
  have hq:=fk q (by simp)
  have hqt:=(List.getElem?_eq_some_iff.1 hq).1
  have Jf:q<l.length:=by omega
  simp only[List.length_append,List.length_map,List.length_singleton] at kZ
  refine Up hn ha.len Jf (by simp;omega) x hx K (hk q _ ?_ ⟨?_,?_,?_,⟨r,rfl,(List.nodup_append.1 eF).1,fun j hj=>?_⟩,?_,?_⟩)
  ·rw[ha.is];simp only;rw[hq];rfl
  ·simpa using hlen
  ·intro z hz
   rcases List.mem_or_eq_of_mem_set hz with h|rfl
   ·exact ha.ok z h
   ·exact hx
  ·intro j
   simp only
   unfold dA
   by_cases e:j=q
   ·subst e
    rw[if_pos rfl,List.getElem?_set_self hqt,List.getElem?_set_self Jf];rfl
   ·rw[if_neg e,ha.is j]
    simp only
    rw[List.getElem?_set_ne (fun h=>e h.symm),List.getElem?_set_ne (fun h=>e h.symm)]
  ·have hjq:q≠j:=fun e=>(List.nodup_append.1 eF).2.2 j hj q (by simp) e.symm
   simp only
   rw[List.getElem?_set_ne hjq]
   exact fk j (by simp[hj])
  ·simp;omega
  ·simpa using hb
end
theorem bU (H:HP) (n:Nat) (k:AK) (x:k.T):H.set n k x n=some ⟨k,x⟩:=by unfold HP.set;rw[if_pos rfl]
theorem cp (H:HP) {n m:Nat} (k:AK) (x:k.T) (h:m≠n):H.set n k x m=H m:=by unfold HP.set;rw[if_neg h]
theorem h_ (H:HP) (n:Nat) (k k':AK) (x:k.T) (y:k'.T):(H.set n k x).set n k' y=H.set n k' y:=by
 funext m;unfold HP.set;by_cases h:m=n
 ·rw[if_pos h,if_pos h]
 ·rw[if_neg h,if_neg h,if_neg h]
theorem p_ {H:HP} {t n:Nat} {x:jO.T} {v:dd.T} (ht:H t=some ⟨jO,x⟩) (hn:H n=some ⟨dd,v⟩):t≠n:=fun e=>by
 subst e
 rw[ht] at hn
 injection hn with hn
 injection hn with h1
 injection h1 with h1
 cases h1
theorem aaD {n i:Nat} {z:Int} {K:Nat→Prop} (hz:z=(i:Int)) (h:i<n) (hk:K i):cS z n K:=by subst hz;exact eG h hk
theorem tF {x y:Nd} (hx:iY x) (h1:y.2.1.Sublist x.2.1) (h2:y.2.2.1.Sublist x.2.2.1) (h3:y.2.2.2.1.length≤1000000000):iY y:=
 ⟨h3,Nat.le_trans h1.length_le hx.lK,Nat.le_trans h2.length_le hx.keys,fun p hp=>hx.short p (h1.subset hp),fun k hk=>hx.low k (h2.subset hk)⟩
theorem Mm {ks:List Key} (hs:bO ks) (k:Key):Da ks k=iI ks k:=by
 unfold Da
 rw[aha hs k,←xE (by rw[y6];exact hs)]
 unfold Mu lb
 rw[y6,xK]
 cases ks[Fa ks k]? with
 |none=>simp
 |some x=>by_cases e:x=k<;>simp[e]
theorem aaN {x:Nd} {k:Key} (hs:bO x.2.2.1) (hl:x.2.2.1.length≤1000000000):S93 x k ((iI x.2.2.1 k:Nat),()):=by
 have:=amX x k hs hl (by rw[←MA];exact Fb _ _)
 rwa [Mm hs] at this
theorem vR {x:List It}:∀{ks:List Key} {ls:List (List It)},x∈ls→x.Sublist (inter ks ls)
 |_,[],h=>by simp at h
 |[],l::ls,h=>by
  simp only[inter]
  rcases List.mem_cons.1 h with rfl|h
  ·exact List.sublist_append_left _ _
  ·exact(vR h).trans (List.sublist_append_right _ _)
 |k::ks,l::ls,h=>by
  simp only[inter]
  rcases List.mem_cons.1 h with rfl|h
  ·exact List.sublist_append_left _ _
  ·exact((vR h).trans (List.sublist_cons_self _ _)).trans (List.sublist_append_right _ _)
section
variable {H:HP} {t n u:Nat} {root many:Int} {order:Int} {v:uD} {f:Nat→Option Nd}
theorem amZ (ht:H t=some ⟨jO,(some n,root,order,many)⟩) (hn:H n=some ⟨dd,v⟩) (ha:Ar v f u) {o lo hi hh:Nat} {T:Tr hh} (AE:root=(T.id:Int)) (hr:fR f T) (hz:Sz o lo hi T) (ho:Ord (fl T)) (auf:hh≤1000000) (k:Key)
 {K:HT [(false,.row (.one (.int .i64)))]→HP→Prop} (hk:K ((Dk T k).map (fun j:Nat=>(j:Int)),()) H):C79 (some t) k H K:=W6 _ _ _ _ (by
 unfold A79
 refine ay (aH ht ?_)
 refine gY hh (fun i st H'=>H'=H∧∃(h lo hi:Nat) (s:Tr h) (pr:List Nat),h+i=hh∧st=((some t,k,(pr++[s.id]).map (fun j:Nat=>(j:Int)),()),())∧pr++Dk s k=Dk T k∧pr.length=i∧fR f s∧Sz o lo hi s∧Ord (fl s)) ⟨rfl,hh,lo,hi,T,[],rfl,by rw[AE];rfl,rfl,rfl,hr,hz,ho⟩ ?_
 rintro i st H' C jc ⟨rfl,h,lo,hi,s,pr,Gw,rfl,hw,o7,hr,hz,ho⟩ hC
 dsimp only at hC⊢
 have hlen:((pr++[s.id]).map (fun j:Nat=>(j:Int))).length=i+1:=by simp[o7]
 have dZ:((pr++[s.id]).map (fun j:Nat=>(j:Int)))[i]?=some (s.id:Int):=by
  rw[List.getElem?_map,List.getElem?_append_right (by omega),o7,Nat.sub_self];rfl
 refine ay (aH ht (au fun _=>?_))
 rw[hlen]
 refine aaD (i:=i) (by rw[jd (by omega) (by omega)];omega) (by omega) (dj dZ ?_)
 cases h with
 |zero=>
  obtain⟨j,ps,rfl⟩:=s.sm
  obtain⟨ks,kd,nx,hf⟩:=gp.1 hr
  refine qj hn ha hf (bN (fun h=>by cases h) fun _=>cd rfl ?_)
  rw[ahh] at hw
  rw[←hw] at hk
  exact hk
 |succ h=>
  obtain⟨j,ks,l,rfl⟩:=s.sn
  obtain⟨⟨ps,nx,hf⟩,hrk⟩:=bV.1 hr
  obtain⟨_,_,h3,h4⟩:=e8.1 hz
  have aY:iI ks k<l.length:=by have:=C0 ks k;omega
  have hx:=List.getElem?_eq_getElem aY
  have hs:bO ks:=tB (ls:=l.map fl) (by rw[List.length_map];omega) ho
  have cJ:=ha.iq hf
  refine qj hn ha hf (bN (fun h=>by cases h) fun _=>bP rfl (ai _ (aaN hs cJ.keys) ?_))
  refine b_ (i:=iI ks k) rfl (x:=(l[iI ks k].id:Int)) (by rw[List.getElem?_map,hx];rfl) (bM (by omega) ?_)
  rw[Jx hx] at hw
  refine hC (by omega) _ _ ⟨rfl,h,o/2,o,l[iI ks k],pr++[j],by omega,?_,by rw[List.append_assoc];exact hw,by simp[o7],hrk _ (List.getElem_mem aY),h4 _ (List.getElem_mem aY),List.Pairwise.sublist (vR (List.mem_map.2 ⟨_,List.getElem_mem aY,rfl⟩)) ho⟩
  simp)
theorem Sj {o:Nat} (h:o≤1000000):IntKind.i64.wrap (Int.tdiv (IntKind.i64.wrap ((o:Int)+1)) 2)=(((o+1)/2:Nat):Int):=by
 rw[jd (x:=(o:Int)+1) (by omega) (by omega),Int.tdiv_eq_ediv_of_nonneg (by omega),jd (by omega) (by omega)];omega
variable {o:Nat}
theorem HW (ht:H t=some ⟨jO,(some n,root,(o:Int),many)⟩) (hn:H n=some ⟨dd,v⟩) (ha:Ar v f u) {i:Nat} {x:Nd} (hf:f i=some x) (h1:x.1=true→x.2.1.length≤o) (h2:x.1=false→x.2.2.1.length≤o)
 {K:HT [(false,.row .byte),(false,.one (.int .i64)),(false,.one .bool)]→HP→Prop} (hk:K ([],0,false,()) H):JQ (some t) (i:Int) H K:=yo _ _ _ _ (by
 unfold N0
 refine ay (aH ht (qj hn ha hf (ay (aH ht ⟨by decide,?_⟩))))
 obtain⟨lf,ps,ks,kd,nx⟩:=x
 dsimp only at h1 h2
 cases lf with
 |true=>
  refine cd rfl (au fun _=>ay (aH ht (CL (fun h=>?_) fun _=>bP rfl hk)))
  have:=h1 rfl;dsimp only at h;omega
 |false=>
  refine bP rfl (cd rfl (au fun _=>ay (aH ht (CL (fun h=>?_) fun _=>hk))))
  have:=h2 rfl;dsimp only at h;omega)
theorem s5 (ht:H t=some ⟨jO,(some n,root,order,many)⟩) (hn:H n=some ⟨dd,v⟩) (ha:Ar v f u) {i:Nat} {y:Nd} (hf:f i=some y) {x:Nd} (hx:iY x) {K:HT []→HP→Prop} (hk:∀v',Ar v' (dA f i (some x)) u→K () (H.set n dd v')):z0 (some t) (i:Int) x H K:=by
 obtain⟨l,th,fr⟩:=v
 refine ahs ht hn ha.len x hx _ (by rw[ha.qY,hf];rfl) _ ?_
 rw[Int.toNat_natCast]
 exact hk _ (ha.set hf hx)
theorem Lj (ht:H t=some ⟨jO,(some n,root,(o:Int),many)⟩) (hn:H n=some ⟨dd,v⟩) (ha:Ar v f u) (hu:u<1000000) (ho:o≤1000) {i:Nat} {ps:List Pr} {ks:List Key} {kd:List Int} {nx:Int} (hf:f i=some (true,ps,ks,kd,nx)) (hp:o<ps.length) {p:Pr} (hpm:ps[(o+1)/2]?=some p)
 {K:HT [(false,.row .byte),(false,.one (.int .i64)),(false,.one .bool)]→HP→Prop} (hk:∀(q:Nat) v',f q=none→Ar v' (dA (dA f q (some (true,ps.drop ((o+1)/2),[],[],nx))) i (some (true,ps.take ((o+1)/2),ks,kd,(q:Int)))) (u+1)→K (p.1,(q:Int),true,()) (H.set n dd v')):JQ (some t) (i:Int) H K:=yo _ _ _ _ (by
 unfold N0
 have aY:=(List.getElem?_eq_some_iff.1 hpm).1
 have bb:=p_ ht hn
 have cJ:=ha.iq hf
 refine ay (aH ht (qj hn ha hf (ay (aH ht ⟨by decide,?_⟩))))
 dsimp only
 rw[Sj (by omega)]
 refine cd rfl (au fun _=>ay (aH ht (CL (fun h=>?_) fun h=>by omega)))
 refine gj (a:=(o+1)/2) (b:=ps.length) rfl rfl (by omega) (Nat.le_refl _) ?_
 rw[fT]
 refine ay (aH ht (Dw hn ha hu (tF (y:=(true,ps.drop ((o+1)/2),[],[],nx)) cJ (List.drop_sublist _ _) (List.nil_sublist _) (by simp)) fun q v' hq iS=>?_))
 refine gj (a:=0) (b:=(o+1)/2) rfl rfl (Nat.zero_le _) (by omega) ?_
 rw[sub_zero,Nat.sub_zero]
 have EK:i≠q:=fun e=>by rw[←e,hf] at hq;cases hq
 refine s5 (by rw[cp _ _ _ bb];exact ht) (bU _ _ _ _) iS (i:=i) (y:=(true,ps,ks,kd,nx)) (by rw[cE _ _ EK];exact hf) (tF (y:=(true,ps.take ((o+1)/2),ks,kd,(q:Int))) cJ (List.take_sublist _ _) (List.Sublist.refl _) cJ.kids) fun RP adg=>?_
 refine b_ (i:=0) rfl (x:=p) (by rw[List.getElem?_drop,Nat.add_zero];exact hpm) ?_
 rw[h_]
 exact hk q RP hq adg)
theorem Lk (ht:H t=some ⟨jO,(some n,root,(o:Int),many)⟩) (hn:H n=some ⟨dd,v⟩) (ha:Ar v f u) (hu:u<1000000) (ho:o≤1000) {i:Nat} {ps:List Pr} {ks:List Key} {kd:List Int} {nx:Int} (hf:f i=some (false,ps,ks,kd,nx)) (hp:o<ks.length) (hl:kd.length=ks.length+1) {p:Key} (hpm:ks[(o+1)/2]?=some p)
 {K:HT [(false,.row .byte),(false,.one (.int .i64)),(false,.one .bool)]→HP→Prop} (hk:∀(q:Nat) v',f q=none→Ar v' (dA (dA f q (some (false,[],ks.drop ((o+1)/2+1),kd.drop ((o+1)/2+1),0))) i (some (false,ps,ks.take ((o+1)/2),kd.take ((o+1)/2+1),nx))) (u+1)→K (p,(q:Int),true,()) (H.set n dd v')):JQ (some t) (i:Int) H K:=yo _ _ _ _ (by
 unfold N0
 have aY:=(List.getElem?_eq_some_iff.1 hpm).1
 have bb:=p_ ht hn
 have cJ:=ha.iq hf
 have zw:=cJ.kids
 dsimp only at zw
 refine ay (aH ht (qj hn ha hf (ay (aH ht ⟨by decide,?_⟩))))
 dsimp only
 rw[Sj (by omega),w1 (by omega)]
 refine bP rfl (cd rfl (au fun _=>ay (aH ht (CL (fun h=>?_) fun h=>by omega))))
 refine b_ (i:=(o+1)/2) rfl hpm (ay (aH ht ?_))
 refine gj (a:=(o+1)/2+1) (b:=ks.length) rfl rfl (by omega) (Nat.le_refl _) ?_
 refine gj (a:=(o+1)/2+1) (b:=kd.length) rfl rfl (by omega) (Nat.le_refl _) ?_
 rw[fT,fT]
 refine Dw hn ha hu (tF (y:=(false,[],ks.drop ((o+1)/2+1),kd.drop ((o+1)/2+1),0)) cJ (List.nil_sublist _) (List.drop_sublist _ _) (by simp only[List.length_drop];omega)) fun q v' hq iS=>?_
 refine gj (a:=0) (b:=(o+1)/2) rfl rfl (Nat.zero_le _) (by omega) ?_
 refine gj (a:=0) (b:=(o+1)/2+1) rfl rfl (Nat.zero_le _) (by omega) ?_
 rw[sub_zero,sub_zero,Nat.sub_zero,Nat.sub_zero]
 have EK:i≠q:=fun e=>by rw[←e,hf] at hq;cases hq
 refine s5 (by rw[cp _ _ _ bb];exact ht) (bU _ _ _ _) iS (i:=i) (y:=(false,ps,ks,kd,nx)) (by rw[cE _ _ EK];exact hf) (tF (y:=(false,ps,ks.take ((o+1)/2),kd.take ((o+1)/2+1),nx)) cJ (List.Sublist.refl _) (List.take_sublist _ _) (by simp only[List.length_take];omega)) fun RP adg=>?_
 rw[h_]
 exact hk q RP hq adg)
theorem Uq (ht:H t=some ⟨jO,(some n,root,(o:Int),many)⟩) (hn:H n=some ⟨dd,v⟩) (ha:Ar v f u) (hu:u<1000000) (h3:3≤o) (ho:o≤1000) {h lo:Nat} {s:Tr h} (hr:fR f s) (eF:(ids s).Nodup) (hz:Sz o lo (o+1) s)
 {K:HT [(false,.row .byte),(false,.one (.int .i64)),(false,.one .bool)]→HP→Prop} (h0:s.size≤o→K ([],0,false,()) H)
 (h1:∀(q:Nat) v' f' t1 k t2,f q=none→Ar v' f' (u+1)→Spl f f' s q t1 k t2→(∀j,j≠q→j≠s.id→f' j=f j)→Sz o (o/2) o t1→Sz o (o/2) o t2→K (k,(q:Int),true,()) (H.set n dd v')):JQ (some t) (s.id:Int) H K:=by
 have ed:=hz.size
 by_cases kv:s.size≤o
 ·cases h with
  |zero=>
   obtain⟨j,ps,rfl⟩:=s.sm
   obtain⟨ks,kd,nx,hf⟩:=gp.1 hr
   exact HW ht hn ha hf (fun _=>kv) (fun h=>by cases h) (h0 kv)
  |succ h=>
   obtain⟨j,ks,l,rfl⟩:=s.sn
   obtain⟨⟨ps,nx,hf⟩,_⟩:=bV.1 hr
   exact HW ht hn ha hf (fun h=>by cases h) (fun _=>kv) (h0 kv)
 ·cases h with
  |zero=>
   obtain⟨j,ps,rfl⟩:=s.sm
   obtain⟨ks,kd,nx,hf⟩:=gp.1 hr
   have hl:ps.length=o+1:=by have:=ed.2;have:(Tr.lf j ps).size=ps.length:=rfl;omega
   have hm:=List.getElem?_eq_getElem (show(o+1)/2<ps.length by omega)
   refine Lj ht hn ha hu ho hf (by omega) hm fun q v' hq iS=>h1 q v' _ _ _ _ hq iS (Ui hf (fun e=>by rw[e,hf] at hq;cases hq) hm (by omega)) (fun i h1 (h2:i≠j)=>by rw[cE _ _ h2,cE _ _ h1]) (gq.2 ?_) (gq.2 ?_)
   ·rw[List.length_take];omega
   ·rw[List.length_drop];omega
  |succ h=>
   obtain⟨j,ks,l,rfl⟩:=s.sn
   obtain⟨⟨ps,nx,hf⟩,_⟩:=bV.1 hr
   obtain⟨_,_,e1,e2⟩:=e8.1 hz
   have hl:ks.length=o+1:=by have:=ed.2;have:(Tr.nd j ks l).size=ks.length:=rfl;omega
   have hm:=List.getElem?_eq_getElem (show(o+1)/2<ks.length by omega)
   refine Lk ht hn ha hu ho hf (by omega) (by rw[List.length_map];omega) hm fun q v' hq iS=>h1 q v' _ _ _ _ hq iS (Uj hr hf eF (fun hm=>by have:=nk hr q hm;rw[hq] at this;cases this) e1 hm) (fun i h1 (h2:i≠j)=>by rw[cE _ _ h2,cE _ _ h1]) (e8.2 ⟨?_,?_,?_,fun x hx=>e2 x (List.mem_of_mem_take hx)⟩) (e8.2 ⟨?_,?_,?_,fun x hx=>e2 x (List.mem_of_mem_drop hx)⟩)<;>simp only[List.length_take,List.length_drop]<;>omega
end
def Fm (S:List Nat) (H H':HP):Prop:=∀m,m∉S→H' m=H m
theorem Fm.refl (S:List Nat) (H:HP):Fm S H H:=fun _ _=>rfl
theorem Fm.trans {S:List Nat} {H H' tO:HP} (h:Fm S H H') (k:Fm S H' tO):Fm S H tO:=fun m hm=>(k m hm).trans (h m hm)
theorem Fm.set {S:List Nat} {H H':HP} (h:Fm S H H') {n:Nat} (hn:n∈S) (k:AK) (x:k.T):Fm S H (H'.set n k x):=fun m hm=>by
 rw[cp _ _ _ (fun e=>hm (by rw[e];exact hn))];exact h m hm
structure TI (H:HP) (t n o:Nat) (many:Int) {hh:Nat} (T:Tr hh) (v:uD) (f:Nat→Option Nd) (u:Nat):Prop where
 ht:H t=some ⟨jO,(some n,(T.id:Int),(o:Int),many)⟩
 hn:H n=some ⟨dd,v⟩
 ar:Ar v f u
 cG:jw f u T
 sz:Sz o ((.top:Ctx hh hh).lo o) o T
def fE (H:HP) (t n o:Nat) (ps:List Pr) (many:Int):Prop:=∃(hh:Nat) (T:Tr hh) (v:uD) (f:Nat→Option Nd) (u:Nat),TI H t n o many T v f u∧aR T=ps
theorem fE.fm {H H':HP} {t n o:Nat} {ps:List Pr} {many:Int} {S:List Nat} (h:fE H t n o ps many) (hf:Fm S H H') (h1:t∉S) (h2:n∉S):fE H' t n o ps many:=by
 obtain⟨hh,T,v,f,u,⟨a,b,c,d,e⟩,g⟩:=h
 exact⟨hh,T,v,f,u,⟨by rw[hf t h1];exact a,by rw[hf n h2];exact b,c,d,e⟩,g⟩
theorem HC {o:Nat}:∀{h lo hi:Nat} {t:Tr h},Sz o lo hi t→h+1≤(ids t).length
 |0,_,_,t,_=>by obtain⟨i,ps,rfl⟩:=t.sm;simp
 |h+1,_,_,t,hz=>by
  obtain⟨i,ks,l,rfl⟩:=t.sn
  obtain⟨_,_,h1,h2⟩:=e8.1 hz
  cases l with
  |nil=>simp at h1
  |cons x l=>
   have:=HC (h2 x (by simp))
   simp only[ki,List.map_cons,List.flatten_cons,List.length_cons,List.length_append]
   omega
theorem sX:∀{h H:Nat} (c:Ctx h H) (t t':Tr h),t.id=t'.id→(aZ c t).id=(aZ c t').id
 |_,_,.top,t,t',h=>h
 |_,_,.down c f,t,t',h=>by rw[aZ,aZ];exact sX c _ _ rfl
theorem Ee {k:Key} (h:gC k=true):k.length≤16:=by
 unfold gC at h;simp only[Bool.and_eq_true,decide_eq_true_eq] at h;exact h.2
theorem De {o h H:Nat} (c:Ctx h H) (h3:3≤o):1≤c.lo o∨h=0:=by
 cases c with
 |top=>
  by_cases e:h=0
  ·exact .inr e
  ·left;simp[Ctx.lo,e]
 |down c f=>left;simp[Ctx.lo];omega
theorem ahw {H:HP} {t n u o:Nat} {many:Int} {v:uD} {f:Nat→Option Nd} {hh h0:Nat} {c0:Ctx h0 hh} {s0:Tr h0} (h3:3≤o) (vM:o≤16)
 (ht:H t=some ⟨jO,(some n,((aZ c0 s0).id:Int),(o:Int),many)⟩) (hn:H n=some ⟨dd,v⟩) (ha:Ar v f u) (hm:jw f u (aZ c0 s0)) (hc:c0.Sz o) (hz:Sz o (c0.lo o) (o+1) s0) (hb:(aR (aZ c0 s0)).length≤100000)
 {K:HT []→HP→Prop} (hk:∀H',Fm [t,n] H H'→fE H' t n o (aR (aZ c0 s0)) many→K () H'):O.Ny (some t) ((c0.path++[s0.id]).map (fun j:Nat=>(j:Int))) H K:=O.SJ _ _ _ _ (by
 unfold O.ace
 refine au fun _=>?_
 have Vz:=p_ ht hn
 have aaG:c0.path.length≤1000000:=by
  have h1:=gz c0 s0
  have h2:=adb (o:=o) (by omega) hc hz (De c0 h3)
  rw[h1.length_eq,List.length_append] at h2
  have h4:∀{h H:Nat} (c:Ctx h H),c.path.length≤c.ids.length:=by
   intro h H c
   induction c with
   |top=>simp[Ctx.path,Ctx.ids]
   |down c f ih=>simp only[Ctx.path,Ctx.ids,List.length_append,List.length_cons,List.length_nil];omega
  have:=h4 c0
  omega
 refine gY c0.path.length (fun i st H'=>Fm [t,n] H H'∧∃(h:Nat) (c:Ctx h hh) (s:Tr h) (v:uD) (f:Nat→Option Nd) (u:Nat) (rest:List Nat),c.path.length+i=c0.path.length∧c0.path++[s0.id]=c.path++s.id::rest∧st=((some t,(c0.path++[s0.id]).map (fun j:Nat=>(j:Int)),(c.path.length:Int),()),())∧H' t=some ⟨jO,(some n,((aZ c s).id:Int),(o:Int),many)⟩∧H' n=some ⟨dd,v⟩∧Ar v f u∧jw f u (aZ c s)∧c.Sz o∧Sz o (c.lo o) (o+1) s∧aR (aZ c s)=aR (aZ c0 s0))
  ⟨Fm.refl _ _,h0,c0,s0,v,f,u,[],rfl,rfl,?_,ht,hn,ha,hm,hc,hz,rfl⟩ ?_
 ·rw[List.length_map,List.length_append,List.length_singleton,jd (by omega) (by omega)]
  rw[show(((c0.path.length+1:Nat):Int)- 1)=c0.path.length from by omega]
 rintro i st H' C hi ⟨wE,h,c,s,v,f,u,rest,xU,hw,rfl,ht,hn,ha,hm,hc,hz,bF⟩ hC
 dsimp only at hC⊢
 have bb:=p_ ht hn
 have hu:u<900000:=by
  have h2:=adb (o:=o) (by omega) hc hz (De c h3)
  rw[hm.used];rw[bF] at h2;omega
 refine cd (by simp) ?_
 have dZ:((c0.path++[s0.id]).map (fun j:Nat=>(j:Int)))[c.path.length]?=some (s.id:Int):=by
  rw[hw,List.getElem?_map,List.getElem?_append_right (Nat.le_refl _),Nat.sub_self];rfl
 refine b_ rfl dZ ?_
 have iO:=gz c s
 have eF:(c.ids++ids s).Nodup:=(iO.nodup_iff).1 hm.nd
 refine Uq ht hn ha (by omega) h3 (by omega) ((en c s).1 hm.rep).2 (List.nodup_append.1 eF).2.1 hz (fun ed=>?_) fun q v1 f1 t1 k t2 hq Hw hs PU Wv hz2=>?_
 ·refine cd rfl (hk _ wE ⟨hh,aZ c s,v,f,u,⟨ht,hn,ha,hm,xB c s hc (hz.to hz.size.1 ed)⟩,bF⟩)
 refine bP rfl ?_
 have EK:=hm.fresh hq
 cases c with
 |top=>
  refine cd (by simp[Ctx.path]) ?_
  refine ay (aH (x:=(some n,((aZ (.top:Ctx hh hh) s).id:Int),(o:Int),many)) (by rw[cp _ _ _ bb];exact ht) ?_)
  have aul:((c0.path++[s0.id]).map (fun j:Nat=>(j:Int)))[0]?=some (s.id:Int):=dZ
  refine b_ (i:=0) rfl aul ?_
  have alK:k.length≤16:=Ee (hs.ok (by simpa[aZ] using hm.ok) (.s k) (by simp))
  refine Dw (f:=f1) (u:=u+1) (bU _ _ _ _) Hw (by omega) (x:=(false,[],[k],[(s.id:Int),(q:Int)],0)) ⟨by simp,by simp,by simp,by simp,by simp;omega⟩ fun r v2 hr CX=>?_
  have hrq:r≠q:=fun e=>by
   have h1:=nk hs.KA q (by rw[←hs.id2];exact jx t2)
   rw[←e,hr] at h1;cases h1
  have CN:r∉ids s:=fun CN=>by
   have h1:r∈ids t1++ids t2:=(hs.perm.mem_iff).2 (List.mem_cons.2 (.inr CN))
   rcases List.mem_append.1 h1 with h1|h1
   ·have:=nk hs.P_ r h1;rw[hr] at this;cases this
   ·have:=nk hs.KA r h1;rw[hr] at this;cases this
  obtain⟨m2,e2⟩:=jw.root (f:=f) (f':=f1) (ps:=[]) (nx:=0) (r:=r) hm hs EK CN hrq
  rw[h_]
  refine ay (aH (x:=(some n,((aZ (.top:Ctx hh hh) s).id:Int),(o:Int),many)) (by rw[cp _ _ _ bb];exact ht) ?_)
  refine hk _ ((wE.set (by simp) _ _).set (by simp) _ _) ⟨hh+1,Tr.nd r [k] [t1,t2],v2,_,_,⟨bU _ _ _ _,by rw[cp _ _ _ bb.symm];exact bU _ _ _ _,CX,m2,?_⟩,e2.trans bF⟩
  refine e8.2 ⟨by simp[Ctx.lo],by simp;omega,by simp,fun x hx=>?_⟩
  simp only[List.mem_cons,List.not_mem_nil,or_false] at hx
  rcases hx with rfl|rfl
  ·exact Wv
  ·exact hz2
 |down c fr=>
  have o7:(Ctx.down c fr).path.length=c.path.length+1:=by simp[Ctx.path]
  refine bP (by rw[o7];simp;omega) ?_
  refine ay (aH (x:=(some n,((aZ (Ctx.down c fr) s).id:Int),(o:Int),many)) (by rw[cp _ _ _ bb];exact ht) ?_)
  have alL:((c0.path++[s0.id]).map (fun j:Nat=>(j:Int)))[c.path.length]?=some (fr.id:Int):=by
   rw[hw,List.getElem?_map,Ctx.path,List.append_assoc,List.getElem?_append_right (Nat.le_refl _),Nat.sub_self];rfl
  have hdi:IntKind.i64.wrap (((Ctx.down c fr).path.length:Int)- 1)=(c.path.length:Nat):=by
   rw[o7,jd (by omega) (by omega)];omega
  rw[hdi]
  refine b_ rfl alL ?_
  obtain⟨z1,z2,e1,e2,z5,z6,z7⟩:=iZ.1 hc
  obtain⟨⟨ps0,nx0,AZ⟩,_,_,_⟩:=q5.1 ((en _ s).1 hm.rep).1
  have aaO:fr.id∈(Ctx.down c fr).ids:=by simp[Ctx.ids]
  have aum:fr.id≠q:=fun e=>EK ((iO.mem_iff).2 (List.mem_append.2 (.inl (by rw[←e];exact aaO))))
  have aun:fr.id≠s.id:=fun e=>(List.nodup_append.1 eF).2.2 _ aaO _ (jx s) e
  have adh:f1 fr.id=some (false,ps0,fr.kl++fr.kr,fr.L.map (fun k=>(k.id:Int))++(s.id:Int)::fr.R.map (fun k=>(k.id:Int)),nx0):=by rw[PU _ aum aun];exact AZ
  obtain⟨m2,e3⟩:=jw.grow (ps:=ps0) (nx:=nx0) hm hc hs EK PU
  have alK:gC k=true:=by
   refine m2.ok (.s k) ?_
   rw[eU c _ z7]
   simp only[Fr.oT,r9,List.map_append,List.map_cons]
   rw[lY _ _ _ (by rw[e1,List.length_map]),yZ]
   simp
  have hsk:bO (fr.kl++k::fr.kr):=by
   have:=m2.ord
   rw[eU c _ z7] at this
   have:=(List.pairwise_append.1 (List.pairwise_append.1 this).1).2.1
   exact tB (ls:=(fr.L++t1::t2::fr.R).map fl) (by simp;omega) this
  have alM:=uG.1 hsk
  have auo:bO (fr.kl++fr.kr):=List.Pairwise.sublist (List.Sublist.append_left (List.sublist_cons_self _ _) _) hsk
  have hub:iI (fr.kl++fr.kr) k=fr.kl.length:=by
   refine Jw (by simp) (fun j x hj hx=>?_) fun x hx=>?_
   ·rw[List.getElem?_append_left hj] at hx
    exact fc (alM.2.2 x (List.mem_of_getElem? hx) k (by simp))
   ·rw[List.getElem?_append_right (Nat.le_refl _),Nat.sub_self] at hx
    exact(List.pairwise_cons.1 alM.2.1).1 x (List.mem_of_getElem? hx)
  refine k6 (f:=f1) (bU _ _ _ _) Hw adh ?_
  have VI:=Hw.iq adh
  refine ai _ (aaN (x:=(false,ps0,fr.kl++fr.kr,fr.L.map (fun k=>(k.id:Int))++(s.id:Int)::fr.R.map (fun k=>(k.id:Int)),nx0)) auo VI.keys) ?_
  dsimp only
  rw[hub]
  refine RZ _ _ _ (by simp) (by simp;omega) ?_
  rw[w1 (by omega)]
  refine R0 _ _ _ (by simp;omega) (by simp;omega) ?_
  refine b_ rfl alL ?_
  have l1:List.take fr.kl.length (fr.kl++fr.kr)++[k]++List.drop fr.kl.length (fr.kl++fr.kr)=fr.kl++k::fr.kr:=by
   rw[List.take_left',List.drop_left']<;>simp
  have l2:∀(A B:List Int) (a b:Int) (m:Nat),A.length=m→List.take (m+1) (A++a::B)++[b]++List.drop (m+1) (A++a::B)=A++a::b::B:=by
   intro A B a b m hm
   have:A++a::B=(A++[a])++B:=by simp
   rw[this,List.take_left' (by simp[hm]),List.drop_left' (by simp[hm])]
   simp
  rw[l1,l2 _ _ _ _ _ (by rw[List.length_map,e1])]
  refine s5 (root:=((aZ (Ctx.down c fr) s).id:Int)) (many:=many) (order:=(o:Int)) (by rw[cp _ _ _ bb];exact ht) (bU _ _ _ _) Hw adh (x:=(false,ps0,fr.kl++k::fr.kr,fr.L.map (fun k=>(k.id:Int))++(s.id:Int)::(q:Int)::fr.R.map (fun k=>(k.id:Int)),nx0)) ⟨by simp;omega,VI.lK,by simp;omega,VI.short,fun x hx=>?_⟩ fun v2 CX=>?_
  ·have Ao:=VI.low
   simp only[List.mem_append,List.mem_cons] at hx Ao
   rcases hx with hx|rfl|hx
   ·exact Ao x (.inl hx)
   ·have:=Ee alK;omega
   ·exact Ao x (.inr hx)
  rw[h_]
  have cP:(aZ c (fr.oT t1 k t2)).id=(aZ (Ctx.down c fr) s).id:=by
   rw[aZ];exact sX c _ _ rfl
  refine hC (by rw[o7] at xU;omega) _ _ ⟨wE.set (by simp) _ _,h+1,c,fr.oT t1 k t2,v2,_,_,s.id::rest,by rw[o7] at xU;omega,?_,rfl,by rw[cp _ _ _ bb,cP];exact ht,bU _ _ _ _,CX,m2,z7,?_,e3.trans bF⟩
  ·rw[hw,Ctx.path,List.append_assoc];rfl
  ·refine e8.2 ⟨?_,?_,?_,fun x hx=>?_⟩
   ·simp;omega
   ·simp;omega
   ·simp;omega
   ·simp only[List.mem_append,List.mem_cons] at hx
    rcases hx with hx|rfl|rfl|hx
    ·exact z5 x hx
    ·exact Wv
    ·exact hz2
    ·exact z6 x hx)
section
variable {H:HP} {t n u o:Nat} {many:Int} {v:uD} {f:Nat→Option Nd} {hh:Nat} {T:Tr hh}
theorem TI.row (h:TI H t n o many T v f u):cH (aR T):=by rw[←kj];exact Mv h.cG.ord h.cG.ok
theorem TI.cnt (h:TI H t n o many T v f u) (h3:3≤o):u≤2*(aR T).length+1:=by
 have:=adb (o:=o) (c:=(.top:Ctx hh hh)) (by omega) trivial h.sz (De _ h3)
 rw[h.cG.used];exact this
theorem TI.high (h:TI H t n o many T v f u) (h3:3≤o):hh≤2*(aR T).length:=by
 have h1:=HC h.sz
 have h2:=h.cnt h3
 rw[h.cG.used] at h2
 omega
theorem TI.loc (h:TI H t n o many T v f u) (k:Key):∃(c:Ctx 0 hh) (i:Nat) (ps:List Pr) (ks:List Key) (kd:List Int) (nx:Int),aZ c (Tr.lf i ps)=T∧Dk T k=c.path++[i]∧c.Sz o∧Sz o (c.lo o) o (Tr.lf i ps)∧(∀x∈c.l,CY k x)∧(∀x∈c.r,Jp k x)∧f i=some (true,ps,ks,kd,nx):=by
 obtain⟨c,i,ps,h1,h2,h3,h4,h5,h6⟩:=Th.loc k (.top:Ctx hh hh) T trivial h.sz h.cG.ord (by simp[Ctx.l]) (by simp[Ctx.r])
 have hr:=h.cG.rep
 rw[show T=aZ .top T from rfl,←h1] at hr
 obtain⟨ks,kd,nx,hf⟩:=gp.1 ((en c _).1 hr).2
 exact⟨c,i,ps,ks,kd,nx,h1,by rw[h2];rfl,h3,h4,h5,h6,hf⟩
theorem TI.all (h:TI H t n o many T v f u) {c:Ctx 0 hh} {i:Nat} {ps:List Pr} (h1:aZ c (Tr.lf i ps)=T) (h3:c.Sz o):aR T=dt c.l++ps++dt c.r:=by rw[←h1,qZ h3,qd]
def KE {hh:Nat} (T:Tr hh) (k:Key):Nat:=(Dk T k).getLastD 0
theorem Sk (h:TI H t n o many T v f u) (h3:3≤o) (hb:(aR T).length≤100000) (k:Key) {K:HT [(false,.row (.one (.int .i64)))]→HP→Prop} (hk:K ((Dk T k).map (fun j:Nat=>(j:Int)),()) H):C79 (some t) k H K:=
 amZ h.ht h.hn h.ar rfl h.cG.rep h.sz h.cG.ord (by have:=h.high h3;omega) k hk
theorem tG {hh:Nat} {T:Tr hh} {k:Key} {p:List Nat} {i:Nat} (h:Dk T k=p++[i]):KE T k=i:=by unfold KE;rw[h,List.getLastD_concat]
theorem Ef (h:TI H t n o many T v f u) (h3:3≤o) (hb:(aR T).length≤100000) (k:Key) {K:HT [(false,.one (.int .i64))]→HP→Prop} (hk:K ((KE T k:Nat),()) H):C55 (some t) k H K:=W7 _ _ _ _ (by
 unfold A55
 obtain⟨c,i,ps,ks,kd,nx,h1,h2,h4,h5,h6,h7,hf⟩:=h.loc k
 rw[tG h2] at hk
 have hl:=Ea (k:=k) h.sz
 have Wu:=h.high h3
 have EC:c.path.length+1=hh+1:=by rw[h2,List.length_append] at hl;exact hl
 refine k5 _ (fun K' bW=>Sk h h3 hb k bW) (au fun _=>?_)
 refine b_ (i:=c.path.length) ?_ (x:=(i:Int)) ?_ hk
 ·simp only[List.length_map,h2,List.length_append,List.length_singleton]
  rw[jd (by omega) (by omega)];omega
 ·rw[List.getElem?_map,h2,List.getElem?_append_right (Nat.le_refl _),Nat.sub_self];rfl)
theorem Df {o:Nat} {T:Tr hh} {f:Nat→Option Nd} {u:Nat} (hm:jw f u T) {c:Ctx 0 hh} {i:Nat} {ps:List Pr} (h1:aZ c (Tr.lf i ps)=T) (hc:c.Sz o):cH ps:=by
 have ho:=hm.ord
 have cJ:=hm.ok
 rw[←h1,eU c _ hc] at ho cJ
 have:=Mv (List.pairwise_append.1 (List.pairwise_append.1 ho).1).2.1 fun x hx=>cJ x (List.mem_append.2 (.inl (List.mem_append.2 (.inr hx))))
 rwa [qg,qh] at this
theorem ahx (h:TI H t n o many T v f u) (h3:3≤o) (hb:(aR T).length≤100000) (k:Key) {K:HT [(false,.row .byte),(false,.one .bool)]→HP→Prop} (hk:K ((dY (aR T) k).getD [],cK (aR T) k,()) H):C85 (some t) k H K:=W8 _ _ _ _ (by
 unfold A85
 obtain⟨c,i,ps,ks,kd,nx,h1,h2,h4,h5,h6,h7,hf⟩:=h.loc k
 have hr:=Df h.cG h1 h4
 have ha:=h.all h1 h4
 have zE:=Dg h6 h7
 rw[ha,zE.get,zE.has] at hk
 have o7:ps.length≤100000:=by rw[ha] at hb;simp at hb;omega
 refine ay (aH h.ht (k5 _ (fun K' bW=>Ef h h3 hb k bW) ?_))
 rw[tG h2]
 refine qj h.hn h.ar hf (ai _ (yl ps k hr.sort (by omega)) ?_)
 dsimp only
 have hg:=yi hr.sort k
 refine bN (fun hh=>?_) fun hh=>?_
 ·unfold cK at hh hk
  rw[Option.isSome_eq_false_iff,Option.isNone_iff_eq_none] at hh
  rw[hh] at hk;exact hk
 ·obtain⟨p,hp,he⟩:=xL hr.sort hh
  refine b_ rfl hp ?_
  rw[hg,hp,hh] at hk
  simp only[he,if_true] at hk
  exact hk)
theorem Eg {f:Nat→Option jf}:∀{h:Nat} {t:Tr h},fR f t→∀a∈de t,∃ks kd nx,f a.1=some (true,a.2,ks,kd,nx)
 |0,t,hr,a,ha=>by
  obtain⟨i,ps,rfl⟩:=t.sm
  simp at ha
  subst ha
  exact gp.1 hr
 |h+1,t,hr,a,ha=>by
  obtain⟨i,ks,l,rfl⟩:=t.sn
  obtain⟨_,h2⟩:=bV.1 hr
  simp only[uH,List.mem_flatten,List.mem_map] at ha
  obtain⟨_,⟨x,hx,rfl⟩,ha⟩:=ha
  exact Eg (h2 x hx) a ha
theorem Sm {o:Nat}:∀{h H:Nat} {c:Ctx h H},c.Sz o→c.l=[]→c.ll=[]
 |_,_,.top,_,_=>rfl
 |_,_,.down c f,hc,hl=>by
  obtain⟨_,_,e1,_,_,_,h7⟩:=iZ.1 hc
  simp only[Ctx.l,List.append_eq_nil_iff] at hl
  have:f.L=[]:=by
   cases hL:f.L with
   |nil=>rfl
   |cons x l=>
    cases hk:f.kl with
    |nil=>rw[hL,hk] at e1;simp at e1
    |cons k ks=>rw[hL,hk] at hl;simp[Th.pre] at hl
  simp[Ctx.ll,Sm h7 hl.1,this]
theorem TI.first (h:TI H t n o many T v f u):∃ps rest,de T=(KE T [],ps)::rest:=by
 obtain⟨c,i,ps,ks,kd,nx,h1,h2,h4,h5,h6,h7,hf⟩:=h.loc []
 have cJ:=h.cG.ok
 rw[←h1,eU c _ h4] at cJ
 have hl:c.l=[]:=by
  cases hc:c.l with
  |nil=>rfl
  |cons x l=>
   have hb:=h6 x (by rw[hc];simp)
   have hx:=cJ x (by rw[hc];simp)
   cases x with
   |p a=>simp only[CY] at hb;rw[Le] at hb;cases hb
   |s s=>
    simp only[CY] at hb
    rw[Lf (fun e=>by subst e;cases hx)] at hb;cases hb
 have:=lZ c (Tr.lf i ps)
 rw[h1,Sm h4 hl] at this
 exact⟨ps,c.lr,by rw[this,tG h2];rfl⟩
theorem Ur (h:TI H t n o many T v f u) (h3:3≤o) (hb:(aR T).length≤100000) {K:HT [(false,.row (.cons (.row .byte) (.row .byte)))]→HP→Prop} (hk:K (aR T,()) H):C28 (some t) H K:=W9 _ _ _ (by
 unfold A28
 obtain⟨ps0,ayz,ahy⟩:=h.first
 have Dx:=h.cG.yh
 have dZ:∀i a,(de T)[i]?=some a→∃ks kd,f a.1=some (true,a.2,ks,kd,hd ((de T).drop (i+1)) (-1)):=fun i a hi=>by
  obtain⟨ks,kd,nx,hf⟩:=Eg h.cG.rep a (List.mem_of_getElem? hi)
  have aY:=(List.getElem?_eq_some_iff.1 hi).1
  have e:=Dl aY
  rw[e,gH] at Dx
  have h5:=Dx.2.1
  rw[(List.getElem?_eq_some_iff.1 hi).2] at h5
  unfold gX at h5
  rw[hf] at h5
  simp only at h5
  rw[←h5]
  exact⟨ks,kd,hf⟩
 refine k5 _ (fun K' bW=>Ef h h3 hb [] bW) ?_
 refine cN (de T).length (fun i=>((some t,((de T).take i).flatMap (·.2),hd ((de T).drop i) (-1),()),())) (fun _=>True) (by rw[ahy];rfl) trivial fun i C hi _ hC=>?_
 dsimp only at hC⊢
 rcases Nat.lt_or_ge i (de T).length with h1|h1
 ·have hx:=List.getElem?_eq_getElem h1
  obtain⟨ks,kd,hf⟩:=dZ i _ hx
  have bo:(de T).drop i=(de T)[i]::(de T).drop (i+1):=(List.getElem_cons_drop h1).symm
  rw[bo]
  have hlen:(((de T).take (i+1)).flatMap (·.2)).length≤(aR T).length:=by
   have e:aR T=((de T).take (i+1)).flatMap (·.2)++((de T).drop (i+1)).flatMap (·.2):=by
    rw[←List.flatMap_append,List.take_append_drop];rfl
   rw[e,List.length_append];omega
  have e2:((de T).take (i+1)).flatMap (·.2)=((de T).take i).flatMap (·.2)++(de T)[i].2:=by
   rw[List.take_succ_eq_append_getElem h1,List.flatMap_append];simp
  rw[e2,List.length_append] at hlen
  have hC:=hC h1 trivial
  rw[e2] at hC
  refine cd (by simp[hd]) (ay (aH h.ht (qj h.hn h.ar (i:=(de T)[i].1) hf (bN (fun h=>by cases h) fun _=>bM (by dsimp only;omega) hC))))
 ·have:i=(de T).length:=by omega
  subst this
  rw[List.drop_length,List.take_length]
  exact bP (by simp[hd]) hk)
theorem ahz (o:Int) {H:HP} {K:HT [(false,.ref),(false,.one .any)]→HP→Prop} (h0:(o<3∨16<o)→K (none,eC 1,()) H)
 (h1:∀(q:Nat) t n H',o=q→3≤q→q≤16→H t=none→H n=none→t≠n→Fm [t,n] H H'→fE H' t n q [] 0→K (some t,.nilIface,()) H'):C17 o H K:=W4 _ _ _ (by
 unfold A17
 refine fW (fun h=>h0 (.inl h)) fun h=>fW (fun h'=>h0 (.inr h')) fun h'=>?_
 have h:¬o<3:=h
 have h':¬o>16:=h'
 obtain⟨q,rfl⟩:∃q:Nat,o=q:=⟨o.toNat,by omega⟩
 refine ahr _ fun n hn=>?_
 refine Dw (f:=fun _=>none) (u:=0) (bU _ _ _ _) Ar.new (by omega) (x:=(true,[],[],[],-1)) ⟨by simp,by simp,by simp,by simp,by simp⟩ fun r v' hr ha=>?_
 rw[h_]
 intro t ht
 have bb:t≠n:=fun e=>by rw[e,bU] at ht;cases ht
 rw[cp _ _ _ bb] at ht
 refine h1 q t n _ rfl (by omega) (by omega) ht hn bb (((Fm.refl _ _).set (by simp) _ _).set (by simp) _ _) ⟨0,Tr.lf r [],v',_,_,⟨bU _ _ _ _,by rw[cp _ _ _ bb.symm];exact bU _ _ _ _,ha,⟨gp.2 ⟨[],[],-1,g8 _ _ _⟩,by simp,⟨?_,trivial⟩,List.Pairwise.nil,by simp,rfl⟩,gq.2 ⟨by simp[Ctx.lo],by simp⟩⟩,qd _ _⟩
 show gX _ r=_
 rw[xF];rfl)
theorem ahA {ps:List Pr} (h:fE H t n o ps (ps.length:Int)) (h3:3≤o) (vM:o≤16) (hb:ps.length≤1000) (k w:Key) {K:HT [(false,.one .bool),(false,.one .any)]→HP→Prop}
 (k1:(gC k&&dC w)=false→K (false,eC 1,()) H) (k2:(gC k&&dC w)=true→cK ps k=false→1000≤ps.length→K (false,eC 5,()) H)
 (k3:(gC k&&dC w)=true→(cK ps k=true∨ps.length<1000)→∀H',Fm [t,n] H H'→fE H' t n o (fF ps k w) ((fF ps k w).length:Int)→K (!cK ps k,.nilIface,()) H'):C98 (some t) k w H K:=W_ _ _ _ _ _ (by
 obtain⟨hh,T,v,f,u,h,rfl⟩:=h
 unfold A98
 refine ai _ (JB _) (bN (fun hm=>k1 (by simp only at hm;rw[hm];rfl)) fun hm=>ai _ (sP _) (bN (fun hv=>k1 (by simp only at hm hv;rw[hm,hv];rfl)) fun hv=>?_))
 simp only at hm hv
 have RN:(gC k&&dC w)=true:=by rw[hm,hv];rfl
 have zK:k.length≤140737488355328:=by have:=Ee hm;omega
 have hw1:w.length≤140737488355328:=by unfold dC at hv;simp only[decide_eq_true_eq] at hv;omega
 obtain⟨c,i,ps,ks,kd,nx,h1,h2,h4,h5,h6,h7,hf⟩:=h.loc k
 have hr:=Df h.cG h1 h4
 have ha:=h.all h1 h4
 have zE:=Dg h6 h7
 have hl:=Ea (k:=k) h.sz
 have Wu:=h.high h3
 have EC:c.path.length+1=hh+1:=by rw[h2,List.length_append] at hl;exact hl
 have o7:ps.length≤(aR T).length:=by rw[ha];simp;omega
 have FM:fF (aR T) k w=dt c.l++fF ps k w++dt c.r:=by rw[ha,zE.put]
 have pv:cK (aR T) k=cK ps k:=by rw[ha,zE.has]
 have QN:Th.Ord (c.l++ps.map .p++c.r):=by have:=h.cG.ord;rwa [←h1,eU c _ h4] at this
 have aup:=Y6 (v:=w) QN h6 h7 hm
 have E9:=hr.put hm hv
 have bb:=p_ h.ht h.hn
 have Kw:jw (dA f i (some (true,fF ps k w,ks,kd,nx))) u (aZ c (Tr.lf i (fF ps k w))):=
  jw.leaf (by rw[h1];exact h.cG) h4 hf aup fun p hp=>⟨E9.may p hp,E9.fair p hp⟩
 have E_:aR (aZ c (Tr.lf i (fF ps k w)))=fF (aR T) k w:=by rw[qZ h4,qd,FM]
 have cP:(aZ c (Tr.lf i (fF ps k w))).id=T.id:=by rw[←h1];exact sX c _ _ rfl
 have cJ:=h.ar.iq hf
 have py:iY (true,fF ps k w,ks,kd,nx):=⟨cJ.kids,by
  have:=mD hr.sort k w
  simp only;rw[this];split<;>omega,cJ.keys,fun p hp=>?_,cJ.low⟩
 rotate_left
 ·rcases qf hp with rfl|hp
  ·exact⟨zK,hw1⟩
  ·exact cJ.short p hp
 refine k5 _ (fun K' bW=>Sk h h3 (by omega) k bW) (au fun _=>?_)
 refine b_ (i:=c.path.length) ?_ (x:=(i:Int)) ?_ ?_
 ·simp only[List.length_map,h2,List.length_append,List.length_singleton]
  rw[jd (by omega) (by omega)];omega
 ·rw[List.getElem?_map,h2,List.getElem?_append_right (Nat.le_refl _),Nat.sub_self];rfl
 refine ay (aH h.ht (qj h.hn h.ar hf (ai _ (aaP ps k w hr.sort (by omega) hr.short zK hw1) ?_)))
 dsimp only
 rw[HX RN]
 refine⟨rfl,bN (fun h=>by cases h) fun _=>?_⟩
 dsimp only
 cases hhp:cK ps k with
 |true=>
  rw[hhp] at pv
  have hlen:(fF ps k w).length=ps.length:=by rw[mD hr.sort,if_pos hhp]
  refine bP rfl (s5 h.ht h.hn h.ar hf py fun v' iS=>bf (bP rfl ?_))
  have bW:=k3 RN (.inl pv) (H.set n dd v') ((Fm.refl _ _).set (by simp) _ _) ⟨hh,aZ c (Tr.lf i (fF ps k w)),v',_,u,⟨?_,bU _ _ _ _,iS,Kw,xB c _ h4 (gq.2 (by rw[hlen];exact gq.1 h5))⟩,E_⟩
  ·rw[pv] at bW;exact bW
  ·rw[cp _ _ _ bb,h.ht,cP]
   congr 4
   rw[mD h.row.sort,if_pos pv]
 |false=>
  rw[hhp] at pv
  have hlen:(fF ps k w).length=ps.length+1:=by rw[mD hr.sort,if_neg (by rw[hhp];simp)]
  have aaQ:(fF (aR T) k w).length=(aR T).length+1:=by rw[mD h.row.sort,if_neg (by rw[pv];simp)]
  refine cd rfl (ay (aH h.ht (fW (fun QR=>k2 RN pv (by dsimp only at QR;omega)) fun QR=>?_)))
  dsimp only at QR
  refine s5 h.ht h.hn h.ar hf py fun v' iS=>bf (cd rfl ?_)
  have vG:(H.set n dd v') t=some ⟨jO,(some n,(T.id:Int),(o:Int),((aR T).length:Int))⟩:=by rw[cp _ _ _ bb];exact h.ht
  refine ay (aH vG (ay (aH vG ?_)))
  rw[w1 (by omega),h2]
  refine ahw (c0:=c) (s0:=Tr.lf i (fF ps k w)) (many:=(((aR T).length+1:Nat):Int)) h3 vM (by rw[bU,cP]) (by rw[cp _ _ _ bb.symm];exact bU _ _ _ _) iS Kw h4 (gq.2 ?_) (by rw[E_,aaQ];omega) fun H' wE ana=>?_
  ·have:=gq.1 h5;rw[hlen];omega
  ·have bW:=k3 RN (.inr (by omega)) H' ((((Fm.refl _ _).set (by simp) _ _).set (by simp) _ _).trans wE) (by rw[aaQ,←E_];exact ana)
   rw[pv] at bW
   exact bW)
end
end Go.Proofs.YtmoebnnbjppjbaaGreat
namespace Go.Th
open Go Go.Gp
structure Swp (f f':Nat→Option jf) {h:Nat} (t t':Tr h) (g:List Nat):Prop where
 id:t'.id=t.id
 perm:(g++ids t').Perm (ids t)
 ord:∀A B,Ord (A++fl t++B)→Ord (A++fl t'++B)
 ok:(∀x∈fl t,r_ x)→∀x∈fl t',r_ x
 dt:dt (fl t')=dt (fl t)
 rep:fR f' t'
 yh:∀A B e,(∀a∈A++B,gX f a.1=gX f' a.1)→oe f (A++de t++B) e→oe f' (A++de t'++B) e
 same:∀j,j∉ids t→f' j=f j
theorem jw.swap {f f':Nat→Option jf} {u o h H:Nat} {c:Ctx h H} {t t':Tr h} {g:List Nat} (m:jw f u (aZ c t)) (hc:c.Sz o) (s:Swp f f' t t' g):jw f' (u - g.length) (aZ c t')∧aR (aZ c t')=aR (aZ c t):=by
 have iO:=gz c t
 have yk:=gz c t'
 have eF:(c.ids++ids t).Nodup:=(iO.nodup_iff).1 m.nd
 have auk:(c.ids++(g++ids t')).Nodup:=((List.Perm.append_left c.ids s.perm).nodup_iff).2 eF
 have bb:∀j∈c.ids,j∉ids t:=fun j hj hm=>(List.nodup_append.1 eF).2.2 j hj j hm rfl
 have hr:=(en c _).1 m.rep
 refine⟨⟨(en c _).2 ⟨?_,s.rep⟩,(yk.nodup_iff).2 (auk.sublist (List.Sublist.append_left (List.sublist_append_right _ _) _)),?_,?_,?_,?_⟩,?_⟩
 ·rw[s.id];exact oD (fun j hj=>(s.same j (bb j hj)).symm) hr.1
 ·have hs:=m.yh
  rw[lZ] at hs⊢
  refine s.yh _ _ _ (fun a ha=>?_) hs
  have:=yj c a ha
  unfold gX
  rw[s.same _ (bb _ this)]
 ·have:=m.ord
  rw[eU c _ hc] at this⊢
  exact s.ord _ _ this
 ·have cJ:=m.ok
  rw[eU c _ hc] at cJ⊢
  intro x hx
  simp only[List.mem_append] at hx cJ
  rcases hx with(hx|hx)|hx
  ·exact cJ x (.inl (.inl hx))
  ·exact s.ok (fun y hy=>cJ y (.inl (.inr hy))) x hx
  ·exact cJ x (.inr hx)
 ·have h1:=s.perm.length_eq
  rw[m.used,iO.length_eq,yk.length_eq,List.length_append,List.length_append]
  rw[List.length_append] at h1
  omega
 ·rw[←kj,←kj,eU c _ hc,eU c _ hc]
  simp only[dT,s.dt]
section
variable {h:Nat} {i:Nat} {ka kb:List Key} {A B:List (Tr h)}
theorem rL (hl:ka.length=A.length) (k:Key) (a b:Tr h):fl (Tr.nd i (ka++k::kb) (A++a::b::B))=pre ka (A.map fl)++(fl a++ .s k::fl b)++sY kb (B.map fl):=by
 simp only[r9,List.map_append,List.map_cons]
 rw[lY _ _ _ (by rw[hl,List.length_map]),yZ]
 simp
theorem Jz (hl:ka.length=A.length) (a:Tr h):fl (Tr.nd i (ka++kb) (A++a::B))=pre ka (A.map fl)++fl a++sY kb (B.map fl):=by
 simp only[r9,List.map_append,List.map_cons]
 rw[lY _ _ _ (by rw[hl,List.length_map])]
 simp
structure Rot (f f':Nat→Option jf) (a:Tr h) (k:Key) (b a':Tr h) (k':Key) (b':Tr h):Prop where
 id1:a'.id=a.id
 id2:b'.id=b.id
 perm:(ids a'++ids b').Perm (ids a++ids b)
 ord:∀X Y,Ord (X++(fl a++ .s k::fl b)++Y)→Ord (X++(fl a'++ .s k'::fl b')++Y)
 ok:(∀x∈fl a++ .s k::fl b,r_ x)→∀x∈fl a'++ .s k'::fl b',r_ x
 dt:dt (fl a'++ .s k'::fl b')=dt (fl a++ .s k::fl b)
 P_:fR f' a'
 KA:fR f' b'
 yh:∀X Y e,(∀a∈X++Y,gX f a.1=gX f' a.1)→oe f (X++(de a++de b)++Y) e→oe f' (X++(de a'++de b')++Y) e
theorem kh (a b:Tr h):ids (Tr.nd i ka (A++a::b::B))=i::((A.map ids).flatten++(ids a++ids b)++(B.map ids).flatten):=by simp
theorem Y' (a:Tr h):ids (Tr.nd i ka (A++a::B))=i::((A.map ids).flatten++ids a++(B.map ids).flatten):=by simp
theorem HS (a b:Tr h):de (Tr.nd i ka (A++a::b::B))=(A.map de).flatten++(de a++de b)++(B.map de).flatten:=by simp
theorem Za (a:Tr h):de (Tr.nd i ka (A++a::B))=(A.map de).flatten++de a++(B.map de).flatten:=by simp
theorem tE {x:Nat×List Pr} {l:List (Tr h)} (hx:x∈(l.map de).flatten):x.1∈(l.map ids).flatten:=by
 obtain⟨y,hy,hxy⟩:=List.mem_flatten.1 hx
 obtain⟨t,ht,rfl⟩:=List.mem_map.1 hy
 exact eV ht (ic t x hxy)
theorem Rot.WN {f f':Nat→Option jf} {a b a' b':Tr h} {k k':Key} {ps:List Pr} {nx:Int} (r:Rot f f' a k b a' k' b') (hl:ka.length=A.length) (hr:fR f (Tr.nd i (ka++k::kb) (A++a::b::B))) (eF:(ids (Tr.nd i (ka++k::kb) (A++a::b::B))).Nodup)
 (hi:f' i=some (false,ps,ka++k'::kb,(A++a::b::B).map (fun k=>(k.id:Int)),nx)) (hs:∀j,j≠i→j∉ids a→j∉ids b→f' j=f j):Swp f f' (Tr.nd i (ka++k::kb) (A++a::b::B)) (Tr.nd i (ka++k'::kb) (A++a'::b'::B)) []:=by
 rw[kh] at eF
 obtain⟨WM,eF⟩:=List.nodup_cons.1 eF
 have hdA:∀j∈(A.map ids).flatten,f' j=f j:=fun j hj=>by
  have h1:=(List.nodup_append.1 (List.nodup_append.1 eF).1).2.2 j hj
  refine hs j (fun e=>WM (by rw[←e];simp[hj])) (fun hm=>h1 j (by simp[hm]) rfl) fun hm=>h1 j (by simp[hm]) rfl
 have hdB:∀j∈(B.map ids).flatten,f' j=f j:=fun j hj=>by
  have h1:=(List.nodup_append.1 eF).2.2
  refine hs j (fun e=>WM (by rw[←e];simp[hj])) (fun hm=>h1 j (by simp[hm]) j hj rfl) fun hm=>h1 j (by simp[hm]) j hj rfl
 obtain⟨_,hk⟩:=bV.1 hr
 refine⟨rfl,?_,fun X Y ho=>?_,fun cJ=>?_,?_,?_,fun X Y e hc JA=>?_,fun j hj=>?_⟩
 ·rw[kh,kh,List.nil_append]
  exact List.Perm.cons _ (List.Perm.append_right _ (List.Perm.append_left _ r.perm))
 ·rw[rL hl] at ho⊢
  have:=r.ord (X++pre ka (A.map fl)) (sY kb (B.map fl)++Y) (by simpa using ho)
  simpa using this
 ·rw[rL hl] at cJ⊢
  intro x hx
  simp only[List.mem_append] at hx
  rcases hx with(hx|hx)|hx
  ·exact cJ x (by simp[hx])
  ·exact r.ok (fun y hy=>cJ y (by rw[List.mem_append,List.mem_append];exact .inl (.inr hy))) x (by rw[List.mem_append];exact hx)
  ·exact cJ x (by simp[hx])
 ·rw[rL hl,rL hl]
  simp only[dT _ (sY _ _),dT (pre _ _),r.dt]
 ·refine bV.2 ⟨⟨ps,nx,?_⟩,fun x hx=>?_⟩
  ·rw[hi];simp[r.id1,r.id2]
  ·rcases List.mem_append.1 hx with hx|hx
   ·exact cX (fun j hj=>(hdA j (eV hx hj)).symm) (hk x (by simp[hx]))
   ·rcases List.mem_cons.1 hx with rfl|hx
    ·exact r.P_
    ·rcases List.mem_cons.1 hx with rfl|hx
     ·exact r.KA
     ·exact cX (fun j hj=>(hdB j (eV hx hj)).symm) (hk x (by simp[hx]))
 ·rw[HS] at JA⊢
  have:=r.yh (X++(A.map de).flatten) ((B.map de).flatten++Y) e (fun x hx=>?_) (by simpa using JA)
  ·simpa using this
  ·simp only[List.mem_append] at hx
   rcases hx with(hx|hx)|(hx|hx)
   ·exact hc x (by simp[hx])
   ·unfold gX;rw[hdA _ (tE hx)]
   ·unfold gX;rw[hdB _ (tE hx)]
   ·exact hc x (by simp[hx])
 ·rw[kh] at hj
  simp only[List.mem_cons,List.mem_append,not_or] at hj
  exact hs j hj.1 hj.2.1.2.1 hj.2.1.2.2
structure Mrg (f f':Nat→Option jf) (a:Tr h) (k:Key) (b m:Tr h):Prop where
 id:m.id=a.id
 perm:(b.id::ids m).Perm (ids a++ids b)
 ord:∀X Y,Ord (X++(fl a++ .s k::fl b)++Y)→Ord (X++fl m++Y)
 ok:(∀x∈fl a++ .s k::fl b,r_ x)→∀x∈fl m,r_ x
 dt:Th.dt (fl m)=Th.dt (fl a++ .s k::fl b)
 rep:fR f' m
 yh:∀X Y e,(∀a∈X++Y,gX f a.1=gX f' a.1)→oe f (X++(de a++de b)++Y) e→oe f' (X++de m++Y) e
theorem Mrg.WN {f f':Nat→Option jf} {a b m:Tr h} {k:Key} {ps:List Pr} {nx:Int} (r:Mrg f f' a k b m) (hl:ka.length=A.length) (hr:fR f (Tr.nd i (ka++k::kb) (A++a::b::B))) (eF:(ids (Tr.nd i (ka++k::kb) (A++a::b::B))).Nodup)
 (hi:f' i=some (false,ps,ka++kb,(A++a::B).map (fun k=>(k.id:Int)),nx)) (hs:∀j,j≠i→j∉ids a→j∉ids b→f' j=f j):Swp f f' (Tr.nd i (ka++k::kb) (A++a::b::B)) (Tr.nd i (ka++kb) (A++m::B)) [b.id]:=by
 rw[kh] at eF
 obtain⟨WM,eF⟩:=List.nodup_cons.1 eF
 have hdA:∀j∈(A.map ids).flatten,f' j=f j:=fun j hj=>by
  have h1:=(List.nodup_append.1 (List.nodup_append.1 eF).1).2.2 j hj
  refine hs j (fun e=>WM (by rw[←e];simp[hj])) (fun hm=>h1 j (by simp[hm]) rfl) fun hm=>h1 j (by simp[hm]) rfl
 have hdB:∀j∈(B.map ids).flatten,f' j=f j:=fun j hj=>by
  have h1:=(List.nodup_append.1 eF).2.2
  refine hs j (fun e=>WM (by rw[←e];simp[hj])) (fun hm=>h1 j (by simp[hm]) j hj rfl) fun hm=>h1 j (by simp[hm]) j hj rfl
 obtain⟨_,hk⟩:=bV.1 hr
 refine⟨rfl,?_,fun X Y ho=>?_,fun cJ=>?_,?_,?_,fun X Y e hc JA=>?_,fun j hj=>?_⟩
 ·rw[kh,Y']
  refine(List.Perm.swap _ _ _).trans (List.Perm.cons _ ?_)
  refine(List.Perm.trans ?_ (List.Perm.append_right ((B.map ids).flatten) (List.Perm.append_left ((A.map ids).flatten) r.perm)))
  rw[List.append_assoc,List.append_assoc]
  exact List.perm_middle.symm
 ·rw[rL hl] at ho
  rw[Jz hl]
  have:=r.ord (X++pre ka (A.map fl)) (sY kb (B.map fl)++Y) (by simpa using ho)
  simpa using this
 ·rw[rL hl] at cJ
  rw[Jz hl]
  intro x hx
  simp only[List.mem_append] at hx
  rcases hx with(hx|hx)|hx
  ·exact cJ x (by simp[hx])
  ·exact r.ok (fun y hy=>cJ y (by rw[List.mem_append,List.mem_append];exact .inl (.inr hy))) x hx
  ·exact cJ x (by simp[hx])
 ·rw[rL hl,Jz hl]
  simp only[dT _ (sY _ _),dT (pre _ _),r.dt]
 ·refine bV.2 ⟨⟨ps,nx,?_⟩,fun x hx=>?_⟩
  ·rw[hi];simp[r.id]
  ·rcases List.mem_append.1 hx with hx|hx
   ·exact cX (fun j hj=>(hdA j (eV hx hj)).symm) (hk x (by simp[hx]))
   ·rcases List.mem_cons.1 hx with rfl|hx
    ·exact r.rep
    ·exact cX (fun j hj=>(hdB j (eV hx hj)).symm) (hk x (by simp[hx]))
 ·rw[HS] at JA
  rw[Za]
  have:=r.yh (X++(A.map de).flatten) ((B.map de).flatten++Y) e (fun x hx=>?_) (by simpa using JA)
  ·simpa using this
  ·simp only[List.mem_append] at hx
   rcases hx with(hx|hx)|(hx|hx)
   ·exact hc x (by simp[hx])
   ·unfold gX;rw[hdA _ (tE hx)]
   ·unfold gX;rw[hdB _ (tE hx)]
   ·exact hc x (by simp[hx])
 ·rw[kh] at hj
  simp only[List.mem_cons,List.mem_append,not_or] at hj
  exact hs j hj.1 hj.2.1.2.1 hj.2.1.2.2
end
theorem HU {X Y:List It} {k:Key} {a b:List It} (h:Ord (X++(a++ .s k::b)++Y)):Ord (X++(a++b)++Y):=
 List.Pairwise.sublist (List.Sublist.append_right (List.Sublist.append_left (List.Sublist.append_left (List.sublist_cons_self _ _) _) _) _) h
theorem Hz {f f':Nat→Option jf} {ia ib:Nat} {pa pb Bc Dd:List Pr} {k:Key} {y:Pr} (e:pa++pb=Bc++y::Dd) (bb:Bc≠[]) {ks1 ks2 ks3 ks4:List Key} {kd1 kd2 kd3 kd4:List Int} {n1 n2:Int}
 (h1:f ia=some (true,pa,ks1,kd1,n1)) (h2:f ib=some (true,pb,ks2,kd2,n2)) (h3:f' ia=some (true,Bc,ks3,kd3,n1)) (h4:f' ib=some (true,y::Dd,ks4,kd4,n2)):Rot f f' (Tr.lf ia pa) k (Tr.lf ib pb) (Tr.lf ia Bc) y.1 (Tr.lf ib (y::Dd)):=by
 have x1:gX f ia=gX f' ia:=by unfold gX;rw[h1,h3]
 have x2:gX f ib=gX f' ib:=by unfold gX;rw[h2,h4]
 refine⟨rfl,rfl,by simp,fun X Y ho=>?_,fun cJ x hx=>?_,?_,⟨_,_,_,h3⟩,⟨_,_,_,h4⟩,fun X Y e hc hs=>?_⟩
 ·have h5:=HU ho
  simp only[qg] at h5⊢
  rw[←List.map_append,e] at h5
  rcases List.eq_nil_or_concat Bc with h0|⟨qa,q,rfl⟩
  ·exact absurd h0 bb
  ·have:=Mw (A:=X++qa.map .p) (q:=q) (p:=y) (B:=Dd.map .p++Y) (by simpa using h5)
   simpa using this
 ·simp only[qg] at cJ hx
  have hp:∀p∈pa++pb,r_ (.p p):=fun p hp=>cJ _ (by
   rcases List.mem_append.1 hp with hp|hp
   ·exact List.mem_append.2 (.inl (List.mem_map.2 ⟨p,hp,rfl⟩))
   ·exact List.mem_append.2 (.inr (List.mem_cons.2 (.inr (List.mem_map.2 ⟨p,hp,rfl⟩)))))
  rw[e] at hp
  simp only[List.mem_append,List.mem_cons,List.mem_map] at hx
  rcases hx with⟨p,hx,rfl⟩|rfl|⟨p,hx,rfl⟩
  ·exact hp p (by simp[hx])
  ·exact(hp y (by simp)).1
  ·exact hp p (by simp only[List.mem_append,List.mem_cons];exact .inr hx)
 ·simp only[qg,dT,qh,dt]
  exact e.symm
 ·simp only[Dj] at hs⊢
  have h5:oe f (X++([(ia,Bc)]++[(ib,y::Dd)])++Y) e:=by
   rw[gH,gH] at hs⊢
   simpa[oe,hd] using hs
  refine e_ (fun a ha=>?_) h5
  simp only[List.mem_append,List.mem_singleton,List.cons_append,List.nil_append,List.mem_cons,List.not_mem_nil,or_false] at ha
  rcases ha with(ha|rfl|rfl)|ha
  ·exact hc a (by simp[ha])
  ·exact x1
  ·exact x2
  ·exact hc a (by simp[ha])
theorem Ud {f f':Nat→Option jf} {ia ib:Nat} {pa pb:List Pr} {k:Key} {ks1 ks2 ks3:List Key} {kd1 kd2 kd3:List Int} {n1 n2:Int}
 (h1:f ia=some (true,pa,ks1,kd1,n1)) (h2:f ib=some (true,pb,ks2,kd2,n2)) (h3:f' ia=some (true,pa++pb,ks3,kd3,n2)):Mrg f f' (Tr.lf ia pa) k (Tr.lf ib pb) (Tr.lf ia (pa++pb)):=by
 refine⟨rfl,List.Perm.swap _ _ _,fun X Y ho=>?_,fun cJ x hx=>?_,?_,⟨_,_,_,h3⟩,fun X Y e hc hs=>?_⟩
 ·have h5:=HU ho
  simpa using h5
 ·simp only[qg,List.map_append] at cJ hx
  exact cJ x (by rcases List.mem_append.1 hx with hx|hx<;>simp[hx])
 ·simp only[qg,List.map_append,dT,qh,dt]
 ·simp only[Dj] at hs⊢
  rw[gH,gH] at hs
  have hs2:oe f X ia∧(gX f ia=ib∧gX f ib=hd Y e)∧oe f Y e:=by simpa[oe,hd,and_assoc] using hs
  obtain⟨s1,⟨_,s3⟩,s4⟩:=hs2
  have x1:gX f' ia=gX f ib:=by unfold gX;rw[h2,h3]
  have t1:=e_ (g:=f') (fun a ha=>hc a (by simp[ha])) s1
  have t4:=e_ (g:=f') (fun a ha=>hc a (by simp[ha])) s4
  rw[gH,gH]
  simp only[oe,hd,and_true]
  exact⟨⟨t1,by rw[x1];exact s3⟩,t4⟩
theorem zU:∀{ka:List Key} {La:List (List It)} {k:Key} {kb:List Key} {Lb:List (List It)},La.length=ka.length+1→inter (ka++k::kb) (La++Lb)=inter ka La++ .s k::inter kb Lb
 |[],[x],k,kb,Lb,_=>by simp[inter]
 |c::ka,x::La,k,kb,Lb,h=>by
  simp only[List.cons_append,inter,List.append_assoc]
  rw[zU (by simpa using h)]
 |[],[],_,_,_,h=>by simp at h
 |[],_::_::_,_,_,_,h=>by simp at h
 |_::_,[],_,_,_,h=>by simp at h
section
variable {f f':Nat→Option jf} {h ia ib:Nat} {ka kb:List Key} {k:Key} {La Lb:List (Tr h)}
theorem Ed {m:Nat} (hl:La.length=ka.length+1):fl (Tr.nd m (ka++k::kb) (La++Lb))=fl (Tr.nd ia ka La)++ .s k::fl (Tr.nd ib kb Lb):=by
 simp only[r9,List.map_append]
 exact zU (by simpa using hl)
theorem vQ (eF:(ids (Tr.nd ia ka La)++ids (Tr.nd ib kb Lb)).Nodup) (hs:∀j,j≠ia→j≠ib→j∈ids (Tr.nd ia ka La)++ids (Tr.nd ib kb Lb)→f' j=f j) {x:Tr h} (hx:x∈La++Lb):∀j∈ids x,f' j=f j:=fun j hj=>by
 simp only[ki] at eF hs
 have hm:j∈((La++Lb).map ids).flatten:=eV hx hj
 simp only[List.map_append,List.flatten_append,List.mem_append] at hm
 refine hs j (fun e=>?_) (fun e=>?_) (by simp only[List.mem_append,List.mem_cons];rcases hm with hm|hm<;>simp[hm])
 ·subst e
  rcases hm with hm|hm
  ·exact(List.nodup_cons.1 (List.nodup_append.1 eF).1).1 hm
  ·exact(List.nodup_append.1 eF).2.2 j (by simp) j (by simp[hm]) rfl
 ·subst e
  rcases hm with hm|hm
  ·exact(List.nodup_append.1 eF).2.2 j (by simp[hm]) j (by simp) rfl
  ·exact(List.nodup_cons.1 (List.nodup_append.1 eF).2.1).1 hm
theorem HV (eF:(ids (Tr.nd ia ka La)++ids (Tr.nd ib kb Lb)).Nodup) (hs:∀j,j≠ia→j≠ib→j∈ids (Tr.nd ia ka La)++ids (Tr.nd ib kb Lb)→f' j=f j) {X Y:List (Nat×List Pr)} {e:Int} (hc:∀a∈X++Y,gX f a.1=gX f' a.1) (h:oe f (X++((La++Lb).map de).flatten++Y) e):oe f' (X++((La++Lb).map de).flatten++Y) e:=by
 refine e_ (fun a ha=>?_) h
 simp only[List.mem_append] at ha
 rcases ha with(ha|ha)|ha
 ·exact hc a (by simp[ha])
 ·obtain⟨y,hy,hxy⟩:=List.mem_flatten.1 ha
  obtain⟨t,ht,rfl⟩:=List.mem_map.1 hy
  unfold gX
  rw[vQ eF hs ht _ (ic t a hxy)]
 ·exact hc a (by simp[ha])
theorem HA {ka' kb':List Key} {k':Key} {vN Bd:List (Tr h)} (eK:ka++k::kb=ka'++k'::kb') (eL:La++Lb=vN++Bd) (hl:La.length=ka.length+1) (oN:vN.length=ka'.length+1)
 (r1:fR f (Tr.nd ia ka La)) (r2:fR f (Tr.nd ib kb Lb)) (eF:(ids (Tr.nd ia ka La)++ids (Tr.nd ib kb Lb)).Nodup) (hs:∀j,j≠ia→j≠ib→j∈ids (Tr.nd ia ka La)++ids (Tr.nd ib kb Lb)→f' j=f j)
 {ps1 ps2:List Pr} {n1 n2:Int} (h3:f' ia=some (false,ps1,ka',vN.map (fun k=>(k.id:Int)),n1)) (h4:f' ib=some (false,ps2,kb',Bd.map (fun k=>(k.id:Int)),n2)):
 Rot f f' (Tr.nd ia ka La) k (Tr.nd ib kb Lb) (Tr.nd ia ka' vN) k' (Tr.nd ib kb' Bd):=by
 have WS:fl (Tr.nd ia ka' vN)++ .s k'::fl (Tr.nd ib kb' Bd)=fl (Tr.nd ia ka La)++ .s k::fl (Tr.nd ib kb Lb):=by
  rw[←Ed (m:=ia) hl,←Ed (m:=ia) oN,eK,eL]
 have elv:∀(a b:Nat) (x y:List Key) (P Q:List (Tr h)),de (Tr.nd a x P)++de (Tr.nd b y Q)=((P++Q).map de).flatten:=fun a b x y P Q=>by simp
 have Qb:∀x∈La++Lb,fR f' x:=fun x hx=>by
  have h0:fR f x:=by
   rcases List.mem_append.1 hx with hx|hx
   ·exact(bV.1 r1).2 x hx
   ·exact(bV.1 r2).2 x hx
  exact cX (fun j hj=>(vQ eF hs hx j hj).symm) h0
 refine⟨rfl,rfl,?_,fun X Y ho=>by rw[WS];exact ho,fun cJ=>by rw[WS];exact cJ,by rw[WS],bV.2 ⟨⟨_,_,h3⟩,fun x hx=>Qb x (by rw[eL];simp[hx])⟩,bV.2 ⟨⟨_,_,h4⟩,fun x hx=>Qb x (by rw[eL];simp[hx])⟩,fun X Y e hc JA=>?_⟩
 ·have hp:∀(P Q:List (Tr h)),(ids (Tr.nd ia ka P)++ids (Tr.nd ib kb Q)).Perm (ia::ib::((P++Q).map ids).flatten):=fun P Q=>by
   simp only[ki,List.map_append,List.flatten_append,List.cons_append]
   exact List.Perm.cons _ List.perm_middle
  have h1:=hp vN Bd
  rw[←eL] at h1
  exact h1.trans (hp La Lb).symm
 ·rw[elv] at JA⊢
  rw[←eL]
  exact HV eF hs hc JA
theorem Ue (hl:La.length=ka.length+1) (r1:fR f (Tr.nd ia ka La)) (r2:fR f (Tr.nd ib kb Lb)) (eF:(ids (Tr.nd ia ka La)++ids (Tr.nd ib kb Lb)).Nodup) (hs:∀j,j≠ia→j≠ib→j∈ids (Tr.nd ia ka La)++ids (Tr.nd ib kb Lb)→f' j=f j)
 {ps1:List Pr} {n1:Int} (h3:f' ia=some (false,ps1,ka++k::kb,(La++Lb).map (fun k=>(k.id:Int)),n1)):Mrg f f' (Tr.nd ia ka La) k (Tr.nd ib kb Lb) (Tr.nd ia (ka++k::kb) (La++Lb)):=by
 have WS:fl (Tr.nd ia (ka++k::kb) (La++Lb))=fl (Tr.nd ia ka La)++ .s k::fl (Tr.nd ib kb Lb):=Ed hl
 refine⟨rfl,?_,fun X Y ho=>by rw[WS];exact ho,fun cJ=>by rw[WS];exact cJ,by rw[WS],bV.2 ⟨⟨_,_,h3⟩,fun x hx=>?_⟩,fun X Y e hc JA=>?_⟩
 ·simp only[ki,E8,List.map_append,List.flatten_append,List.cons_append]
  exact(List.Perm.swap _ _ _).trans (List.Perm.cons _ List.perm_middle.symm)
 ·have h0:fR f x:=by
   rcases List.mem_append.1 hx with hx|hx
   ·exact(bV.1 r1).2 x hx
   ·exact(bV.1 r2).2 x hx
  exact cX (fun j hj=>(vQ eF hs hx j hj).symm) h0
 ·rw[show de (Tr.nd ia ka La)++de (Tr.nd ib kb Lb)=((La++Lb).map de).flatten from by simp] at JA
  rw[show de (Tr.nd ia (ka++k::kb) (La++Lb))=((La++Lb).map de).flatten from rfl]
  exact HV eF hs hc JA
end
end Go.Th
namespace Go.Proofs.YtmoebnnbjppjbaaGreat
open Go Go.Gp Go.Ga
set_option maxRecDepth 100000
set_option maxHeartbeats 0
abbrev N9:List (Bool×AK):=[(false,.ref),(false,.one (.int .i64))]
abbrev N_:List (Bool×AK):=[(true,kNO),(false,.one .bool)]
def fZ:TypeId→Option AK
 |133=>some (kR)
 |92=>some (eo)
 |224=>some (rj)
 |_=>none
def f_:FuncId→Option oW
 |56=>some ⟨N9,N_,2⟩
 |58=>some ⟨ZI,Q2,0⟩
 |104=>some ⟨JK,wT,0⟩
 |114=>some ⟨abu,Nz,2⟩
 |115=>some ⟨JN,wV,0⟩
 |116=>some ⟨NA,z8,0⟩
 |117=>some ⟨UM,JO,2⟩
 |118=>some ⟨UN,Ft,0⟩
 |119=>some ⟨abw,NB,2⟩
 |120=>some ⟨aby,NC,2⟩
 |128=>some ⟨abG,UQ,2⟩
 |130=>some ⟨NM,Fv,2⟩
 |131=>some ⟨NN,Fw,2⟩
 |133=>some ⟨abL,NO,2⟩
 |134=>some ⟨abM,NP,2⟩
 |135=>some ⟨abN,NR,2⟩
 |136=>some ⟨abO,NS,2⟩
 |145=>some ⟨abR,NV,2⟩
 |146=>some ⟨ajk,abS,2⟩
 |147=>some ⟨ajm,abT,2⟩
 |_=>none
theorem eg:Tryz.prog.follows .mixedOrders=true:=by kernel_rfl
def acp (a0:Option Nat) (a1:List UInt8) (H:HP) (K:HT Nz→HP→Prop):Prop:=
 ao a0 fun i1=>aJ eo i1 H fun(x2:gu)=>a9 (V:=(Option Nat×List UInt8×(List (Int×Int))×Int×Unit)×Unit) ((a0,a1,[],x2.2.1,()),()) H fun x3 H4 B5=>ao x3.1.1 fun i6=>aJ eo i6 H4 fun(x7:gu)=>ae Tryz.prog 56 [(false,.ref),(false,.one (.int .i64))] (x7.1,x3.1.2.2.2.1,()) [(true,.cons (.one .bool) (.cons (.own aj 56) (.cons (.own (.row .byte) 22) (.cons (.own (.one (.int .i64)) 3) (.one (.int .i64)))))),(false,.one .bool)] H4 fun(x8:pz×Bool×Unit) H9=>af (! x8.2.1) (cR x3.1.2.2.1.length 1 16 (K (x3.1.2.2.1++[(x3.1.2.2.2.1,0)],()) H9)) (af x8.1.1 (cR x3.1.2.2.1.length 1 16 (K (x3.1.2.2.1++[(x3.1.2.2.2.1,0)],()) H9)) (aiV x8.1.2.2.1 x3.1.2.1 fun(bp:ahY)=>bE (V:=(Option Nat×List UInt8×(List (Int×Int))×Int×Unit×Int×Unit)×(Bool×(List aq)×List (List UInt8)×List Int×Int×Unit)×Unit) (fun br qA=>cR br.1.2.2.1.length 1 16 (bT br.2.1.2.2.2.1 br.1.2.2.2.2.2.1 fun vT=>B5 ((br.1.1,br.1.2.1,br.1.2.2.1++[(br.1.2.2.2.1,br.1.2.2.2.2.2.1)],vT,()),()) qA)) fun B14=>af bp.2.1 (B14 ((x3.1.1,x3.1.2.1,x3.1.2.2.1,x3.1.2.2.2.1,(),IntKind.i64.wrap (bp.1+1),()),(x8.1.1,x8.1.2.1,x8.1.2.2.1,x8.1.2.2.2.1,x8.1.2.2.2.2,()),()) H9) (B14 ((x3.1.1,x3.1.2.1,x3.1.2.2.1,x3.1.2.2.2.1,(),bp.1,()),(x8.1.1,x8.1.2.1,x8.1.2.2.1,x8.1.2.2.2.1,x8.1.2.2.2.2,()),()) H9)))
theorem SV (a0 a1 H K) (h:acp a0 a1 H K):abv a0 a1 H K:=
 aa eg Tryz.func114 (Eq.mp (by kernel_rfl:acp a0 a1 H K=bq ⟨Tryz.prog,f_,fZ,[],ch⟩ ⟨[(1,.row .byte),(4,.own (.cons (.one (.int .i64)) (.one (.int .i64))) 201),(5,.own (.cons (.one (.int .i64)) (.one (.int .i64))) 201),(29,.own (.cons (.one (.int .i64)) (.one (.int .i64))) 201),(32,.row (.cons (.one (.int .i64)) (.one (.int .i64)))),(33,.own (.cons (.one (.int .i64)) (.one (.int .i64))) 201),(36,.row (.row .byte)),(37,.row .byte),(44,.own (.cons (.one (.int .i64)) (.one (.int .i64))) 201),(48,.row (.cons (.one (.int .i64)) (.one (.int .i64)))),(49,.own (.cons (.one (.int .i64)) (.one (.int .i64))) 201),(51,.row (.one (.int .i64)))],[]⟩ (.seq .n (.seq .n (.seq .n (.aC (.loop [0,1,5,6] [] (.aC (.seq .n (.seq (.seq .n (.cond (.seq .n .n) .n)) (.seq .n (.join [(0,.v (.ref)),(1,.v (.row .byte)),(5,.v (.own (.cons (.one (.int .i64)) (.one (.int .i64))) 201)),(6,.v (.one (.int .i64))),(7,.v (.bx 7 0)),(9,.v (.one (.int .i64)))] [(7,[.one .bool,.row aj,.row (.row .byte),.row (.one (.int .i64)),.one (.int .i64)])] (.seq .n (.cond .n .n)) (.seq .n .n))))))))))) Tryz.f114 abu (a0,a1,()) Nz H K) h)
def UX (a0:Value) (H:HP) (K:HT z8→HP→Prop):Prop:=
 ((cB a0:Bool)=true)∧(af (! (bj a0)) (False) (K () H))
theorem SW (a0 H K) (h:UX a0 H K):asx a0 H K:=
 aa eg Tryz.func116 (Eq.mp (by kernel_rfl:UX a0 H K=bq ⟨Tryz.prog,f_,fZ,[],ch⟩ ⟨[(0,.one .any),(2,.one .any),(4,.one .any)],[]⟩ (.seq .n (.cond .n .n)) Tryz.f116 NA (a0,()) z8 H K) h)
theorem XX (a0) {r} (h:∀H K,K r H→UX a0 H K):ajd a0 r:=fun H K hk=>SW a0 H K (h H K hk)
def UY (a0:pz) (H:HP) (K:HT Ft→HP→Prop):Prop:=
 af a0.1 (aP a0.2.1.length fun n1=>K (n1,()) H) (aP a0.2.2.1.length fun n2=>K (n2,()) H)
theorem SX (a0 H K) (h:UY a0 H K):asy a0 H K:=
 aa eg Tryz.func118 (Eq.mp (by kernel_rfl:UY a0 H K=bq ⟨Tryz.prog,f_,fZ,[],ch⟩ ⟨[(6,.row aj),(9,.row (.row .byte))],[]⟩ (.seq .n (.seq (.seq .n (.cond (.seq .n .n) .n)) (.seq .n .n))) Tryz.f118 UN (a0,()) Ft H K) h)
theorem XY (a0) {r} (h:∀H K,K r H→UY a0 H K):aje a0 r:=fun H K hk=>SX a0 H K (h H K hk)
def acq (a0:Option Nat) (a1:Int) (a2:Int) (H:HP) (K:HT NO→HP→Prop):Prop:=
 ao a0 fun i1=>aJ eo i1 H fun(x2:gu)=>ae Tryz.prog 56 [(false,.ref),(false,.one (.int .i64))] (x2.1,a1,()) [(true,.cons (.one .bool) (.cons (.own aj 56) (.cons (.own (.row .byte) 22) (.cons (.own (.one (.int .i64)) 3) (.one (.int .i64)))))),(false,.one .bool)] H fun(x3:pz×Bool×Unit) H4=>cS a2 x3.1.2.2.2.1.length fun i5=>gN x3.1.2.2.2.1 i5 fun n6=>cS (IntKind.i64.wrap (a2+1)) x3.1.2.2.2.1.length fun i7=>gN x3.1.2.2.2.1 i7 fun n8=>ao a0 fun i9=>aJ eo i9 H4 fun(bp:gu)=>ae Tryz.prog 56 [(false,.ref),(false,.one (.int .i64))] (bp.1,n6,()) [(true,.cons (.one .bool) (.cons (.own aj 56) (.cons (.own (.row .byte) 22) (.cons (.own (.one (.int .i64)) 3) (.one (.int .i64)))))),(false,.one .bool)] H4 fun(br:pz×Bool×Unit) qA=>ao a0 fun i13=>aJ eo i13 qA fun(l_:gu)=>ae Tryz.prog 56 [(false,.ref),(false,.one (.int .i64))] (l_.1,n8,()) [(true,.cons (.one .bool) (.cons (.own aj 56) (.cons (.own (.row .byte) 22) (.cons (.own (.one (.int .i64)) 3) (.one (.int .i64)))))),(false,.one .bool)] qA fun(dG:pz×Bool×Unit) xR=>pd MV (a0,(x3.1.1,x3.1.2.1,x3.1.2.2.1,x3.1.2.2.2.1,x3.1.2.2.2.2),(br.1.1,br.1.2.1,br.1.2.2.1,br.1.2.2.2.1,br.1.2.2.2.2),(dG.1.1,dG.1.2.1,dG.1.2.2.1,dG.1.2.2.2.1,dG.1.2.2.2.2),a2,a1,n6,n8) xR fun i17 IW=>K (some i17,()) IW
theorem SY (a0 a1 a2 H K) (h:acq a0 a1 a2 H K):z_ a0 a1 a2 H K:=
 aa eg Tryz.func133 (Eq.mp (by kernel_rfl:acq a0 a1 a2 H K=bq ⟨Tryz.prog,f_,fZ,[],ch⟩ ⟨[(31,.row (.one (.int .i64))),(39,.row (.one (.int .i64)))],[]⟩ (.seq .n (.seq .n (.seq .n (.seq (.ord 0) (.seq (.ord 0) (.seq (.ord 0) (.seq .n (.gh [.cls 12 MV] .n)))))))) Tryz.f133 abL (a0,a1,a2,()) NO H K) h)
def acr (a0:Option Nat) (H:HP) (K:HT NV→HP→Prop):Prop:=
 ao a0 fun i1=>aJ rj i1 H fun(x2:uO)=>ao x2.1 fun i3=>aJ eo i3 H fun(x4:gu)=>ao a0 fun i5=>aJ rj i5 H fun(x6:uO)=>ao a0 fun i7=>aJ rj i7 H fun(x8:uO)=>Bm x4.1 x6.2.2.2.2.2.1 (x8.2.1.1,x8.2.1.2.1,x8.2.1.2.2.1,x8.2.1.2.2.2.1,x8.2.1.2.2.2.2) H fun(x9:MX) sN=>Fs x9.1 fun(br:Fo)=>ao a0 fun i12=>aJ rj i12 sN fun(fG:uO)=>ao fG.1 fun i14=>aJ eo i14 sN fun(dG:gu)=>ao a0 fun i16=>aJ rj i16 sN fun(gO:uO)=>ao a0 fun i18=>aJ rj i18 sN fun(c8:uO)=>Bm dG.1 gO.2.2.2.2.2.2.1 (c8.2.2.1.1,c8.2.2.1.2.1,c8.2.2.1.2.2.1,c8.2.2.1.2.2.2.1,c8.2.2.1.2.2.2.2) sN fun(dU:MX) oJ=>Fs dU.1 fun(kK:Fo)=>ao a0 fun i23=>aJ rj i23 oJ fun(IY:uO)=>ao IY.1 fun i25=>aJ eo i25 oJ fun(gv:gu)=>ao a0 fun i27=>aJ rj i27 oJ fun(xP:uO)=>ao a0 fun i29=>aJ rj i29 oJ fun(xO:uO)=>Bm gv.1 xP.2.2.2.2.2.2.2 (xO.2.2.2.1.1,xO.2.2.2.1.2.1,xO.2.2.2.1.2.2.1,xO.2.2.2.1.2.2.2.1,xO.2.2.2.1.2.2.2.2) oJ fun(Bp:MX) H32=>Fs Bp.1 fun(ZS:Fo)=>K () H32
theorem SZ (a0 H K) (h:acr a0 H K):Aa a0 H K:=
 aa eg Tryz.func145 (Eq.mp (by kernel_rfl:acr a0 H K=bq ⟨Tryz.prog,f_,fZ,[],ch⟩ ⟨[(17,.one .any),(34,.one .any),(51,.one .any)],[]⟩ (.seq (.ord 0) (.seq (.ord 0) (.ord 0))) Tryz.f145 abR (a0,()) NV H K) h)
def UZ (a0:Option Nat) (H:HP) (K:HT NP→HP→Prop):Prop:=
 ao a0 fun i1=>aJ kTQ i1 H fun(x2:uO)=>af x2.2.2.1.1 (aP x2.2.2.1.2.1.length fun n3=>bT x2.2.2.1.2.1 (IntKind.i64.wrap (n3 - 1)) fun(l4:aq)=>fe x2.2.2.1.2.1.length 0 (IntKind.i64.wrap (n3 - 1)) fun i5 i6=>aji x2.2.2.2.1.2.1 0 [(l4.1,l4.2)] (H.del i1) fun(x7:aie) H8=>cS x2.2.2.2.2.1 x2.2.1.2.2.1.length fun i9=>gN x2.2.1.2.2.1 i9 fun(ZO:List UInt8)=>Aa (some i1) (H8.set i1 rj (x2.1,(x2.2.1.1,x2.2.1.2.1,List.set x2.2.1.2.2.1 i9 l4.1,x2.2.1.2.2.2.1,x2.2.1.2.2.2.2),(x2.2.2.1.1,sub x2.2.2.1.2.1 i5 i6,x2.2.2.1.2.2.1,x2.2.2.1.2.2.2.1,x2.2.2.1.2.2.2.2),(x2.2.2.2.1.1,x7.1,x2.2.2.2.1.2.2.1,x2.2.2.2.1.2.2.2.1,x2.2.2.2.1.2.2.2.2),x2.2.2.2.2.1,x2.2.2.2.2.2.1,x2.2.2.2.2.2.2.1,x2.2.2.2.2.2.2.2)) fun(br:JH) qA=>K () qA) (aP x2.2.2.1.2.2.1.length fun vT=>cS x2.2.2.2.2.1 x2.2.1.2.2.1.length fun i14=>gN x2.2.1.2.2.1 i14 fun(l15:List UInt8)=>bT x2.2.2.1.2.2.2.1 (IntKind.i64.wrap ((IntKind.i64.wrap (vT - 1))+1)) fun n16=>abI x2.2.2.2.1.2.2.1 0 [l15] (H.del i1) fun(l17:abh) IW=>abJ x2.2.2.2.1.2.2.2.1 0 [n16] IW fun(l19:abi) uR=>bT x2.2.2.1.2.2.1 (IntKind.i64.wrap (vT - 1)) fun(l21:List UInt8)=>cS x2.2.2.2.2.1 x2.2.1.2.2.1.length fun i22=>gN x2.2.1.2.2.1 i22 fun(l23:List UInt8)=>fe x2.2.2.1.2.2.1.length 0 (IntKind.i64.wrap (vT - 1)) fun i24 i25=>fe x2.2.2.1.2.2.2.1.length 0 (IntKind.i64.wrap ((IntKind.i64.wrap (vT - 1))+1)) fun i26 i27=>Aa (some i1) (uR.set i1 rj (x2.1,(x2.2.1.1,x2.2.1.2.1,List.set x2.2.1.2.2.1 i22 l21,x2.2.1.2.2.2.1,x2.2.1.2.2.2.2),(x2.2.2.1.1,x2.2.2.1.2.1,sub x2.2.2.1.2.2.1 i24 i25,sub x2.2.2.1.2.2.2.1 i26 i27,x2.2.2.1.2.2.2.2),(x2.2.2.2.1.1,x2.2.2.2.1.2.1,l17.1,l19.1,x2.2.2.2.1.2.2.2.2),x2.2.2.2.2.1,x2.2.2.2.2.2.1,x2.2.2.2.2.2.2.1,x2.2.2.2.2.2.2.2)) fun(xP:JH) N2=>K () N2)
theorem F' (a0 H K) (h:UZ a0 H K):NQ a0 H K:=
 aa eg Tryz.func134 (Eq.mp (by kernel_rfl:UZ a0 H K=bq ⟨Tryz.prog,f_,fZ,[],ch⟩ ⟨[(14,.row aj),(21,.row aj),(31,.row aj),(33,.row aj),(38,.row aj),(40,.row aj),(41,.own aj 56),(52,.row (.row .byte)),(58,.row .byte),(64,.row (.row .byte)),(73,.row (.row .byte)),(78,.row (.row .byte)),(84,.row .byte),(85,.row (.row .byte)),(86,.own (.row .byte) 22),(91,.row (.one (.int .i64))),(96,.row (.one (.int .i64))),(101,.row (.one (.int .i64))),(102,.own (.one (.int .i64)) 3),(113,.row (.row .byte)),(122,.row (.row .byte)),(125,.row .byte),(133,.row (.row .byte)),(135,.row (.row .byte)),(140,.row (.one (.int .i64))),(143,.row (.one (.int .i64)))],[]⟩ (.seq (.seq (.gh [.ze 0 kTQ] .n) (.cond (.seq .n (.seq .n (.seq (.ord 0) (.ord 0)))) (.seq .n (.seq (.ord 0) (.seq (.ord 0) (.ord 0)))))) (.gh [.cls 0 rj] .n)) Tryz.f134 abM (a0,()) NP H K) h)
def U0 (a0:Option Nat) (H:HP) (K:HT NR→HP→Prop):Prop:=
 ao a0 fun i1=>aJ kTP i1 H fun(x2:uO)=>af x2.2.2.1.1 (bT x2.2.2.2.1.2.1 0 fun(l3:aq)=>fe x2.2.2.2.1.2.1.length 1 ((x2.2.2.2.1.2.1.length:Nat):Int) fun i4 i5=>cR x2.2.2.1.2.1.length 1 48 (bT (sub x2.2.2.2.1.2.1 i4 i5) 0 fun(l6:aq)=>cS x2.2.2.2.2.1 x2.2.1.2.2.1.length fun i7=>gN x2.2.1.2.2.1 i7 fun(l8:List UInt8)=>Aa (some i1) ((H.del i1).set i1 rj (x2.1,(x2.2.1.1,x2.2.1.2.1,List.set x2.2.1.2.2.1 i7 l6.1,x2.2.1.2.2.2.1,x2.2.1.2.2.2.2),(x2.2.2.1.1,x2.2.2.1.2.1++[(l3.1,l3.2)],x2.2.2.1.2.2.1,x2.2.2.1.2.2.2.1,x2.2.2.1.2.2.2.2),(x2.2.2.2.1.1,sub x2.2.2.2.1.2.1 i4 i5,x2.2.2.2.1.2.2.1,x2.2.2.2.1.2.2.2.1,x2.2.2.2.1.2.2.2.2),x2.2.2.2.2.1,x2.2.2.2.2.2.1,x2.2.2.2.2.2.2.1,x2.2.2.2.2.2.2.2)) fun(x9:JH) sN=>K () sN)) (cS x2.2.2.2.2.1 x2.2.1.2.2.1.length fun i11=>gN x2.2.1.2.2.1 i11 fun(Bt:List UInt8)=>bT x2.2.2.2.1.2.2.2.1 0 fun vT=>cR x2.2.2.1.2.2.1.length 1 24 (cR x2.2.2.1.2.2.2.1.length 1 8 (bT x2.2.2.2.1.2.2.1 0 fun(Wb:List UInt8)=>cS x2.2.2.2.2.1 x2.2.1.2.2.1.length fun i15=>gN x2.2.1.2.2.1 i15 fun(l16:List UInt8)=>fe x2.2.2.2.1.2.2.1.length 1 ((x2.2.2.2.1.2.2.1.length:Nat):Int) fun i17 i18=>fe x2.2.2.2.1.2.2.2.1.length 1 ((x2.2.2.2.1.2.2.2.1.length:Nat):Int) fun i19 i20=>Aa (some i1) ((H.del i1).set i1 rj (x2.1,(x2.2.1.1,x2.2.1.2.1,List.set x2.2.1.2.2.1 i15 Wb,x2.2.1.2.2.2.1,x2.2.1.2.2.2.2),(x2.2.2.1.1,x2.2.2.1.2.1,x2.2.2.1.2.2.1++[Bt],x2.2.2.1.2.2.2.1++[vT],x2.2.2.1.2.2.2.2),(x2.2.2.2.1.1,x2.2.2.2.1.2.1,sub x2.2.2.2.1.2.2.1 i17 i18,sub x2.2.2.2.1.2.2.2.1 i19 i20,x2.2.2.2.1.2.2.2.2),x2.2.2.2.2.1,x2.2.2.2.2.2.1,x2.2.2.2.2.2.2.1,x2.2.2.2.2.2.2.2)) fun(oZ:JH) Wf=>K () Wf)))
theorem Gb (a0 H K) (h:U0 a0 H K):JR a0 H K:=
 aa eg Tryz.func135 (Eq.mp (by kernel_rfl:U0 a0 H K=bq ⟨Tryz.prog,f_,fZ,[],ch⟩ ⟨[(13,.row aj),(18,.row aj),(21,.row aj),(22,.own aj 56),(27,.row aj),(28,.row aj),(39,.row (.row .byte)),(48,.row aj),(51,.row .byte),(59,.row (.row .byte)),(64,.row (.row .byte)),(70,.row .byte),(71,.row (.row .byte)),(72,.own (.row .byte) 22),(77,.row (.one (.int .i64))),(82,.row (.one (.int .i64))),(85,.row (.one (.int .i64))),(86,.own (.one (.int .i64)) 3),(97,.row (.row .byte)),(106,.row (.row .byte)),(108,.row .byte),(116,.row (.row .byte)),(117,.row (.row .byte)),(122,.row (.one (.int .i64))),(123,.row (.one (.int .i64)))],[]⟩ (.seq (.seq (.gh [.ze 0 kTP] .n) (.cond (.seq (.ord 0) (.ord 0)) (.seq (.ord 0) (.seq (.ord 0) (.ord 0))))) (.gh [.cls 0 rj] .n)) Tryz.f135 abN (a0,()) NR H K) h)
def U1 (a0:Option Nat) (H:HP) (K:HT NS→HP→Prop):Prop:=
 ao a0 fun i1=>aJ MV i1 H fun(x2:uO)=>af x2.2.2.1.1 (cR x2.2.2.1.2.1.length x2.2.2.2.1.2.1.length 48 (ajl x2.2.1.2.2.1 x2.2.2.2.2.1 (IntKind.i64.wrap (x2.2.2.2.2.1+1)) (H.del i1) fun(l3:aii) H4=>ajn x2.2.1.2.2.2.1 (IntKind.i64.wrap (x2.2.2.2.2.1+1)) (IntKind.i64.wrap (x2.2.2.2.2.1+2)) H4 fun(l5:aij) H6=>Aa (some i1) (H6.set i1 rj (x2.1,(x2.2.1.1,x2.2.1.2.1,l3.1,l5.1,x2.2.1.2.2.2.2),(x2.2.2.1.1,x2.2.2.1.2.1++x2.2.2.2.1.2.1,x2.2.2.1.2.2.1,x2.2.2.1.2.2.2.1,x2.2.2.2.1.2.2.2.2),(x2.2.2.2.1.1,x2.2.2.2.1.2.1,x2.2.2.2.1.2.2.1,x2.2.2.2.1.2.2.2.1,x2.2.2.2.1.2.2.2.2),x2.2.2.2.2.1,x2.2.2.2.2.2.1,x2.2.2.2.2.2.2.1,x2.2.2.2.2.2.2.2)) fun(x7:JH) H8=>aJ rj i1 H8 fun(x9:uO)=>ao x9.1 fun i10=>aJ eo i10 H8 fun(br:gu)=>aJ rj i1 H8 fun(bL:uO)=>ND br.1 bL.2.2.2.2.2.2.2 H8 fun(fG:abe) F5=>Fs fG.1 fun(dG:Fo)=>K () F5)) (cS x2.2.2.2.2.1 x2.2.1.2.2.1.length fun i16=>gN x2.2.1.2.2.1 i16 fun(l17:List UInt8)=>cR x2.2.2.1.2.2.1.length 1 24 (cR ((x2.2.2.1.2.2.1++[l17]).length) x2.2.2.2.1.2.2.1.length 24 (cR x2.2.2.1.2.2.2.1.length x2.2.2.2.1.2.2.2.1.length 8 (ajl x2.2.1.2.2.1 x2.2.2.2.2.1 (IntKind.i64.wrap (x2.2.2.2.2.1+1)) (H.del i1) fun(l18:aii) AI=>ajn x2.2.1.2.2.2.1 (IntKind.i64.wrap (x2.2.2.2.2.1+1)) (IntKind.i64.wrap (x2.2.2.2.2.1+2)) AI fun(l20:aij) oJ=>Aa (some i1) (oJ.set i1 rj (x2.1,(x2.2.1.1,x2.2.1.2.1,l18.1,l20.1,x2.2.1.2.2.2.2),(x2.2.2.1.1,x2.2.2.1.2.1,(x2.2.2.1.2.2.1++[l17])++x2.2.2.2.1.2.2.1,x2.2.2.1.2.2.2.1++x2.2.2.2.1.2.2.2.1,x2.2.2.1.2.2.2.2),(x2.2.2.2.1.1,x2.2.2.2.1.2.1,x2.2.2.2.1.2.2.1,x2.2.2.2.1.2.2.2.1,x2.2.2.2.1.2.2.2.2),x2.2.2.2.2.1,x2.2.2.2.2.2.1,x2.2.2.2.2.2.2.1,x2.2.2.2.2.2.2.2)) fun(kK:JH) El=>aJ rj i1 El fun(IY:uO)=>ao IY.1 fun i25=>aJ eo i25 El fun(gv:gu)=>aJ rj i1 El fun(cr:uO)=>ND gv.1 cr.2.2.2.2.2.2.2 El fun(xP:abe) N2=>Fs xP.1 fun(xO:Fo)=>K () N2))))
theorem Gc (a0 H K) (h:U1 a0 H K):Bo a0 H K:=
 aa eg Tryz.func136 (Eq.mp (by kernel_rfl:U1 a0 H K=bq ⟨Tryz.prog,f_,fZ,[],ch⟩ ⟨[(13,.row aj),(18,.row aj),(19,.own aj 56),(36,.row (.row .byte)),(41,.row (.row .byte)),(47,.row .byte),(48,.row (.row .byte)),(49,.own (.row .byte) 22),(54,.row (.row .byte)),(55,.own (.row .byte) 22),(64,.row (.one (.int .i64))),(69,.row (.one (.int .i64))),(70,.own (.one (.int .i64)) 3),(80,.row (.row .byte)),(90,.own (.row .byte) 22),(95,.row (.one (.int .i64))),(106,.own (.one (.int .i64)) 3),(126,.one .any)],[]⟩ (.seq (.seq (.gh [.ze 0 MV] .n) (.cond (.ord 0) (.seq (.ord 0) (.ord 0)))) (.seq (.ord 0) (.seq (.gh [.cls 0 rj] .n) (.ord 0)))) Tryz.f136 abO (a0,()) NS H K) h)
def acs (a0:Option Nat) (a1:Int×Int) (H:HP) (K:HT NB→HP→Prop):Prop:=
 ao a0 fun i1=>aJ eo i1 H fun(x2:gu)=>((2:Int)≠0)∧(ao a0 fun i3=>aJ eo i3 H fun(x4:gu)=>ae Tryz.prog 56 [(false,.ref),(false,.one (.int .i64))] (x4.1,a1.1,()) [(true,.cons (.one .bool) (.cons (.own aj 56) (.cons (.own (.row .byte) 22) (.cons (.own (.one (.int .i64)) 3) (.one (.int .i64)))))),(false,.one .bool)] H fun(x5:pz×Bool×Unit) H6=>af (decide (a1.2>0)) (z_ a0 a1.1 (IntKind.i64.wrap (a1.2 - 1)) H6 fun(x7:Fp) H8=>ao x7.1 fun i9=>aJ MV i9 H8 fun(bp:uO)=>ck Tryz.prog 118 [(true,.cons (.one .bool) (.cons (.bQ aj) (.cons (.bQ (.row .byte)) (.cons (.bQ (.one (.int .i64))) (.one (.int .i64))))))] ((bp.2.2.1.1,bp.2.2.1.2.1,bp.2.2.1.2.2.1,bp.2.2.1.2.2.2.1,bp.2.2.1.2.2.2.2),()) [(false,.one (.int .i64))] fun(br:Int×Unit)=>af (decide (br.1>(IntKind.i64.wrap (Int.tdiv x2.2.2.1 2)))) (NQ (some i9) ((H8.del i9).set i9 kTQ (bp.1,(bp.2.1.1,bp.2.1.2.1,bp.2.1.2.2.1,bp.2.1.2.2.2.1,bp.2.1.2.2.2.2),(bp.2.2.1.1,bp.2.2.1.2.1,bp.2.2.1.2.2.1,bp.2.2.1.2.2.2.1,bp.2.2.1.2.2.2.2),(bp.2.2.2.1.1,bp.2.2.2.1.2.1,bp.2.2.2.1.2.2.1,bp.2.2.2.1.2.2.2.1,bp.2.2.2.1.2.2.2.2),bp.2.2.2.2.1,bp.2.2.2.2.2.1,bp.2.2.2.2.2.2.1,bp.2.2.2.2.2.2.2)) fun(bL:asj) pA=>K () pA) (aP x5.1.2.2.2.1.length fun Wd=>af (decide ((IntKind.i64.wrap (a1.2+1))<Wd)) (z_ a0 a1.1 a1.2 (H8.del i9) fun(dG:Fp) xR=>ao dG.1 fun i17=>aJ MV i17 xR fun(d_:uO)=>ck Tryz.prog 118 [(true,.cons (.one .bool) (.cons (.bQ aj) (.cons (.bQ (.row .byte)) (.cons (.bQ (.one (.int .i64))) (.one (.int .i64))))))] ((d_.2.2.2.1.1,d_.2.2.2.1.2.1,d_.2.2.2.1.2.2.1,d_.2.2.2.1.2.2.2.1,d_.2.2.2.1.2.2.2.2),()) [(false,.one (.int .i64))] fun(c8:Int×Unit)=>af (decide (c8.1>(IntKind.i64.wrap (Int.tdiv x2.2.2.1 2)))) (JR (some i17) ((xR.del i17).set i17 kTP (d_.1,(d_.2.1.1,d_.2.1.2.1,d_.2.1.2.2.1,d_.2.1.2.2.2.1,d_.2.1.2.2.2.2),(d_.2.2.1.1,d_.2.2.1.2.1,d_.2.2.1.2.2.1,d_.2.2.1.2.2.2.1,d_.2.2.1.2.2.2.2),(d_.2.2.2.1.1,d_.2.2.2.1.2.1,d_.2.2.2.1.2.2.1,d_.2.2.2.1.2.2.2.1,d_.2.2.2.1.2.2.2.2),d_.2.2.2.2.1,d_.2.2.2.2.2.1,d_.2.2.2.2.2.2.1,d_.2.2.2.2.2.2.2)) fun(dU:aif) oJ=>K () oJ) (z_ a0 a1.1 (Lu (IntKind.i64.wrap (a1.2 - 1)) 0) (xR.del i17) fun(kK:Fp) El=>Bo kK.1 El fun(IY:UG) H25=>K () H25)) (z_ a0 a1.1 (Lu (IntKind.i64.wrap (a1.2 - 1)) 0) (H8.del i9) fun(gv:Fp) Em=>Bo gv.1 Em fun(xP:UG) N2=>K () N2))) (aP x5.1.2.2.2.1.length fun n30=>af (decide ((IntKind.i64.wrap (a1.2+1))<n30)) (z_ a0 a1.1 a1.2 H6 fun(Bp:Fp) H32=>ao Bp.1 fun i33=>aJ MV i33 H32 fun(mn:uO)=>ck Tryz.prog 118 [(true,.cons (.one .bool) (.cons (.bQ aj) (.cons (.bQ (.row .byte)) (.cons (.bQ (.one (.int .i64))) (.one (.int .i64))))))] ((mn.2.2.2.1.1,mn.2.2.2.1.2.1,mn.2.2.2.1.2.2.1,mn.2.2.2.1.2.2.2.1,mn.2.2.2.1.2.2.2.2),()) [(false,.one (.int .i64))] fun(x35:Int×Unit)=>af (decide (x35.1>(IntKind.i64.wrap (Int.tdiv x2.2.2.1 2)))) (JR (some i33) ((H32.del i33).set i33 kTP (mn.1,(mn.2.1.1,mn.2.1.2.1,mn.2.1.2.2.1,mn.2.1.2.2.2.1,mn.2.1.2.2.2.2),(mn.2.2.1.1,mn.2.2.1.2.1,mn.2.2.1.2.2.1,mn.2.2.1.2.2.2.1,mn.2.2.1.2.2.2.2),(mn.2.2.2.1.1,mn.2.2.2.1.2.1,mn.2.2.2.1.2.2.1,mn.2.2.2.1.2.2.2.1,mn.2.2.2.1.2.2.2.2),mn.2.2.2.2.1,mn.2.2.2.2.2.1,mn.2.2.2.2.2.2.1,mn.2.2.2.2.2.2.2)) fun(mO:aif) F6=>K () F6) (z_ a0 a1.1 (Lu (IntKind.i64.wrap (a1.2 - 1)) 0) (H32.del i33) fun(F_:Fp) H39=>Bo F_.1 H39 fun(oY:UG) H41=>K () H41)) (z_ a0 a1.1 (Lu (IntKind.i64.wrap (a1.2 - 1)) 0) H6 fun(N4:Fp) Wj=>Bo N4.1 Wj fun(x44:UG) H45=>K () H45)))
theorem S0 (a0 a1 H K) (h:acs a0 a1 H K):abx a0 a1 H K:=
 aa eg Tryz.func119 (Eq.mp (by kernel_rfl:acs a0 a1 H K=bq ⟨Tryz.prog,f_,fZ,[],ch⟩ ⟨[(48,.row (.one (.int .i64)))],[]⟩ (.seq .n (.seq .n (.seq (.ord 37778931862957161709568) (.seq (.seq .n (.cond (.seq .n (.seq (.gh [.ze 7 MV] .n) (.cond (.seq (.gh [.cls 7 kTQ] .n) .n) .n))) .n)) (.seq (.seq .n (.cond (.seq .n (.seq (.gh [.ze 8 MV] .n) (.cond (.seq (.gh [.cls 8 kTP] .n) .n) .n))) .n)) (.seq .n .n)))))) Tryz.f119 abw (a0,a1,()) NB H K) h)
def A99 (a0:Option Nat) (a1:List UInt8) (H:HP) (K:HT R99→HP→Prop):Prop:=
 af (Option.isNone a0) (K (false,.iface 62 (.int .i64 1),()) H) (abv a0 a1 H fun(x1:asd) H2=>aP x1.1.length fun n3=>bT x1.1 (IntKind.i64.wrap (n3 - 1)) fun(x4:Int×Int)=>ao a0 fun i5=>aJ eo i5 H2 fun(x6:gu)=>ae Tryz.prog 56 [(false,.ref),(false,.one (.int .i64))] (x6.1,x4.1,()) [(true,.cons (.one .bool) (.cons (.own aj 56) (.cons (.own (.row .byte) 22) (.cons (.own (.one (.int .i64)) 3) (.one (.int .i64)))))),(false,.one .bool)] H2 fun(x7:pz×Bool×Unit) H8=>ajb x7.1.2.1 a1 fun(x9:aib)=>af (! x9.2.1) (K (false,.nilIface,()) H8) (ao a0 fun i10=>aJ eo i10 H8 fun(br:gu)=>Bm br.1 x4.1 (x7.1.1,x9.1,x7.1.2.2.1,x7.1.2.2.2.1,x7.1.2.2.2.2) H8 fun(bL:MX) pA=>Fs bL.1 fun(l_:Fo)=>ao a0 fun i15=>aJ eo i15 pA fun(sO:gu)=>ao a0 fun i17=>aJ eo i17 pA fun(d_:gu)=>aP x1.1.length fun n19=>a9 (V:=(Option Nat×(List (Int×Int))×Int×Unit)×Unit) ((a0,x1.1,IntKind.i64.wrap (n19 - 2),()),()) (pA.set i17 eo (d_.1,d_.2.1,d_.2.2.1,IntKind.i64.wrap (sO.2.2.2 - 1))) fun dU oJ B22=>af (decide (dU.1.2.2.1≥0)) (ao dU.1.1 fun i23=>aJ eo i23 oJ fun(IY:gu)=>bT dU.1.2.1 (IntKind.i64.wrap (dU.1.2.2.1+1)) fun(gS:Int×Int)=>ae Tryz.prog 56 [(false,.ref),(false,.one (.int .i64))] (IY.1,gS.1,()) [(true,.cons (.one .bool) (.cons (.own aj 56) (.cons (.own (.row .byte) 22) (.cons (.own (.one (.int .i64)) 3) (.one (.int .i64)))))),(false,.one .bool)] oJ fun(gv:pz×Bool×Unit) Em=>ck Tryz.prog 118 [(true,.cons (.one .bool) (.cons (.bQ aj) (.cons (.bQ (.row .byte)) (.cons (.bQ (.one (.int .i64))) (.one (.int .i64))))))] ((gv.1.1,gv.1.2.1,gv.1.2.2.1,gv.1.2.2.2.1,gv.1.2.2.2.2),()) [(false,.one (.int .i64))] fun(xP:Int×Unit)=>ao dU.1.1 fun i29=>aJ eo i29 Em fun(xO:gu)=>((2:Int)≠0)∧(af (decide (xP.1≥(IntKind.i64.wrap (Int.tdiv xO.2.2.1 2)))) (K (true,.nilIface,()) Em) (bT dU.1.2.1 dU.1.2.2.1 fun(Bp:Int×Int)=>abx dU.1.1 (Bp.1,Bp.2) Em fun(N1:ase) Wg=>B22 ((dU.1.1,dU.1.2.1,IntKind.i64.wrap (dU.1.2.2.1 - 1),()),()) Wg))) (bE (V:=Unit×Unit) (fun mn ZQ=>K (true,.nilIface,()) ZQ) fun B36=>ao dU.1.1 fun i37=>aJ eo i37 oJ fun(F_:gu)=>ao dU.1.1 fun i39=>aJ eo i39 oJ fun(oY:gu)=>ae Tryz.prog 56 [(false,.ref),(false,.one (.int .i64))] (F_.1,oY.2.1,()) [(true,.cons (.one .bool) (.cons (.own aj 56) (.cons (.own (.row .byte) 22) (.cons (.own (.one (.int .i64)) 3) (.one (.int .i64)))))),(false,.one .bool)] oJ fun(Bx:pz×Bool×Unit) H42=>bE (V:=(Option Nat×Unit×Bool×Unit)×(Bool×(List aq)×List (List UInt8)×List Int×Int×Unit)×Unit) (fun IX Wi=>af IX.1.2.2.1 (ao IX.1.1 fun i45=>aJ eo i45 Wi fun(x46:gu)=>bT IX.2.1.2.2.2.1 0 fun n47=>ao IX.1.1 fun i48=>aJ eo i48 Wi fun(AR:gu)=>ao IX.1.1 fun i50=>aJ eo i50 (Wi.set i48 eo (AR.1,n47,AR.2.2)) fun(fv:gu)=>ND fv.1 x46.2.1 (Wi.set i48 eo (AR.1,n47,AR.2.2)) fun(tM:abe) H53=>Fs tM.1 fun(iQ:Fo)=>B36 ((),()) H53) (B36 ((),()) Wi)) fun B55=>af (! Bx.1.1) (aP Bx.1.2.2.1.length fun n56=>B55 ((dU.1.1,(),n56==0,()),(Bx.1.1,Bx.1.2.1,Bx.1.2.2.1,Bx.1.2.2.2.1,Bx.1.2.2.2.2,()),()) H42) (B55 ((dU.1.1,(),false,()),(Bx.1.1,Bx.1.2.1,Bx.1.2.2.1,Bx.1.2.2.2.1,Bx.1.2.2.2.2,()),()) H42))))
theorem XZ (a0 a1 H K) (h:A99 a0 a1 H K):C99 a0 a1 H K:=
 aa eg Tryz.func99 (Eq.mp (by kernel_rfl:A99 a0 a1 H K=bq ⟨Tryz.prog,f_,fZ,[],ch⟩ ⟨[(1,.row .byte),(5,.one .any),(6,.row (.cons (.one (.int .i64)) (.one (.int .i64)))),(10,.row aj),(20,.one .any),(22,.row .byte),(23,.row (.cons (.one (.int .i64)) (.one (.int .i64)))),(24,.row (.cons (.one (.int .i64)) (.one (.int .i64)))),(25,.row (.cons (.one (.int .i64)) (.one (.int .i64)))),(42,.row aj),(43,.row .byte),(45,.row aj),(49,.row aj),(57,.one .any),(66,.row (.cons (.one (.int .i64)) (.one (.int .i64)))),(78,.row (.cons (.one (.int .i64)) (.one (.int .i64)))),(96,.row (.cons (.one (.int .i64)) (.one (.int .i64)))),(118,.row (.row .byte)),(128,.row (.one (.int .i64))),(138,.one .any)],[]⟩ (.seq .n (.seq (.seq .n (.cond (.seq .n .n) .n)) (.seq .n (.seq .n (.seq .n (.seq .n (.seq (.seq .n (.cond (.seq .n .n) .n)) (.seq .n (.seq (.ord 0) (.seq .n (.seq (.seq .n (.aC (.loop [0,6,12] [] (.seq (.seq .n (.cond .n .n)) (.seq (.aC (.seq (.ord 604462909807314587353088) (.seq (.seq (.ord 0) (.cond (.seq .n .n) .n)) .n))) .n))))) (.join [] [] (.seq (.ord 151115727451828646838272) (.join [(0,.v (.ref)),(15,.v (.bx 15 0)),(121,.v (.one .bool))] [(15,[.one .bool,.row aj,.row (.row .byte),.row (.one (.int .i64)),.one (.int .i64)])] .n (.cond (.seq .n (.seq .n .n)) .n))) (.seq .n .n))))))))))))) Tryz.f99 P99 (a0,a1,()) R99 H K) h)
open Go Go.Gp Go.Ga Go.Th
theorem RV (xs:List (List UInt8)) (i j:Nat) (hi:i≤j) (hj:j≤xs.length) (hb:xs.length≤1000000000) {H:HP} {K:HT [(false,.own (.row .byte) 22)]→HP→Prop} (hk:K (xs.take i++xs.drop j,()) H):
 ae Tryz.prog 146 [(false,.own (.row .byte) 22),(false,.one (.int .i64)),(false,.one (.int .i64))] (xs,(i:Int),(j:Int),()) [(false,.own (.row .byte) 22)] H K:=
 yU rfl (by decide) hi hj (fun W s cs K ho tQ h1 hk=>by
  apply call146
  obtain⟨inf,T⟩:=elK
  exact D6 T ho hi (by omega) h1 (by omega) hk) hk
theorem RW (xs:List Int) (i j:Nat) (hi:i≤j) (hj:j≤xs.length) (hb:xs.length≤1000000000) {H:HP} {K:HT [(false,.own (.one (.int .i64)) 3)]→HP→Prop} (hk:K (xs.take i++xs.drop j,()) H):
 ae Tryz.prog 147 [(false,.own (.one (.int .i64)) 3),(false,.one (.int .i64)),(false,.one (.int .i64))] (xs,(i:Int),(j:Int),()) [(false,.own (.one (.int .i64)) 3)] H K:=
 yU rfl (by decide) hi hj (fun W s cs K ho tQ h1 hk=>by
  apply call147
  obtain⟨inf,T⟩:=elI
  exact D6 T ho hi (by omega) h1 (by omega) hk) hk
theorem amQ:iY uC:=⟨by simp,by simp,by simp,by simp,by simp⟩
section
variable {H:HP} {t n u:Nat} {v:uD} {f:Nat→Option Nd} {order many root:Int}
theorem Ar.del (ha:Ar v f u) {i:Nat} {y:Nd} (hf:f i=Option.some y) (hu:0<u):Ar (v.1.set i uC,v.2.1.set i false,v.2.2++[(i:Int)]) (dA f i Option.none) (u - 1):=by
 obtain⟨h1,h2⟩:=ha.some hf
 have hj:=(List.getElem?_eq_some_iff.1 h2).1
 have WJ:=(List.getElem?_eq_some_iff.1 h1).1
 obtain⟨fr,e1,e2,e3⟩:=ha.fre
 refine⟨by simpa using ha.len,fun z hz=>?_,fun j=>?_,⟨fr++[i],by simp[e1],?_,fun q hq=>?_⟩,?_,by simpa using ha.pE⟩
 ·rcases List.mem_or_eq_of_mem_set hz with h|rfl
  ·exact ha.ok z h
  ·exact amQ
 ·unfold dA
  by_cases e:j=i
  ·subst e
   rw[if_pos rfl]
   simp only
   rw[List.getElem?_set_self WJ,if_neg (by simp)]
  ·rw[if_neg e,ha.is j];simp only;rw[List.getElem?_set_ne (fun h=>e h.symm),List.getElem?_set_ne (fun h=>e h.symm)]
 ·refine List.nodup_append.2 ⟨e2,by simp,fun a iS b hb=>?_⟩
  simp only[List.mem_singleton] at hb
  subst hb
  intro e
  subst e
  have:=e3 a iS
  rw[h1] at this;cases this
 ·rcases List.mem_append.1 hq with hq|hq
  ·by_cases e:q=i
   ·subst e;simp only;rw[List.getElem?_set_self WJ]
   ·simp only;rw[List.getElem?_set_ne (fun h=>e h.symm)];exact e3 q hq
  ·simp only[List.mem_singleton] at hq
   subst hq
   simp only;rw[List.getElem?_set_self WJ]
 ·have:=ha.used
  simp only[List.length_set,List.length_append,List.length_singleton]
  omega
theorem Jn (hn:H n=some ⟨dd,v⟩) (ha:Ar v f u) {i:Nat} {y:Nd} (hf:f i=some y) (hu:0<u) {K:HT [(false,.one .any)]→HP→Prop} (hk:∀v',Ar v' (dA f i none) (u - 1)→K (.nilIface,()) (H.set n dd v')):ND (some n) (i:Int) H K:=SD _ _ _ _ (by
 unfold abY
 obtain⟨h1,h2⟩:=ha.some hf
 have hd:=ha.del hf hu
 have hb:=ha.pE
 have OE:=ha.used
 have hi:=ha.qY i
 have hl:=ha.len
 obtain⟨l,th,fr⟩:=v
 have hj:=(List.getElem?_eq_some_iff.1 h2).1
 have WJ:=(List.getElem?_eq_some_iff.1 h1).1
 have hx:=List.getElem?_eq_getElem hj
 dsimp only at hb OE hj WJ hi hl
 refine k5 _ (fun K' bW=>Ks hn hl i K' bW) (bN (fun h=>?_) fun h=>?_)
 ·have h:qY l th i=false:=h
  rw[hi,hf] at h;cases h
 ·refine ay (aH hn (eG hj (dj hx (eG WJ (dj h1 (bM (by dsimp only;omega) ?_))))))
  have:=hk _ hd
  rw[←rG] at this
  exact this)
theorem rH:ajd .nilIface ():=XX _ fun H K hk=>by
 unfold UX
 exact⟨rfl,bP rfl hk⟩
theorem Jo (x:Nd):aje x (((if x.1=true then x.2.1.length else x.2.2.1.length:Nat):Int),()):=XY x fun H K hk=>by
 unfold UY
 cases h:x.1 with
 |true=>
  rw[if_pos h] at hk
  exact cd rfl (au fun _=>hk)
 |false=>
  rw[if_neg (by rw[h];simp)] at hk
  exact bP rfl (au fun _=>hk)
abbrev THk:AK:=.cons .ref (.cons Ml (.cons Ml (.cons Ml (.cons (.one (.int .i64)) (.cons (.one (.int .i64)) (.cons (.one (.int .i64)) (.one (.int .i64))))))))
abbrev PQ:AK:=.cons .ref (.cons E5 (.cons E5 (.cons E5 (.cons (.one (.int .i64)) (.cons (.one (.int .i64)) (.cons (.one (.int .i64)) (.one (.int .i64))))))))
abbrev TQk:AK:=.cons .ref (.cons Ml (.cons E5 (.cons Ml (.cons (.one (.int .i64)) (.cons (.one (.int .i64)) (.cons (.one (.int .i64)) (.one (.int .i64))))))))
abbrev TPk:AK:=.cons .ref (.cons Ml (.cons Ml (.cons E5 (.cons (.one (.int .i64)) (.cons (.one (.int .i64)) (.cons (.one (.int .i64)) (.one (.int .i64))))))))
theorem acX (ht:H t=some ⟨jO,(some n,root,order,many)⟩) (hn:H n=some ⟨dd,v⟩) (ha:Ar v f u) {iu ia ib bR:Nat} {xu xa xb:Nd} (hu:f iu=some xu) (dZ:xu.2.2.2.1[bR]?=some (ia:Int)) (als:xu.2.2.2.1[bR+1]?=some (ib:Int)) (h1:f ia=some xa) (h2:f ib=some xb)
 {K:HT [(false,.ref)]→HP→Prop} (hk:∀x,H x=none→K (some x,()) (H.set x THk (some t,xu,xa,xb,(bR:Int),(iu:Int),(ia:Int),(ib:Int)))):z_ (some t) (iu:Int) (bR:Int) H K:=SY _ _ _ _ _ (by
 unfold acq
 have aY:=(List.getElem?_eq_some_iff.1 dZ).1
 have aud:=(List.getElem?_eq_some_iff.1 als).1
 have hkb:=(ha.iq hu).kids
 refine ay (aH ht (k6 hn ha hu (eG aY (dj dZ (aaD (i:=bR+1) ?_ aud (dj als (ay (aH ht (k6 hn ha h1 (ay (aH ht (k6 hn ha h2 fun x hx=>hk x hx))))))))))))
 rw[jd (by omega) (by omega)];omega)
end
theorem yW {f:Nat→Option Nd} {i j:Nat} {x:Nd} (h:∃y,f j=some y):∃y,dA f i (some x) j=some y:=by
 by_cases e:j=i
 ·subst e;exact⟨x,g8 _ _ _⟩
 ·rw[cE _ _ e];exact h
theorem amR {H:HP} {x t:Nat} {a:PQ.T} {b:jO.T} (hx:H x=some ⟨PQ,a⟩) (ht:H t=some ⟨jO,b⟩):t≠x:=fun e=>by
 subst e;rw[hx] at ht;injection ht with ht;injection ht with h1;injection h1 with h1 h2;cases h2
theorem amS {H:HP} {x t:Nat} {a:PQ.T} {b:dd.T} (hx:H x=some ⟨PQ,a⟩) (ht:H t=some ⟨dd,b⟩):x≠t:=fun e=>by
 subst e;rw[hx] at ht;injection ht with ht;injection ht with h1;injection h1 with h1 h2;cases h1
section
variable {H:HP} {t n u x:Nat} {v:uD} {f:Nat→Option Nd} {order many root Hu:Int} {iu ia ib:Nat}
theorem agQ {xu xa xb:Nd} (hx:H x=some ⟨PQ,(some t,xu,xa,xb,Hu,(iu:Int),(ia:Int),(ib:Int))⟩) (ht:H t=some ⟨jO,(some n,root,order,many)⟩) (hn:H n=some ⟨dd,v⟩) (ha:Ar v f u)
 (h1:∃y,f iu=some y) (h2:∃y,f ia=some y) (h3:∃y,f ib=some y) (o1:iY xu) (o2:iY xa) (o3:iY xb) {K:HT []→HP→Prop}
 (hk:∀v',Ar v' (dA (dA (dA f iu (some xu)) ia (some xa)) ib (some xb)) u→K () (H.set n dd v')):Aa (some x) H K:=SZ _ _ _ (by
 unfold acr
 have iH:=amR hx ht
 have k7:=amS hx hn
 have WK:=p_ ht hn
 obtain⟨y1,h1⟩:=h1
 refine ay (aH hx (ay (aH ht (ay (aH hx (ay (aH hx (Kt hn ha h1 o1 fun v1 Hw=>ai _ rH ?_))))))))
 have PR:(H.set n dd v1) x=some ⟨PQ,(some t,xu,xa,xb,Hu,(iu:Int),(ia:Int),(ib:Int))⟩:=by rw[cp _ _ _ k7];exact hx
 have RX:(H.set n dd v1) t=some ⟨jO,(some n,root,order,many)⟩:=by rw[cp _ _ _ WK];exact ht
 obtain⟨y2,h2'⟩:=yW (i:=iu) (x:=xu) h2
 refine ay (aH PR (ay (aH RX (ay (aH PR (ay (aH PR (Kt (bU _ _ _ _) Hw h2' o2 fun v2 CX=>ai _ rH ?_))))))))
 rw[h_]
 have hx2:(H.set n dd v2) x=some ⟨PQ,(some t,xu,xa,xb,Hu,(iu:Int),(ia:Int),(ib:Int))⟩:=by rw[cp _ _ _ k7];exact hx
 have E6:(H.set n dd v2) t=some ⟨jO,(some n,root,order,many)⟩:=by rw[cp _ _ _ WK];exact ht
 obtain⟨y3,h3'⟩:=yW (i:=ia) (x:=xa) (yW (i:=iu) (x:=xu) h3)
 refine ay (aH hx2 (ay (aH E6 (ay (aH hx2 (ay (aH hx2 (Kt (bU _ _ _ _) CX h3' o3 fun v3 ha3=>ai _ rH ?_))))))))
 rw[h_]
 exact hk v3 ha3)
theorem qc {xu xa xb:Nd} (iH:t≠x) (k7:n≠x) (ht:H t=some ⟨jO,(some n,root,order,many)⟩) (hn:H n=some ⟨dd,v⟩) (ha:Ar v f u)
 (h1:∃y,f iu=some y) (h2:∃y,f ia=some y) (h3:∃y,f ib=some y) (o1:iY xu) (o2:iY xa) (o3:iY xb) {K:HT []→HP→Prop}
 (hk:∀v' H',Ar v' (dA (dA (dA f iu (some xu)) ia (some xa)) ib (some xb)) u→Fm [n,x] H H'→H' n=some ⟨dd,v'⟩→H' x=some ⟨PQ,(some t,xu,xa,xb,Hu,(iu:Int),(ia:Int),(ib:Int))⟩→K () H'):Aa (some x) ((H.del x).set x PQ (some t,xu,xa,xb,Hu,(iu:Int),(ia:Int),(ib:Int))) K:=by
 rw[rG]
 refine agQ (bU _ _ _ _) (by rw[cp _ _ _ iH];exact ht) (by rw[cp _ _ _ k7];exact hn) ha h1 h2 h3 o1 o2 o3 fun v' iS=>hk v' _ iS ?_ (bU _ _ _ _) ?_
 ·exact((Fm.refl _ _).set (by simp) _ _).set (by simp) _ _
 ·rw[cp _ _ _ k7.symm];exact bU _ _ _ _
theorem fu {x:Nd} (h1:x.2.2.2.1.length≤1000000000) (h2:x.2.1.length≤1000000000) (h3:x.2.2.1.length≤1000000000) (h4:∀p∈x.2.1,p.1.length≤140737488355328∧p.2.length≤140737488355328) (h5:∀k∈x.2.2.1,k.length≤140737488355328):iY x:=⟨h1,h2,h3,h4,h5⟩
theorem tA {α:Type} {l:List α} {i:Nat} {a b:α} (h:b∈l.set i a):b∈l∨b=a:=List.mem_or_eq_of_mem_set h
theorem K9 {bu lb:Bool} {pu pa pb:List Pr} {p:Pr} {ku k1 k2:List Key} {du d1 d2:List Int} {nu n1 n2:Int} {bR:Nat}
 (hx:H x=some ⟨TQk,(some t,(bu,pu,ku,du,nu),(true,pa++[p],k1,d1,n1),(lb,pb,k2,d2,n2),(bR:Int),(iu:Int),(ia:Int),(ib:Int))⟩) (iH:t≠x) (k7:n≠x) (ht:H t=some ⟨jO,(some n,root,order,many)⟩) (hn:H n=some ⟨dd,v⟩) (ha:Ar v f u)
 (h1:f iu=some (bu,pu,ku,du,nu)) (h2:f ia=some (true,pa++[p],k1,d1,n1)) (h3:f ib=some (lb,pb,k2,d2,n2)) (dZ:bR<ku.length) (hpa:pa.length≤100000) (hb:pb.length≤100000) {K:HT []→HP→Prop}
 (hk:∀v' H',Ar v' (dA (dA (dA f iu (some (bu,pu,ku.set bR p.1,du,nu))) ia (some (true,pa,k1,d1,n1))) ib (some (lb,p::pb,k2,d2,n2))) u→Fm [n,x] H H'→H' n=some ⟨dd,v'⟩→K () H'):NQ (some x) H K:=F' _ _ _ (by
 unfold UZ
 have o1:=ha.iq h1
 have o2:=ha.iq h2
 have o3:=ha.iq h3
 have j6:=o2.short p (by simp)
 have hlen:(pa++[p]).length=pa.length+1:=by simp
 refine ay (aH hx (cd rfl (au fun _=>?_)))
 dsimp only
 rw[hlen,show(((pa.length+1:Nat):Int)- 1)=(pa.length:Int) from by omega,jd (by omega) (by omega)]
 refine b_ (i:=pa.length) rfl (x:=p) (by simp) (gj (a:=0) (b:=pa.length) rfl rfl (Nat.zero_le _) (by omega) ?_)
 rw[Nat.sub_zero,sub_zero,List.take_left']
 ·refine RY pb [p] 0 (Nat.zero_le _) (by simp;omega) (eG dZ (dj (List.getElem?_eq_getElem dZ) ?_))
  simp only[List.take_zero,List.nil_append,List.drop_zero,List.singleton_append]
  refine qc iH k7 ht hn ha ⟨_,h1⟩ ⟨_,h2⟩ ⟨_,h3⟩ ?_ ?_ ?_ fun v' H' iS hf mC _=>hk v' H' iS hf mC
  ·exact fu o1.kids o1.lK (by simpa using o1.keys) o1.short fun k bW=>by
    rcases tA bW with h|rfl
    ·exact o1.low k h
    ·exact j6.1
  ·exact fu o2.kids (by simp only;omega) o2.keys (fun q hq=>o2.short q (by simp only at hq⊢;simp[hq])) o2.low
  ·exact fu o3.kids (by simp only[List.length_cons];omega) o3.keys (fun q hq=>by
    rcases List.mem_cons.1 hq with rfl|hq
    ·exact j6
    ·exact o3.short q hq) o3.low
 ·rfl)
theorem K_ {bu lb:Bool} {pu pa pb:List Pr} {y k:Key} {ku ka kb:List Key} {z:Int} {du da db:List Int} {nu n1 n2:Int} {bR:Nat}
 (hx:H x=some ⟨TQk,(some t,(bu,pu,ku,du,nu),(false,pa,ka++[y],da++[z],n1),(lb,pb,kb,db,n2),(bR:Int),(iu:Int),(ia:Int),(ib:Int))⟩) (iH:t≠x) (k7:n≠x) (ht:H t=some ⟨jO,(some n,root,order,many)⟩) (hn:H n=some ⟨dd,v⟩) (ha:Ar v f u)
 (h1:f iu=some (bu,pu,ku,du,nu)) (h2:f ia=some (false,pa,ka++[y],da++[z],n1)) (h3:f ib=some (lb,pb,kb,db,n2)) (dZ:ku[bR]?=some k) (Wt:da.length=ka.length+1) (hpa:ka.length≤100000) (hb:kb.length≤100000) (hdb:db.length≤100000) {K:HT []→HP→Prop}
 (hk:∀v' H',Ar v' (dA (dA (dA f iu (some (bu,pu,ku.set bR y,du,nu))) ia (some (false,pa,ka,da,n1))) ib (some (lb,pb,k::kb,z::db,n2))) u→Fm [n,x] H H'→H' n=some ⟨dd,v'⟩→K () H'):NQ (some x) H K:=F' _ _ _ (by
 unfold UZ
 have o1:=ha.iq h1
 have o2:=ha.iq h2
 have o3:=ha.iq h3
 have FR:=(List.getElem?_eq_some_iff.1 dZ).1
 have Ao:=o1.low k (List.mem_of_getElem? dZ)
 have hlen:(ka++[y]).length=ka.length+1:=by simp
 have ayx:(da++[z]).length=da.length+1:=by simp
 refine ay (aH hx (bP rfl (au fun _=>eG FR (dj dZ ?_))))
 dsimp only
 rw[hlen,show(((ka.length+1:Nat):Int)- 1)=(ka.length:Int) from by omega,jd (x:=(ka.length:Int)) (by omega) (by omega),jd (by omega) (by omega)]
 refine b_ (i:=da.length) (by omega) (x:=z) (by simp) ?_
 refine RZ kb [k] 0 (Nat.zero_le _) (by simp;omega) (R0 db [z] 0 (Nat.zero_le _) (by simp;omega) (b_ (i:=ka.length) rfl (x:=y) (by simp) (eG FR (dj dZ ?_))))
 refine gj (a:=0) (b:=ka.length) rfl rfl (Nat.zero_le _) (by omega) (gj (a:=0) (b:=da.length) rfl (by omega) (Nat.zero_le _) (by omega) ?_)
 rw[Nat.sub_zero,Nat.sub_zero,sub_zero,sub_zero,List.take_left' rfl,List.take_left' rfl]
 simp only[List.take_zero,List.nil_append,List.drop_zero,List.singleton_append]
 refine qc iH k7 ht hn ha ⟨_,h1⟩ ⟨_,h2⟩ ⟨_,h3⟩ ?_ ?_ ?_ fun v' H' iS hf mC _=>hk v' H' iS hf mC
 ·exact fu o1.kids o1.lK (by simpa using o1.keys) o1.short fun q hq=>by
   rcases tA hq with h|rfl
   ·exact o1.low q h
   ·exact o2.low q (by simp)
 ·exact fu (by simp only;omega) o2.lK (by simp only;omega) o2.short fun q hq=>o2.low q (by simp only at hq⊢;simp[hq])
 ·exact fu (by simp only[List.length_cons];omega) o3.lK (by simp only[List.length_cons];omega) o3.short fun q hq=>by
   rcases List.mem_cons.1 hq with rfl|hq
   ·exact Ao
   ·exact o3.low q hq)
theorem PS {bu lb:Bool} {pu pa pb:List Pr} {p q:Pr} {ku k1 k2:List Key} {du d1 d2:List Int} {nu n1 n2:Int} {bR:Nat}
 (hx:H x=some ⟨TPk,(some t,(bu,pu,ku,du,nu),(true,pa,k1,d1,n1),(lb,p::q::pb,k2,d2,n2),(bR:Int),(iu:Int),(ia:Int),(ib:Int))⟩) (iH:t≠x) (k7:n≠x) (ht:H t=some ⟨jO,(some n,root,order,many)⟩) (hn:H n=some ⟨dd,v⟩) (ha:Ar v f u)
 (h1:f iu=some (bu,pu,ku,du,nu)) (h2:f ia=some (true,pa,k1,d1,n1)) (h3:f ib=some (lb,p::q::pb,k2,d2,n2)) (dZ:bR<ku.length) (hpa:pa.length≤100000) {K:HT []→HP→Prop}
 (hk:∀v' H',Ar v' (dA (dA (dA f iu (some (bu,pu,ku.set bR q.1,du,nu))) ia (some (true,pa++[p],k1,d1,n1))) ib (some (lb,q::pb,k2,d2,n2))) u→Fm [n,x] H H'→H' n=some ⟨dd,v'⟩→K () H'):JR (some x) H K:=Gb _ _ _ (by
 unfold U0
 have o1:=ha.iq h1
 have o2:=ha.iq h2
 have o3:=ha.iq h3
 refine ay (aH hx (cd rfl ?_))
 dsimp only
 refine b_ (i:=0) rfl (x:=p) rfl (gj (a:=1) (b:=(p::q::pb).length) rfl rfl (by simp) (Nat.le_refl _) (bM (by omega) ?_))
 rw[fT]
 refine b_ (i:=0) rfl (x:=q) rfl (eG dZ (dj (List.getElem?_eq_getElem dZ) ?_))
 refine qc iH k7 ht hn ha ⟨_,h1⟩ ⟨_,h2⟩ ⟨_,h3⟩ ?_ ?_ ?_ fun v' H' iS hf mC _=>hk v' H' iS hf mC
 ·exact fu o1.kids o1.lK (by simpa using o1.keys) o1.short fun k bW=>by
   rcases tA bW with h|rfl
   ·exact o1.low k h
   ·exact(o3.short q (by simp)).1
 ·exact fu o2.kids (by simp only[List.length_append,List.length_singleton];omega) o2.keys (fun r hr=>by
   rcases List.mem_append.1 hr with hr|hr
   ·exact o2.short r hr
   ·rw[List.mem_singleton.1 hr];exact o3.short p (by simp)) o2.low
 ·exact fu o3.kids (by have:=o3.lK;simp at this⊢;omega) o3.keys (fun r hr=>o3.short r (by
   have:r∈q::pb:=hr
   simp only[List.mem_cons] at this⊢
   exact .inr this)) o3.low)
theorem PT {bu lb:Bool} {pu pa pb:List Pr} {y k:Key} {ku ka kb:List Key} {z:Int} {du da db:List Int} {nu n1 n2:Int} {bR:Nat}
 (hx:H x=some ⟨TPk,(some t,(bu,pu,ku,du,nu),(false,pa,ka,da,n1),(lb,pb,y::kb,z::db,n2),(bR:Int),(iu:Int),(ia:Int),(ib:Int))⟩) (iH:t≠x) (k7:n≠x) (ht:H t=some ⟨jO,(some n,root,order,many)⟩) (hn:H n=some ⟨dd,v⟩) (ha:Ar v f u)
 (h1:f iu=some (bu,pu,ku,du,nu)) (h2:f ia=some (false,pa,ka,da,n1)) (h3:f ib=some (lb,pb,y::kb,z::db,n2)) (dZ:ku[bR]?=some k) (hpa:ka.length≤100000) (hda:da.length≤100000) {K:HT []→HP→Prop}
 (hk:∀v' H',Ar v' (dA (dA (dA f iu (some (bu,pu,ku.set bR y,du,nu))) ia (some (false,pa,ka++[k],da++[z],n1))) ib (some (lb,pb,kb,db,n2))) u→Fm [n,x] H H'→H' n=some ⟨dd,v'⟩→K () H'):JR (some x) H K:=Gb _ _ _ (by
 unfold U0
 have o1:=ha.iq h1
 have o2:=ha.iq h2
 have o3:=ha.iq h3
 have FR:=(List.getElem?_eq_some_iff.1 dZ).1
 have Ao:=o1.low k (List.mem_of_getElem? dZ)
 refine ay (aH hx (bP rfl (eG FR (dj dZ ?_))))
 dsimp only
 refine b_ (i:=0) rfl (x:=z) rfl (bM (by omega) (bM (by omega) (b_ (i:=0) rfl (x:=y) rfl (eG FR (dj dZ ?_)))))
 refine gj (a:=1) (b:=(y::kb).length) rfl rfl (by simp) (Nat.le_refl _) (gj (a:=1) (b:=(z::db).length) rfl rfl (by simp) (Nat.le_refl _) ?_)
 rw[fT,fT]
 refine qc iH k7 ht hn ha ⟨_,h1⟩ ⟨_,h2⟩ ⟨_,h3⟩ ?_ ?_ ?_ fun v' H' iS hf mC _=>hk v' H' iS hf mC
 ·exact fu o1.kids o1.lK (by simpa using o1.keys) o1.short fun q hq=>by
   rcases tA hq with h|rfl
   ·exact o1.low q h
   ·exact o3.low q (by simp)
 ·exact fu (by simp only[List.length_append,List.length_singleton];omega) o2.lK (by simp only[List.length_append,List.length_singleton];omega) o2.short fun q hq=>by
   rcases List.mem_append.1 hq with hq|hq
   ·exact o2.low q hq
   ·rw[List.mem_singleton.1 hq];exact Ao
 ·exact fu (by have:=o3.kids;simp at this⊢;omega) o3.lK (by have:=o3.keys;simp at this⊢;omega) o3.short fun q hq=>o3.low q (by
   have:q∈kb:=hq
   simp[this]))
end
section
variable {H:HP} {t n u x:Nat} {v:uD} {f:Nat→Option Nd} {order many root Hu:Int} {iu ia ib:Nat}
theorem Lc {bu lb:Bool} {pu pa pb:List Pr} {ku k1 k2:List Key} {du d1 d2:List Int} {nu n1 n2:Int} {bR:Nat} (hu:0<u)
 (hx:H x=some ⟨THk,(some t,(bu,pu,ku,du,nu),(true,pa,k1,d1,n1),(lb,pb,k2,d2,n2),(bR:Int),(iu:Int),(ia:Int),(ib:Int))⟩) (iH:t≠x) (k7:n≠x) (ht:H t=some ⟨jO,(some n,root,order,many)⟩) (hn:H n=some ⟨dd,v⟩) (ha:Ar v f u)
 (h1:f iu=some (bu,pu,ku,du,nu)) (h2:f ia=some (true,pa,k1,d1,n1)) (h3:f ib=some (lb,pb,k2,d2,n2)) (dZ:bR<ku.length) (hdu:bR+2≤du.length) (hku:ku.length≤100000) (aue:du.length≤100000) (hpa:pa.length≤100000) (hb:pb.length≤100000) {K:HT []→HP→Prop}
 (hk:∀v' H',Ar v' (dA (dA (dA (dA f iu (some (bu,pu,ku.take bR++ku.drop (bR+1),du.take (bR+1)++du.drop (bR+2),nu))) ia (some (true,pa++pb,k1,d1,n2))) ib (some (lb,pb,k2,d2,n2))) ib none) (u - 1)→Fm [n,x] H H'→H' n=some ⟨dd,v'⟩→K () H'):Bo (some x) H K:=Gc _ _ _ (by
 unfold U1
 have o1:=ha.iq h1
 have o2:=ha.iq h2
 have o3:=ha.iq h3
 have WK:=p_ ht hn
 refine ay (aH hx (cd rfl (bM (by dsimp only;omega) ?_)))
 dsimp only
 rw[show(bR:Int)+1=((bR+1:Nat):Int) from by omega,show(bR:Int)+2=((bR+2:Nat):Int) from by omega,jd (by omega) (by omega),jd (by omega) (by omega)]
 refine RV ku bR (bR+1) (by omega) (by omega) (by omega) (RW du (bR+1) (bR+2) (by omega) (by omega) (by omega) ?_)
 refine qc iH k7 ht hn ha ⟨_,h1⟩ ⟨_,h2⟩ ⟨_,h3⟩ ?_ ?_ ?_ fun v1 H1 Hw PU hn1 PR=>?_
 ·exact fu (by simp only[List.length_append,List.length_take,List.length_drop];omega) o1.lK (by simp only[List.length_append,List.length_take,List.length_drop];omega) o1.short fun q hq=>o1.low q (by
   rcases List.mem_append.1 hq with hq|hq
   ·exact List.mem_of_mem_take hq
   ·exact List.mem_of_mem_drop hq)
 ·exact fu o2.kids (by simp only[List.length_append];omega) o2.keys (fun r hr=>by
   rcases List.mem_append.1 hr with hr|hr
   ·exact o2.short r hr
   ·exact o3.short r hr) o2.low
 ·exact o3
 ·have RX:H1 t=some ⟨jO,(some n,root,order,many)⟩:=by rw[PU t (by simp[WK,iH])];exact ht
  refine aH PR (ay (aH RX (aH PR (Jn hn1 Hw (g8 _ _ _) hu fun v2 CX=>ai _ rH (hk v2 _ CX (PU.set (by simp) _ _) (bU _ _ _ _))))))
  )
theorem Ld {bu lb:Bool} {pu pa pb:List Pr} {k:Key} {ku ka kb:List Key} {du da db:List Int} {nu n1 n2:Int} {bR:Nat} (hu:0<u)
 (hx:H x=some ⟨THk,(some t,(bu,pu,ku,du,nu),(false,pa,ka,da,n1),(lb,pb,kb,db,n2),(bR:Int),(iu:Int),(ia:Int),(ib:Int))⟩) (iH:t≠x) (k7:n≠x) (ht:H t=some ⟨jO,(some n,root,order,many)⟩) (hn:H n=some ⟨dd,v⟩) (ha:Ar v f u)
 (h1:f iu=some (bu,pu,ku,du,nu)) (h2:f ia=some (false,pa,ka,da,n1)) (h3:f ib=some (lb,pb,kb,db,n2)) (dZ:ku[bR]?=some k) (hdu:bR+2≤du.length) (hku:ku.length≤100000) (aue:du.length≤100000) (hka:ka.length≤100000) (hkb:kb.length≤100000) (hda:da.length≤100000) (hdb:db.length≤100000) {K:HT []→HP→Prop}
 (hk:∀v' H',Ar v' (dA (dA (dA (dA f iu (some (bu,pu,ku.take bR++ku.drop (bR+1),du.take (bR+1)++du.drop (bR+2),nu))) ia (some (false,pa,ka++k::kb,da++db,n1))) ib (some (lb,pb,kb,db,n2))) ib none) (u - 1)→Fm [n,x] H H'→H' n=some ⟨dd,v'⟩→K () H'):Bo (some x) H K:=Gc _ _ _ (by
 unfold U1
 have o1:=ha.iq h1
 have o2:=ha.iq h2
 have o3:=ha.iq h3
 have WK:=p_ ht hn
 have FR:=(List.getElem?_eq_some_iff.1 dZ).1
 have Ao:=o1.low k (List.mem_of_getElem? dZ)
 refine ay (aH hx (bP rfl (eG FR (dj dZ (bM (by dsimp only;omega) (bM (by dsimp only;simp only[List.length_append,List.length_singleton];omega) (bM (by dsimp only;omega) ?_)))))))
 dsimp only
 rw[show(bR:Int)+1=((bR+1:Nat):Int) from by omega,show(bR:Int)+2=((bR+2:Nat):Int) from by omega,jd (by omega) (by omega),jd (by omega) (by omega),show ka++[k]++kb=ka++k::kb from by simp]
 refine RV ku bR (bR+1) (by omega) (by omega) (by omega) (RW du (bR+1) (bR+2) (by omega) (by omega) (by omega) ?_)
 refine qc iH k7 ht hn ha ⟨_,h1⟩ ⟨_,h2⟩ ⟨_,h3⟩ ?_ ?_ ?_ fun v1 H1 Hw PU hn1 PR=>?_
 ·exact fu (by simp only[List.length_append,List.length_take,List.length_drop];omega) o1.lK (by simp only[List.length_append,List.length_take,List.length_drop];omega) o1.short fun q hq=>o1.low q (by
   rcases List.mem_append.1 hq with hq|hq
   ·exact List.mem_of_mem_take hq
   ·exact List.mem_of_mem_drop hq)
 ·exact fu (by simp only[List.length_append];omega) o2.lK (by simp only[List.length_append,List.length_cons];omega) o2.short fun q hq=>by
   rcases List.mem_append.1 hq with hq|hq
   ·exact o2.low q hq
   ·rcases List.mem_cons.1 hq with rfl|hq
    ·exact Ao
    ·exact o3.low q hq
 ·exact o3
 ·have RX:H1 t=some ⟨jO,(some n,root,order,many)⟩:=by rw[PU t (by simp[WK,iH])];exact ht
  refine aH PR (ay (aH RX (aH PR (Jn hn1 Hw (g8 _ _ _) hu fun v2 CX=>ai _ rH (hk v2 _ CX (PU.set (by simp) _ _) (bU _ _ _ _))))))
  )
def ez (l:List (Nat×Nat)):List (Int×Int):=l.map fun p=>((p.1:Int),(p.2:Int))
theorem agR (ht:H t=some ⟨jO,(some n,root,order,many)⟩) (hn:H n=some ⟨dd,v⟩) (ha:Ar v f u) {o hh:Nat} {T:Tr hh} (AE:root=(T.id:Int)) (hr:fR f T) (hz:Sz o ((.top:Ctx hh hh).lo o) o T) (ho:Ord (fl T)) (auf:hh≤1000000) (k:Key)
 {K:HT [(false,.row (.cons (.one (.int .i64)) (.one (.int .i64))))]→HP→Prop}
 (hk:∀(c:Ctx 0 hh) (i:Nat) (ps:List Pr),aZ c (Tr.lf i ps)=T→c.Sz o→Sz o (c.lo o) o (Tr.lf i ps)→(∀y∈c.l,CY k y)→(∀y∈c.r,Jp k y)→K (ez c.steps++[((i:Int),0)],()) H):abv (some t) k H K:=SV _ _ _ _ (by
 unfold acp
 refine ay (aH ht ?_)
 refine gY hh (fun i st H'=>H'=H∧∃(h:Nat) (c:Ctx h hh) (s:Tr h),h+i=hh∧st=((some t,k,ez c.steps,(s.id:Int),()),())∧aZ c s=T∧c.steps.length=i∧c.Sz o∧Sz o (c.lo o) o s∧Ord (fl s)∧(∀y∈c.l,CY k y)∧(∀y∈c.r,Jp k y)) ⟨rfl,hh,.top,T,rfl,by rw[AE];rfl,rfl,rfl,trivial,hz,ho,fun y hy=>(by simp[Ctx.l] at hy),fun y hy=>(by simp[Ctx.r] at hy)⟩ ?_
 rintro i st H' C jc ⟨rfl,h,c,s,Gw,rfl,o7,tQ,hc,Ce,hos,hl,mw⟩ hC
 have CN:fR f s:=((en c s).1 (by rw[o7];exact hr)).2
 dsimp only at hC⊢
 have ayy:(ez c.steps).length=i:=by simp[ez,tQ]
 refine ay (aH ht ?_)
 cases h with
 |zero=>
  obtain⟨j,ps,rfl⟩:=s.sm
  obtain⟨ks,kd,nx,hf⟩:=gp.1 CN
  refine k6 hn ha hf (bN (fun h=>by cases h) fun _=>cd rfl (bM (by omega) (hk c j ps o7 hc Ce hl mw)))
 |succ h=>
  obtain⟨j,ks,l,rfl⟩:=s.sn
  obtain⟨⟨ps,nx,hf⟩,hrk⟩:=bV.1 CN
  obtain⟨_,_,h3,h4⟩:=e8.1 Ce
  have hs:bO ks:=tB (ls:=l.map fl) (by rw[List.length_map];omega) hos
  have cJ:=ha.iq hf
  obtain⟨y,fr,hy,aaf,cP,Bb,GL,Ww,nG,oN,aug⟩:=CZ hc Ce hos hl mw
  have WL:=C0 ks k
  have hub:=Mm hs k
  have hkb:ks.length≤1000000000:=cJ.keys
  have Vz:(ez c.steps++[((j:Int),((iI ks k:Nat):Int))])=ez (Ctx.down c fr).steps:=by
   simp[ez,Ctx.steps,cP,Bb]
  have next:∀z:Int,z=(iI ks k:Nat)→cR (ez c.steps).length 1 16 (bT (l.map (fun k=>(k.id:Int))) z fun vT=>C ((some t,k,ez c.steps++[((j:Int),z)],vT,()),()) H'):=by
   rintro z rfl
   refine bM (by omega) (b_ (i:=iI ks k) rfl (x:=(y.id:Int)) (by rw[List.getElem?_map,hy];rfl) ?_)
   rw[Vz]
   refine hC (by omega) _ _ ⟨rfl,h,.down c fr,y,by omega,rfl,?_,?_,GL,Ww,nG,oN,aug⟩
   ·rw[aZ,aaf];exact o7
   ·simp[Ctx.steps,tQ]
  refine k6 hn ha hf (bN (fun h=>by cases h) fun _=>bP rfl (ai _ (C_ ks k hs hkb) (bf (cM (fun h=>?_) fun h=>?_))))
  ·have h:cK (sq ks) k=true:=h
   have e:Da ks k=lb (sq ks) k+1:=by unfold Da;rw[if_pos h]
   dsimp only
   exact next _ (by rw[w1 (by omega)];omega)
  ·have h:cK (sq ks) k=false:=h
   have e:Da ks k=lb (sq ks) k:=by unfold Da;rw[if_neg (by rw[h];simp)]
   dsimp only
   exact next _ (by omega))
end
theorem Ku {f:Nat→Option Nd} {i ia ib:Nat} {X Y Z:Option Nd} (h1:i≠ia) (h2:i≠ib) (h3:ia≠ib):let g:=dA (dA (dA f i X) ia Y) ib Z
 g i=X∧g ia=Y∧g ib=Z∧∀j,j≠i→j≠ia→j≠ib→g j=f j:=
 ⟨by rw[cE _ _ h2,cE _ _ h1,g8],by rw[cE _ _ h3,g8],g8 _ _ _,fun j a b c=>by rw[cE _ _ c,cE _ _ b,cE _ _ a]⟩
section
variable {h hh i:Nat} {ka kb:List Key} {k:Key} {A B:List (Tr h)} {a b:Tr h} {f:Nat→Option Nd} {u o:Nat} {c:Ctx (h+1) hh}
structure Two (f:Nat→Option Nd) (u i:Nat) (ka:List Key) (k:Key) (kb:List Key) (A:List (Tr h)) (a b:Tr h) (B:List (Tr h)):Prop where
 root:∃pu nu,f i=some (false,pu,ka++k::kb,(A++a::b::B).map (fun k=>(k.id:Int)),nu)
 rep:fR f (Tr.nd i (ka++k::kb) (A++a::b::B))
 nd:(ids (Tr.nd i (ka++k::kb) (A++a::b::B))).Nodup
 ra:fR f a
 rb:fR f b
 na:i≠a.id
 nb:i≠b.id
 ab:a.id≠b.id
 nab:(ids a++ids b).Nodup
 out:i∉ids a++ids b
 pos:0<u
theorem uE (hm:jw f u (aZ c (Tr.nd i (ka++k::kb) (A++a::b::B)))):Two f u i ka k kb A a b B:=by
 have hp:=gz c (Tr.nd i (ka++k::kb) (A++a::b::B))
 have eF:=(List.nodup_append.1 ((hp.nodup_iff).1 hm.nd)).2.1
 have hr:=((en c _).1 hm.rep).2
 obtain⟨⟨pu,nu,h1⟩,h2⟩:=bV.1 hr
 have alv:=eF
 rw[kh] at alv
 obtain⟨WM,Wx⟩:=List.nodup_cons.1 alv
 have yg:=(List.nodup_append.1 (List.nodup_append.1 Wx).1).2.1
 have OR:i∉ids a++ids b:=fun hm=>WM (by simp only[List.mem_append] at hm⊢;exact .inl (.inr hm))
 refine⟨⟨pu,nu,h1⟩,hr,eF,h2 a (by simp),h2 b (by simp),fun e=>OR (by rw[e];exact List.mem_append.2 (.inl (jx a))),fun e=>OR (by rw[e];exact List.mem_append.2 (.inr (jx b))),fun e=>(List.nodup_append.1 yg).2.2 a.id (jx a) b.id (jx b) e,yg,OR,?_⟩
 rw[hm.used,hp.length_eq];simp
 omega
theorem xz {x y:Key} {a b:List Key}:(a++x::b).set a.length y=a++y::b:=by
 rw[List.set_append_right _ _ (Nat.le_refl _)];simp
theorem Mn {α:Type} {x:α} {a b:List α}:(a++x::b).take a.length++(a++x::b).drop (a.length+1)=a++b:=by
 rw[List.take_left' rfl,←List.drop_drop,List.drop_left' rfl];rfl
theorem Ua {α:Type} {x y:α} {a b:List α}:(a++x::y::b).take (a.length+1)++(a++x::y::b).drop (a.length+2)=a++x::b:=by
 have e1:a++x::y::b=(a++[x])++y::b:=by simp
 have e2:(a++[x]).length=a.length+1:=by simp
 rw[e1,show a.length+2=a.length+1+1 from rfl,←e2,Mn];simp
theorem Db {s:Nat} {a' b':Tr h} {k':Key} (hl:ka.length=A.length) (hr:kb.length=B.length) (pN:ka.length+kb.length+1≤o) (hA:∀x∈A,Sz o (o/2) o x) (hB:∀x∈B,Sz o (o/2) o x) (ha:Sz o (o/2) o a') (hb:Sz o (o/2) o b'):Sz o (ka.length+kb.length) o (Tr.nd i (ka++k'::kb) (A++a'::b'::B)):=by
 refine e8.2 ⟨by simp only[List.length_append,List.length_cons];omega,by simp only[List.length_append,List.length_cons];omega,by simp only[List.length_append,List.length_cons];omega,fun x hx=>?_⟩
 rcases List.mem_append.1 hx with hx|hx
 ·exact hA x hx
 ·rcases List.mem_cons.1 hx with rfl|hx
  ·exact ha
  ·rcases List.mem_cons.1 hx with rfl|hx
   ·exact hb
   ·exact hB x hx
theorem R1 {m:Tr h} (hl:ka.length=A.length) (hr:kb.length=B.length) (pN:ka.length+kb.length+1≤o) (hA:∀x∈A,Sz o (o/2) o x) (hB:∀x∈B,Sz o (o/2) o x) (ha:Sz o (o/2) o m):Sz o (ka.length+kb.length) o (Tr.nd i (ka++kb) (A++m::B)):=by
 refine e8.2 ⟨by simp only[List.length_append];omega,by simp only[List.length_append];omega,by simp only[List.length_append,List.length_cons];omega,fun x hx=>?_⟩
 rcases List.mem_append.1 hx with hx|hx
 ·exact hA x hx
 ·rcases List.mem_cons.1 hx with rfl|hx
  ·exact ha
  ·exact hB x hx
end
section
variable {H:HP} {t n u x o:Nat} {v:uD} {f:Nat→Option Nd} {many root:Int} {h hh i:Nat} {ka kb:List Key} {k:Key} {A B:List (Tr h)} {a b:Tr h} {c:Ctx (h+1) hh} {xu xa xb:Nd}
theorem Ub (h3:3≤o) (vM:o≤16) (hl:ka.length=A.length) (Hy:kb.length=B.length) (pN:ka.length+kb.length+1≤o) (hA:∀x∈A,Sz o (o/2) o x) (hB:∀x∈B,Sz o (o/2) o x) (Dc:Sz o (o/2) o a) (pt:o/2<a.size) (E7:Sz o (o/2 - 1) o b) (xA:b.size<o/2) (hc:c.Sz o)
 (hx:H x=some ⟨TQk,(some t,xu,xa,xb,(A.length:Int),(i:Int),(a.id:Int),(b.id:Int))⟩) (hxu:f i=some xu) (PV:f a.id=some xa) (PY:f b.id=some xb) (iH:t≠x) (k7:n≠x) (ht:H t=some ⟨jO,(some n,root,(o:Int),many)⟩) (hn:H n=some ⟨dd,v⟩) (ha:Ar v f u) (hm:jw f u (aZ c (Tr.nd i (ka++k::kb) (A++a::b::B))))
 {K:HT []→HP→Prop} (hk:∀v' f' u' (P':Tr (h+1)) H',Ar v' f' u'→jw f' u' (aZ c P')→aR (aZ c P')=aR (aZ c (Tr.nd i (ka++k::kb) (A++a::b::B)))→P'.id=i→Sz o (ka.length+kb.length) o P'→Fm [n,x] H H'→H' n=some ⟨dd,v'⟩→K () H'):NQ (some x) H K:=by
 have T:=uE hm
 obtain⟨pu,nu,hr⟩:=T.root
 obtain rfl:=Option.some.inj (hxu.symm.trans hr)
 cases h with
 |zero=>
  obtain⟨ia,pa,rfl⟩:=a.sm
  obtain⟨ib,pb,rfl⟩:=b.sm
  obtain⟨k1,d1,n1,fa⟩:=gp.1 T.ra
  obtain⟨k2,d2,n2,fb⟩:=gp.1 T.rb
  obtain rfl:=Option.some.inj (PV.symm.trans fa)
  obtain rfl:=Option.some.inj (PY.symm.trans fb)
  obtain⟨a1,a2⟩:=gq.1 Dc
  obtain⟨b1,b2⟩:=gq.1 E7
  have pt:o/2<pa.length:=pt
  have xA:pb.length<o/2:=xA
  rcases List.eq_nil_or_concat pa with h0|⟨Bc,p,h0⟩
  ·rw[h0] at pt;simp at pt
  rw[List.concat_eq_append] at h0
  subst h0
  have o7:(Bc++[p]).length=Bc.length+1:=by simp
  rw[←hl] at hx
  refine K9 hx iH k7 ht hn ha hr fa fb (by simp) (by omega) (by omega) fun v' H' iS hf mC=>?_
  rw[xz] at iS
  obtain⟨g1,g2,g3,g4⟩:=Ku (f:=f) (X:=some (false,pu,ka++p.1::kb,(A++Tr.lf ia (Bc++[p])::Tr.lf ib pb::B).map (fun k=>(k.id:Int)),nu)) (Y:=some (true,Bc,k1,d1,n1)) (Z:=some (true,p::pb,k2,d2,n2)) T.na T.nb T.ab
  simp only[QM] at g1 g2 g3 g4
  have FT:=Hz (k:=k) (y:=p) (pa:=Bc++[p]) (pb:=pb) (Bc:=Bc) (Dd:=pb) (by simp) (fun e=>by rw[e] at pt;simp at pt;omega) fa fb g2 g3
  have Jq:=FT.WN hl T.rep T.nd g1 fun j e1 e2 e3=>g4 j e1 (by simpa using e2) (by simpa using e3)
  obtain⟨m1,m2⟩:=hm.swap hc Jq
  refine hk v' _ _ _ H' iS m1 m2 rfl (Db (s:=0) hl Hy pN hA hB (gq.2 ⟨by omega,by omega⟩) (gq.2 ⟨by simp only[List.length_cons];omega,by simp only[List.length_cons];omega⟩)) hf mC
 |succ h=>
  obtain⟨ia,qa,La,rfl⟩:=a.sn
  obtain⟨ib,qb,Lb,rfl⟩:=b.sn
  obtain⟨⟨p1,n1,fa⟩,ka1⟩:=bV.1 T.ra
  obtain⟨⟨p2,n2,fb⟩,kb1⟩:=bV.1 T.rb
  obtain rfl:=Option.some.inj (PV.symm.trans fa)
  obtain rfl:=Option.some.inj (PY.symm.trans fb)
  obtain⟨a1,a2,a3,a4⟩:=e8.1 Dc
  obtain⟨b1,b2,b3,b4⟩:=e8.1 E7
  have pt:o/2<qa.length:=pt
  have xA:qb.length<o/2:=xA
  rcases List.eq_nil_or_concat qa with h0|⟨R2,y,h0⟩
  ·rw[h0] at pt;simp at pt
  rw[List.concat_eq_append] at h0
  subst h0
  have o7:(R2++[y]).length=R2.length+1:=by simp
  rcases List.eq_nil_or_concat La with h0|⟨vN,z,h0⟩
  ·rw[h0] at a3;simp at a3
  rw[List.concat_eq_append] at h0
  subst h0
  have hll:(vN++[z]).length=vN.length+1:=by simp
  have auh:(vN++[z]).map (fun k=>(k.id:Int))=vN.map (fun k=>(k.id:Int))++[(z.id:Int)]:=by simp
  rw[auh] at fa hx PV
  rw[←hl] at hx
  refine K_ (k:=k) hx iH k7 ht hn ha hr fa fb (by simp) (by simp only[List.length_map];omega) (by omega) (by omega) (by simp only[List.length_map];omega) fun v' H' iS hf mC=>?_
  rw[xz] at iS
  obtain⟨g1,g2,g3,g4⟩:=Ku (f:=f) (X:=some (false,pu,ka++y::kb,(A++Tr.nd ia (R2++[y]) (vN++[z])::Tr.nd ib qb Lb::B).map (fun k=>(k.id:Int)),nu)) (Y:=some (false,p1,R2,vN.map (fun k=>(k.id:Int)),n1)) (Z:=some (false,p2,k::qb,(z.id:Int)::Lb.map (fun k=>(k.id:Int)),n2)) T.na T.nb T.ab
  simp only[E8] at g1 g2 g3 g4
  have hs:∀j,j≠ia→j≠ib→j∈ids (Tr.nd ia (R2++[y]) (vN++[z]))++ids (Tr.nd ib qb Lb)→dA (dA (dA f i (some (false,pu,ka++y::kb,(A++Tr.nd ia (R2++[y]) (vN++[z])::Tr.nd ib qb Lb::B).map (fun k=>(k.id:Int)),nu))) ia (some (false,p1,R2,vN.map (fun k=>(k.id:Int)),n1))) ib (some (false,p2,k::qb,(z.id:Int)::Lb.map (fun k=>(k.id:Int)),n2)) j=f j:=fun j e1 e2 e3=>g4 j (fun e=>T.out (by rw[←e];exact e3)) e1 e2
  have FT:=HA (k:=k) (k':=y) (ka':=R2) (kb':=k::qb) (vN:=vN) (Bd:=z::Lb) (by simp) (by simp) a3 (by omega) T.ra T.rb T.nab hs g2 (by rw[g3];rfl)
  have Jq:=FT.WN hl T.rep T.nd g1 fun j e1 e2 e3=>g4 j e1 (fun e=>e2 (by rw[e];exact jx _)) (fun e=>e3 (by rw[e];exact jx _))
  obtain⟨m1,m2⟩:=hm.swap hc Jq
  refine hk v' _ _ _ H' iS m1 m2 rfl (Db (s:=0) hl Hy pN hA hB (e8.2 ⟨by omega,by omega,by omega,fun w hw=>a4 w (by simp[hw])⟩) (e8.2 ⟨by simp only[List.length_cons];omega,by simp only[List.length_cons];omega,by simp only[List.length_cons];omega,fun w hw=>?_⟩)) hf mC
  rcases List.mem_cons.1 hw with rfl|hw
  ·exact a4 w (by simp)
  ·exact b4 w hw
end
section
variable {H:HP} {t n u x o:Nat} {v:uD} {f:Nat→Option Nd} {many root:Int} {h hh i:Nat} {ka kb:List Key} {k:Key} {A B:List (Tr h)} {a b:Tr h} {c:Ctx (h+1) hh} {xu xa xb:Nd}
theorem Y3 (h3:3≤o) (vM:o≤16) (hl:ka.length=A.length) (Hy:kb.length=B.length) (pN:ka.length+kb.length+1≤o) (hA:∀x∈A,Sz o (o/2) o x) (hB:∀x∈B,Sz o (o/2) o x) (Dc:Sz o (o/2 - 1) o a) (pt:a.size<o/2) (E7:Sz o (o/2) o b) (xA:o/2<b.size) (hc:c.Sz o)
 (hx:H x=some ⟨TPk,(some t,xu,xa,xb,(A.length:Int),(i:Int),(a.id:Int),(b.id:Int))⟩) (hxu:f i=some xu) (PV:f a.id=some xa) (PY:f b.id=some xb) (iH:t≠x) (k7:n≠x) (ht:H t=some ⟨jO,(some n,root,(o:Int),many)⟩) (hn:H n=some ⟨dd,v⟩) (ha:Ar v f u) (hm:jw f u (aZ c (Tr.nd i (ka++k::kb) (A++a::b::B))))
 {K:HT []→HP→Prop} (hk:∀v' f' u' (P':Tr (h+1)) H',Ar v' f' u'→jw f' u' (aZ c P')→aR (aZ c P')=aR (aZ c (Tr.nd i (ka++k::kb) (A++a::b::B)))→P'.id=i→Sz o (ka.length+kb.length) o P'→Fm [n,x] H H'→H' n=some ⟨dd,v'⟩→K () H'):JR (some x) H K:=by
 have T:=uE hm
 obtain⟨pu,nu,hr⟩:=T.root
 obtain rfl:=Option.some.inj (hxu.symm.trans hr)
 cases h with
 |zero=>
  obtain⟨ia,pa,rfl⟩:=a.sm
  obtain⟨ib,pb,rfl⟩:=b.sm
  obtain⟨k1,d1,n1,fa⟩:=gp.1 T.ra
  obtain⟨k2,d2,n2,fb⟩:=gp.1 T.rb
  obtain rfl:=Option.some.inj (PV.symm.trans fa)
  obtain rfl:=Option.some.inj (PY.symm.trans fb)
  obtain⟨a1,a2⟩:=gq.1 Dc
  obtain⟨b1,b2⟩:=gq.1 E7
  have pt:pa.length<o/2:=pt
  have xA:o/2<pb.length:=xA
  obtain⟨p,q,Dd,rfl⟩:∃p q Dd,pb=p::q::Dd:=by
   match pb,xA with
   |[],hb=>simp at hb
   |[_],hb=>simp at hb;omega
   |p::q::r,_=>exact⟨p,q,r,rfl⟩
  simp only[List.length_cons] at b1 b2 xA
  rw[←hl] at hx
  refine PS hx iH k7 ht hn ha hr fa fb (by simp) (by omega) fun v' H' iS hf mC=>?_
  rw[xz] at iS
  obtain⟨g1,g2,g3,g4⟩:=Ku (f:=f) (X:=some (false,pu,ka++q.1::kb,(A++Tr.lf ia pa::Tr.lf ib (p::q::Dd)::B).map (fun k=>(k.id:Int)),nu)) (Y:=some (true,pa++[p],k1,d1,n1)) (Z:=some (true,q::Dd,k2,d2,n2)) T.na T.nb T.ab
  simp only[QM] at g1 g2 g3 g4
  have FT:=Hz (k:=k) (y:=q) (pa:=pa) (pb:=p::q::Dd) (Bc:=pa++[p]) (Dd:=Dd) (by simp) (by simp) fa fb g2 g3
  have Jq:=FT.WN hl T.rep T.nd g1 fun j e1 e2 e3=>g4 j e1 (by simpa using e2) (by simpa using e3)
  obtain⟨m1,m2⟩:=hm.swap hc Jq
  refine hk v' _ _ _ H' iS m1 m2 rfl (Db (s:=0) hl Hy pN hA hB (gq.2 ⟨by simp only[List.length_append,List.length_singleton];omega,by simp only[List.length_append,List.length_singleton];omega⟩) (gq.2 ⟨by simp only[List.length_cons];omega,by simp only[List.length_cons];omega⟩)) hf mC
 |succ h=>
  obtain⟨ia,qa,La,rfl⟩:=a.sn
  obtain⟨ib,qb,Lb,rfl⟩:=b.sn
  obtain⟨⟨p1,n1,fa⟩,ka1⟩:=bV.1 T.ra
  obtain⟨⟨p2,n2,fb⟩,kb1⟩:=bV.1 T.rb
  obtain rfl:=Option.some.inj (PV.symm.trans fa)
  obtain rfl:=Option.some.inj (PY.symm.trans fb)
  obtain⟨a1,a2,a3,a4⟩:=e8.1 Dc
  obtain⟨b1,b2,b3,b4⟩:=e8.1 E7
  have pt:qa.length<o/2:=pt
  have alw:o/2<qb.length:=xA
  obtain⟨y,WO,rfl⟩:∃y WO,qb=y::WO:=by
   cases qb with
   |nil=>simp at alw
   |cons y q=>exact⟨y,q,rfl⟩
  obtain⟨z,Bd,rfl⟩:∃z Bd,Lb=z::Bd:=by
   cases Lb with
   |nil=>simp at b3
   |cons y q=>exact⟨y,q,rfl⟩
  simp only[List.length_cons] at b1 b2 b3 alw
  rw[List.map_cons] at fb hx PY
  rw[←hl] at hx
  refine PT (k:=k) hx iH k7 ht hn ha hr fa fb (by simp) (by omega) (by simp only[List.length_map];omega) fun v' H' iS hf mC=>?_
  rw[xz] at iS
  obtain⟨g1,g2,g3,g4⟩:=Ku (f:=f) (X:=some (false,pu,ka++y::kb,(A++Tr.nd ia qa La::Tr.nd ib (y::WO) (z::Bd)::B).map (fun k=>(k.id:Int)),nu)) (Y:=some (false,p1,qa++[k],La.map (fun k=>(k.id:Int))++[(z.id:Int)],n1)) (Z:=some (false,p2,WO,Bd.map (fun k=>(k.id:Int)),n2)) T.na T.nb T.ab
  simp only[E8] at g1 g2 g3 g4
  have FT:=HA (f':=dA (dA (dA f i (some (false,pu,ka++y::kb,(A++Tr.nd ia qa La::Tr.nd ib (y::WO) (z::Bd)::B).map (fun k=>(k.id:Int)),nu))) ia (some (false,p1,qa++[k],La.map (fun k=>(k.id:Int))++[(z.id:Int)],n1))) ib (some (false,p2,WO,Bd.map (fun k=>(k.id:Int)),n2)))
   (k:=k) (k':=y) (ka':=qa++[k]) (kb':=WO) (vN:=La++[z]) (Bd:=Bd) (by simp) (by simp) a3 (by simp only[List.length_append,List.length_singleton];omega) T.ra T.rb T.nab (fun j e1 e2 e3=>g4 j (fun e=>T.out (by rw[←e];exact e3)) e1 e2) (by rw[g2,List.map_append];rfl) g3
  have Jq:=FT.WN hl T.rep T.nd g1 fun j e1 e2 e3=>g4 j e1 (fun e=>e2 (by rw[e];exact jx _)) (fun e=>e3 (by rw[e];exact jx _))
  obtain⟨m1,m2⟩:=hm.swap hc Jq
  refine hk v' _ _ _ H' iS m1 m2 rfl (Db (s:=0) hl Hy pN hA hB (e8.2 ⟨by simp only[List.length_append,List.length_singleton];omega,by simp only[List.length_append,List.length_singleton];omega,by simp only[List.length_append,List.length_singleton];omega,fun w hw=>?_⟩) (e8.2 ⟨by omega,by omega,by omega,fun w hw=>b4 w (by simp[hw])⟩)) hf mC
  rcases List.mem_append.1 hw with hw|hw
  ·exact a4 w hw
  ·rw[List.mem_singleton.1 hw];exact b4 z (by simp)
theorem Uc (h3:3≤o) (vM:o≤16) (hl:ka.length=A.length) (Hy:kb.length=B.length) (pN:ka.length+kb.length+1≤o) (hA:∀x∈A,Sz o (o/2) o x) (hB:∀x∈B,Sz o (o/2) o x) (Dc:Sz o (o/2 - 1) o a) (E7:Sz o (o/2 - 1) o b) (yg:o/2≤a.size+b.size) (Kv:a.size+b.size+1≤o) (hc:c.Sz o)
 (hx:H x=some ⟨THk,(some t,xu,xa,xb,(A.length:Int),(i:Int),(a.id:Int),(b.id:Int))⟩) (hxu:f i=some xu) (PV:f a.id=some xa) (PY:f b.id=some xb) (iH:t≠x) (k7:n≠x) (ht:H t=some ⟨jO,(some n,root,(o:Int),many)⟩) (hn:H n=some ⟨dd,v⟩) (ha:Ar v f u) (hm:jw f u (aZ c (Tr.nd i (ka++k::kb) (A++a::b::B))))
 {K:HT []→HP→Prop} (hk:∀v' f' u' (P':Tr (h+1)) H',Ar v' f' u'→jw f' u' (aZ c P')→aR (aZ c P')=aR (aZ c (Tr.nd i (ka++k::kb) (A++a::b::B)))→P'.id=i→Sz o (ka.length+kb.length) o P'→Fm [n,x] H H'→H' n=some ⟨dd,v'⟩→K () H'):Bo (some x) H K:=by
 have T:=uE hm
 obtain⟨pu,nu,hr⟩:=T.root
 obtain rfl:=Option.some.inj (hxu.symm.trans hr)
 have sj:(ka++k::kb).take ka.length++(ka++k::kb).drop (ka.length+1)=ka++kb:=Mn
 have hmA:(A.map (fun k=>(k.id:Int))).length=ka.length:=by simp[hl]
 have hcd:((A++a::b::B).map (fun k=>(k.id:Int))).take (ka.length+1)++((A++a::b::B).map (fun k=>(k.id:Int))).drop (ka.length+2)=(A++a::B).map (fun k=>(k.id:Int)):=by
  rw[←hmA]
  simp only[List.map_append,List.map_cons]
  exact Ua
 have Wt:ka.length+2≤((A++a::b::B).map (fun k=>(k.id:Int))).length:=by simp;omega
 have alx:((A++a::b::B).map (fun k=>(k.id:Int))).length≤100000:=by simp;omega
 have Bb:(ka++k::kb).length≤100000:=by simp;omega
 cases h with
 |zero=>
  obtain⟨ia,pa,rfl⟩:=a.sm
  obtain⟨ib,pb,rfl⟩:=b.sm
  obtain⟨k1,d1,n1,fa⟩:=gp.1 T.ra
  obtain⟨k2,d2,n2,fb⟩:=gp.1 T.rb
  obtain rfl:=Option.some.inj (PV.symm.trans fa)
  obtain rfl:=Option.some.inj (PY.symm.trans fb)
  obtain⟨a1,a2⟩:=gq.1 Dc
  obtain⟨b1,b2⟩:=gq.1 E7
  have yg:o/2≤pa.length+pb.length:=yg
  have Kv:pa.length+pb.length+1≤o:=Kv
  rw[←hl] at hx
  refine Lc T.pos hx iH k7 ht hn ha hr fa fb (by simp) Wt Bb alx (by omega) (by omega) fun v' H' iS hf mC=>?_
  rw[sj,hcd] at iS
  obtain⟨g1,g2,g3,g4⟩:=Ku (f:=f) (X:=some (false,pu,ka++kb,(A++Tr.lf ia pa::B).map (fun k=>(k.id:Int)),nu)) (Y:=some (true,pa++pb,k1,d1,n2)) (Z:=some (true,pb,k2,d2,n2)) T.na T.nb T.ab
  have yg:=T.ab
  have vZ:=T.nb
  simp only[QM] at g1 g2 g3 g4 yg vZ
  have g2:=(cE _ none yg).trans g2
  have g1:=(cE _ none vZ).trans g1
  have acY:=Ud (k:=k) fa fb g2
  have Jq:=acY.WN hl T.rep T.nd g1 fun j e1 e2 e3=>by
   have e3':j≠ib:=by simpa using e3
   rw[cE _ _ e3']
   exact g4 j e1 (by simpa using e2) e3'
  obtain⟨m1,m2⟩:=hm.swap hc Jq
  exact hk v' _ _ _ H' iS m1 m2 rfl (R1 hl Hy pN hA hB (gq.2 ⟨by simp only[List.length_append];omega,by simp only[List.length_append];omega⟩)) hf mC
 |succ h=>
  obtain⟨ia,qa,La,rfl⟩:=a.sn
  obtain⟨ib,qb,Lb,rfl⟩:=b.sn
  obtain⟨⟨p1,n1,fa⟩,ka1⟩:=bV.1 T.ra
  obtain⟨⟨p2,n2,fb⟩,kb1⟩:=bV.1 T.rb
  obtain rfl:=Option.some.inj (PV.symm.trans fa)
  obtain rfl:=Option.some.inj (PY.symm.trans fb)
  obtain⟨a1,a2,a3,a4⟩:=e8.1 Dc
  obtain⟨b1,b2,b3,b4⟩:=e8.1 E7
  have yg:o/2≤qa.length+qb.length:=yg
  have Kv:qa.length+qb.length+1≤o:=Kv
  rw[←hl] at hx
  refine Ld (k:=k) T.pos hx iH k7 ht hn ha hr fa fb (by simp) Wt Bb alx (by omega) (by omega) (by simp only[List.length_map];omega) (by simp only[List.length_map];omega) fun v' H' iS hf mC=>?_
  rw[sj,hcd,←List.map_append] at iS
  obtain⟨g1,g2,g3,g4⟩:=Ku (f:=f) (X:=some (false,pu,ka++kb,(A++Tr.nd ia qa La::B).map (fun k=>(k.id:Int)),nu)) (Y:=some (false,p1,qa++k::qb,(La++Lb).map (fun k=>(k.id:Int)),n1)) (Z:=some (false,p2,qb,Lb.map (fun k=>(k.id:Int)),n2)) T.na T.nb T.ab
  have aly:=T.ab
  have vZ:=T.nb
  simp only[E8] at g1 g2 g3 g4 aly vZ
  have g2:=(cE _ none aly).trans g2
  have g1:=(cE _ none vZ).trans g1
  have acY:=Ue (k:=k) a3 T.ra T.rb T.nab (fun j e1 e2 e3=>(cE _ none e2).trans (g4 j (fun e=>T.out (by rw[←e];exact e3)) e1 e2)) g2
  have Jq:=acY.WN hl T.rep T.nd g1 fun j e1 e2 e3=>by
   have e3':j≠ib:=fun e=>e3 (by rw[e];exact jx (Tr.nd ib qb Lb))
   rw[cE _ _ e3']
   exact g4 j e1 (fun e=>e2 (by rw[e];exact jx (Tr.nd ia qa La))) e3'
  obtain⟨m1,m2⟩:=hm.swap hc Jq
  refine hk v' _ _ _ H' iS m1 m2 rfl (R1 hl Hy pN hA hB (e8.2 ⟨by simp only[List.length_append,List.length_cons];omega,by simp only[List.length_append,List.length_cons];omega,by simp only[List.length_append,List.length_cons];omega,fun w hw=>?_⟩)) hf mC
  rcases List.mem_append.1 hw with hw|hw
  ·exact a4 w hw
  ·exact b4 w hw
end
def Jr (n:Nat) (H H':HP):Prop:=∀m,m≠n→(H m).isSome→H' m=H m
theorem Jr.refl (n:Nat) (H:HP):Jr n H H:=fun _ _ _=>rfl
theorem Jr.trans {n:Nat} {H H' tO:HP} (h:Jr n H H') (k:Jr n H' tO):Jr n H tO:=fun m h1 h2=>(k m h1 (by rw[h m h1 h2];exact h2)).trans (h m h1 h2)
theorem Mo {H:HP} {x:Nat} (hx:H x=none) (k:AK) (y:k.T):(H.set x k y).del x=H:=by
 funext m
 unfold HP.del HP.set
 by_cases e:m=x
 ·simp[e,hx]
 ·simp[e]
theorem Js {H H':HP} {n x:Nat} {k:AK} {y:k.T} (hx:H x=none) (hf:Fm [n,x] (H.set x k y) H'):Jr n H H':=fun m h1 h2=>by
 have hmx:m≠x:=fun e=>by rw[e,hx] at h2;cases h2
 rw[hf m (by simp[h1,hmx]),cp _ _ _ hmx]
theorem D_ {f:Nat→Option Nd}:∀{h:Nat} {a:Tr h},fR f a→∃xa:Nd,f a.id=some xa∧(if xa.1=true then xa.2.1.length else xa.2.2.1.length)=a.size
 |0,a,hr=>by
  obtain⟨i,ps,rfl⟩:=a.sm
  obtain⟨ks,kd,nx,hf⟩:=gp.1 hr
  exact⟨_,hf,rfl⟩
 |h+1,a,hr=>by
  obtain⟨i,ks,l,rfl⟩:=a.sn
  obtain⟨⟨ps,nx,hf⟩,_⟩:=bV.1 hr
  exact⟨_,hf,rfl⟩
theorem aaE {o:Nat} (h:o≤1000000):IntKind.i64.wrap (Int.tdiv (o:Int) 2)=((o/2:Nat):Int):=by
 have h1:o/2≤o:=Nat.div_le_self _ _
 rw[Int.tdiv_eq_ediv_of_nonneg (by omega),show((o:Int)/2)=((o/2:Nat):Int) from by simp]
 exact jd (by omega) (by omega)
section
variable {H:HP} {t n u o:Nat} {v:uD} {f:Nat→Option Nd} {many root:Int} {h hh i:Nat} {ka kb:List Key} {k:Key} {A B:List (Tr h)} {a b:Tr h} {c:Ctx (h+1) hh}
theorem Jt (T:Two f u i ka k kb A a b B):∃xu xa xb:Nd,f i=some xu∧f a.id=some xa∧f b.id=some xb∧xu.2.2.2.1[A.length]?=some (a.id:Int)∧xu.2.2.2.1[A.length+1]?=some (b.id:Int)∧(if xa.1=true then xa.2.1.length else xa.2.2.1.length)=a.size∧(if xb.1=true then xb.2.1.length else xb.2.2.1.length)=b.size:=by
 obtain⟨pu,nu,hr⟩:=T.root
 obtain⟨xa,h1,h2⟩:=D_ T.ra
 obtain⟨xb,h3,h4⟩:=D_ T.rb
 exact⟨_,xa,xb,hr,h1,h3,by simp,by simp,h2,h4⟩
theorem HB (h3:3≤o) (vM:o≤16) (hl:ka.length=A.length) (Hy:kb.length=B.length) (pN:ka.length+kb.length+1≤o) (hA:∀x∈A,Sz o (o/2) o x) (hB:∀x∈B,Sz o (o/2) o x) (Dc:Sz o (o/2 - 1) o a) (E7:Sz o (o/2 - 1) o b) (yg:o/2≤a.size+b.size) (Kv:a.size+b.size+1≤o) (hc:c.Sz o)
 (ht:H t=some ⟨jO,(some n,root,(o:Int),many)⟩) (hn:H n=some ⟨dd,v⟩) (ha:Ar v f u) (hm:jw f u (aZ c (Tr.nd i (ka++k::kb) (A++a::b::B)))) {z:Int} (hz:z=(A.length:Int))
 {K:HT []→HP→Prop} (hk:∀v' f' u' (P':Tr (h+1)) H',Ar v' f' u'→jw f' u' (aZ c P')→aR (aZ c P')=aR (aZ c (Tr.nd i (ka++k::kb) (A++a::b::B)))→P'.id=i→Sz o (ka.length+kb.length) o P'→Jr n H H'→H' n=some ⟨dd,v'⟩→K () H'):
 ae Tryz.prog 133 [(false,.ref),(false,.one (.int .i64)),(false,.one (.int .i64))] (some t,(i:Int),z,()) [(false,.ref)] H fun x7 H8=>ae Tryz.prog 136 [(false,.ref)] (x7.1,()) [] H8 fun _ H9=>K () H9:=by
 subst hz
 have T:=uE hm
 obtain⟨xu,xa,xb,f1,f2,f3,Hu,at2,_,_⟩:=Jt T
 refine acX ht hn ha f1 Hu at2 f2 f3 fun x hx=>?_
 have iH:t≠x:=fun e=>by rw[e,hx] at ht;cases ht
 have k7:n≠x:=fun e=>by rw[e,hx] at hn;cases hn
 exact Uc h3 vM hl Hy pN hA hB Dc E7 yg Kv hc (bU _ _ _ _) f1 f2 f3 iH k7 (by rw[cp _ _ _ iH];exact ht) (by rw[cp _ _ _ k7];exact hn) ha hm fun v' f' u' P' H' e1 e2 e3 e4 e5 e6 e7=>hk v' f' u' P' H' e1 e2 e3 e4 e5 (Js hx e6) e7
end
theorem agV {H:HP} {t n u o:Nat} {v:uD} {f:Nat→Option Nd} {many root:Int} {h hh:Nat} {c:Ctx (h+1) hh} {fr:Fr h} {s:Tr h} (h3:3≤o) (vM:o≤16) (hc:(Ctx.down c fr).Sz o) (hz:Sz o (o/2 - 1) o s) (hs:s.size<o/2)
 (ht:H t=some ⟨jO,(some n,root,(o:Int),many)⟩) (hn:H n=some ⟨dd,v⟩) (ha:Ar v f u) (hm:jw f u (aZ c (fr.fill s)))
 {K:HT []→HP→Prop} (hk:∀v' f' u' (P':Tr (h+1)) H',Ar v' f' u'→jw f' u' (aZ c P')→aR (aZ c P')=aR (aZ c (fr.fill s))→P'.id=fr.id→Sz o (c.lo o - 1) o P'→Jr n H H'→H' n=some ⟨dd,v'⟩→K () H'):abx (some t) ((fr.id:Int),(fr.kl.length:Int)) H K:=S0 _ _ _ _ (by
 unfold acs
 obtain⟨i,kl,L,kr,R⟩:=fr
 obtain⟨q1,q2,q3,q4,hL,hR,GL⟩:=iZ.1 hc
 dsimp only at q1 q2 q3 q4 hL hR hk
 have Wq:1≤c.lo o:=(De c h3).resolve_right (by omega)
 have hss:=hz.size
 obtain⟨⟨pu,nu,AE⟩,_⟩:=bV.1 ((en c _).1 hm.rep).2
 dsimp only at AE
 have amT:((L++s::R).map (fun k=>(k.id:Int))).length=L.length+1+R.length:=by simp;omega
 refine ay (aH ht ⟨by decide,ay (aH ht (k6 hn ha AE ?_))⟩)
 dsimp only[Fr.fill] at hm hk⊢
 rw[aaE (by omega),amT]
 have aDY:∀m:Nat,0<m→m<1000000→IntKind.i64.wrap ((m:Int)- 1)=((m - 1:Nat):Int):=fun m h1 h2=>by rw[jd (by omega) (by omega)];omega
 have aaF:∀(b:Tr h) (B:List (Tr h)) (k:Key) (kb:List Key),R=b::B→kr=k::kb→∀M:HP→Prop,(¬o/2<b.size→M H)→
  (ae Tryz.prog 133 [(false,.ref),(false,.one (.int .i64)),(false,.one (.int .i64))] (some t,(i:Int),(kl.length:Int),()) [(false,.ref)] H fun dG xR=>ao dG.1 fun i17=>aJ THk i17 xR fun d_=>ck Tryz.prog 118 [(true,kNB)] (d_.2.2.2.1,()) [(false,.one (.int .i64))] fun c8=>af (decide (c8.1>((o/2:Nat):Int))) (ae Tryz.prog 135 [(false,.ref)] (some i17,()) [] ((xR.del i17).set i17 TPk d_) fun _ oJ=>K () oJ) (M (xR.del i17))):=by
  rintro b B k kb rfl rfl M hM
  have T:=uE (ka:=kl) (A:=L) (a:=s) hm
  obtain⟨xu,xa,xb,f1,f2,f3,Hu,at2,_,sz2⟩:=Jt T
  rw[q3]
  refine acX ht hn ha f1 Hu at2 f2 f3 fun x hx=>ay (aH (bU _ _ _ _) (ai _ (Jo _) ?_))
  dsimp only
  rw[sz2]
  have iH:t≠x:=fun e=>by rw[e,hx] at ht;cases ht
  have k7:n≠x:=fun e=>by rw[e,hx] at hn;cases hn
  refine CL (fun HC=>?_) fun hle=>?_
  ·rw[rG,h_]
   have q2':kl.length+kb.length+1≤o:=by simp only[List.length_cons] at q2;omega
   refine Y3 h3 vM q3 (by simpa using q4) q2' hL (fun y hy=>hR y (by simp[hy])) hz hs (hR b (by simp)) HC GL (bU _ _ _ _) f1 f2 f3 iH k7 (by rw[cp _ _ _ iH];exact ht) (by rw[cp _ _ _ k7];exact hn) ha hm fun v' f' u' P' H' e1 e2 e3 e4 e5 e6 e7=>hk v' f' u' P' H' e1 e2 e3 e4 (e5.wide (by simp only[List.length_cons] at q1;omega) (Nat.le_refl _)) (Js hx e6) e7
  ·rw[Mo hx]
   exact hM (by omega)
 rcases List.eq_nil_or_concat L with rfl|⟨L0,a,rfl⟩
 ·have aui:kl=[]:=List.length_eq_zero_iff.1 q3
  subst aui
  refine bP rfl (au fun _=>?_)
  obtain⟨b,B,rfl⟩:∃b B,R=b::B:=by
   cases R with
   |nil=>
    exfalso
    have h0:kr.length=0:=by simpa using q4
    simp only[List.length_nil,h0] at q1
    omega
   |cons b B=>exact⟨b,B,rfl⟩
  obtain⟨k,kb,rfl⟩:∃k kb,kr=k::kb:=by
   cases kr with
   |nil=>simp at q4
   |cons b B=>exact⟨b,B,rfl⟩
  refine cd ?_ (aaF b B k kb rfl rfl (fun H=>ae Tryz.prog 133 [(false,.ref),(false,.one (.int .i64)),(false,.one (.int .i64))] (some t,(i:Int),Lu (IntKind.i64.wrap (((([]:List Key).length:Nat):Int)- 1)) 0,()) [(false,.ref)] H fun x7 H8=>ae Tryz.prog 136 [(false,.ref)] (x7.1,()) [] H8 fun _ H9=>K () H9) fun hle=>?_)
  ·refine decide_eq_true ?_
   simp only[List.length_nil,List.length_cons]
   rw[jd (by omega) (by omega)]
   omega
  ·have E7:=hR b (by simp)
   have hbs:=E7.size
   exact HB (ka:=[]) (A:=[]) h3 vM rfl (by simpa using q4) (by simp only[List.length_cons,List.length_nil] at q2⊢;omega) (by simp) (fun y hy=>hR y (by simp[hy])) hz (E7.wide (by omega) (Nat.le_refl _)) (by omega) (by omega) GL ht hn ha hm rfl fun v' f' u' P' H' e1 e2 e3 e4 e5 e6 e7=>hk v' f' u' P' H' e1 e2 e3 e4 (e5.wide (by simp only[List.length_cons,List.length_nil] at q1⊢;omega) (Nat.le_refl _)) e6 e7
 ·obtain⟨ka,k,rfl⟩:∃ka k,kl=ka++[k]:=by
   rcases List.eq_nil_or_concat kl with h0|⟨x,y,h0⟩
   ·rw[h0] at q3;simp at q3
   ·exact⟨x,y,by rw[h0];simp⟩
  rw[List.concat_eq_append] at*
  have q3':ka.length=L0.length:=by simpa using q3
  have eK:(ka++[k])++kr=ka++k::kr:=by simp
  have eL:(L0++[a])++s::R=L0++a::s::R:=by simp
  have Bb:(ka++[k]).length=ka.length+1:=by simp
  have hLl:(L0++[a]).length=L0.length+1:=by simp
  have eW:IntKind.i64.wrap ((((ka++[k]).length:Nat):Int)- 1)=(L0.length:Int):=by
   rw[Bb,show(((ka.length+1:Nat):Int)- 1)=(L0.length:Int) from by omega]
   exact jd (by omega) (by omega)
  have eX:Lu (L0.length:Int) 0=(L0.length:Int):=by unfold Lu;rw[if_neg (by omega)]
  have lF:=hm
  rw[eK,eL] at lF
  have T:=uE lF
  have Dc:=hL a (by simp)
  have has:=Dc.size
  have pN:ka.length+kr.length+1≤o:=by omega
  have merge:¬o/2<a.size→∀z:Int,z=(L0.length:Int)→ae Tryz.prog 133 [(false,.ref),(false,.one (.int .i64)),(false,.one (.int .i64))] (some t,(i:Int),z,()) [(false,.ref)] H fun x7 H8=>ae Tryz.prog 136 [(false,.ref)] (x7.1,()) [] H8 fun _ H9=>K () H9:=fun hle z Ww=>
   HB h3 vM q3' q4 pN (fun y hy=>hL y (by simp[hy])) hR (Dc.wide (by omega) (Nat.le_refl _)) hz (by omega) (by omega) GL ht hn ha lF Ww fun v' f' u' P' H' e1 e2 e3 e4 e5 e6 e7=>hk v' f' u' P' H' e1 e2 (by rw[eK,eL];exact e3) e4 (e5.wide (by omega) (Nat.le_refl _)) e6 e7
  have lx:(0:Int)<(((ka++[k]).length:Nat):Int):=by omega
  refine cd (decide_eq_true lx) ?_
  rw[eW,eX]
  obtain⟨xu,xa,xb,f1,f2,f3,Hu,at2,sz1,_⟩:=Jt T
  refine acX ht hn ha f1 Hu at2 f2 f3 fun x hx=>ay (aH (bU _ _ _ _) (ai _ (Jo _) ?_))
  dsimp only
  rw[sz1]
  have iH:t≠x:=fun e=>by rw[e,hx] at ht;cases ht
  have k7:n≠x:=fun e=>by rw[e,hx] at hn;cases hn
  refine CL (fun HC=>?_) fun hle=>?_
  ·rw[rG,h_]
   refine Ub h3 vM q3' q4 pN (fun y hy=>hL y (by simp[hy])) hR Dc HC hz hs GL (bU _ _ _ _) f1 f2 f3 iH k7 (by rw[cp _ _ _ iH];exact ht) (by rw[cp _ _ _ k7];exact hn) ha lF fun v' f' u' P' H' e1 e2 e3 e4 e5 e6 e7=>hk v' f' u' P' H' e1 e2 (by rw[eK,eL];exact e3) e4 (e5.wide (by omega) (Nat.le_refl _)) (Js hx e6) e7
  ·rw[Mo hx]
   have Od:¬o/2<a.size:=by omega
   refine au fun _=>?_
   cases R with
   |nil=>
    refine bP (decide_eq_false ?_) (merge Od _ rfl)
    rw[jd (by omega) (by omega)]
    simp only[List.length_nil]
    omega
   |cons b B=>
    obtain⟨k2,kb2,rfl⟩:∃k2 kb2,kr=k2::kb2:=by
     cases kr with
     |nil=>simp at q4
     |cons b B=>exact⟨b,B,rfl⟩
    refine cd (decide_eq_true ?_) (aaF b B k2 kb2 rfl rfl (fun H=>ae Tryz.prog 133 [(false,.ref),(false,.one (.int .i64)),(false,.one (.int .i64))] (some t,(i:Int),(L0.length:Int),()) [(false,.ref)] H fun x7 H8=>ae Tryz.prog 136 [(false,.ref)] (x7.1,()) [] H8 fun _ H9=>K () H9) fun _=>merge Od _ rfl)
    rw[jd (by omega) (by omega)]
    simp only[List.length_cons]
    omega)
theorem Uf {f:Nat→Option Nd} {u i h:Nat} {z:Tr h} (m:jw f u (Tr.nd i [] [z])):jw (dA f i none) (u - 1) z∧aR z=aR (Tr.nd i [] [z]):=by
 have vp:fl (Tr.nd i [] [z])=fl z:=by simp[inter]
 have WC:de (Tr.nd i [] [z])=de z:=by simp
 have cP:ids (Tr.nd i [] [z])=i::ids z:=by simp
 have eF:=m.nd
 rw[cP] at eF
 obtain⟨h1,h2⟩:=List.nodup_cons.1 eF
 have bb:∀j∈ids z,dA f i none j=f j:=fun j hj=>cE _ _ (fun e=>h1 (by rw[←e];exact hj))
 refine⟨⟨cX (fun j hj=>(bb j hj).symm) ((bV.1 m.rep).2 z (by simp)),h2,?_,?_,?_,?_⟩,?_⟩
 ·have:=m.yh
  rw[WC] at this
  refine e_ (fun a ha=>?_) this
  unfold gX;rw[bb _ (ic z a ha)]
 ·have:=m.ord;rwa [vp] at this
 ·have:=m.ok;rwa [vp] at this
 ·have:=m.used;rw[cP] at this;rw[this];simp
 ·unfold aR;rw[WC]
def uF (t n:Nat) (H H':HP):Prop:=∀m,m≠t→m≠n→(H m).isSome→H' m=H m
theorem uF.refl (t n:Nat) (H:HP):uF t n H H:=fun _ _ _ _=>rfl
theorem uF.trans {t n:Nat} {H H' tO:HP} (h:uF t n H H') (k:uF t n H' tO):uF t n H tO:=fun m h1 h2 h3=>(k m h1 h2 (by rw[h m h1 h2 h3];exact h3)).trans (h m h1 h2 h3)
theorem Jr.t {t n:Nat} {H H':HP} (h:Jr n H H'):uF t n H H':=fun m _ h2 h3=>h m h2 h3
theorem uF.alz {t n:Nat} {H H':HP} (h:uF t n H H') (k:AK) (x:k.T):uF t n H (H'.set t k x):=fun m h1 h2 h3=>by rw[cp _ _ _ h1];exact h m h1 h2 h3
theorem uF.alA {t n:Nat} {H H':HP} (h:uF t n H H') (k:AK) (x:k.T):uF t n H (H'.set n k x):=fun m h1 h2 h3=>by rw[cp _ _ _ h2];exact h m h1 h2 h3
section
variable {H:HP} {t n u o:Nat} {many:Int} {v:uD} {f:Nat→Option Nd} {hh:Nat} {T:Tr hh}
theorem PZ {R:Nat} {s:Tr hh} (cP:s.id=R) (ht:H t=some ⟨jO,(some n,(R:Int),(o:Int),many)⟩) (hn:H n=some ⟨dd,v⟩) (ha:Ar v f u) (hm:jw f u s) (hz:Sz o ((.top:Ctx hh hh).lo o - 1) o s) (h3:3≤o) {K:HT [(false,.one .bool),(false,.one .any)]→HP→Prop}
 (hk:∀H',uF t n H H'→fE H' t n o (aR s) many→K (true,.nilIface,()) H'):
 bE (V:=Unit×Unit) (fun(ZS:Unit×Unit) H34=>K (true,.nilIface,()) H34) fun B35=>ao (some t) fun i36=>aJ eo i36 H fun(Lt:gu)=>ao (some t) fun i38=>aJ eo i38 H fun(x39:gu)=>ae Tryz.prog 56 [(false,.ref),(false,.one (.int .i64))] (Lt.1,x39.2.1,()) [(true,Ml),(false,.one .bool)] H fun oY H41=>
  bE (V:=(Option Nat×Unit×Bool×Unit)×(Bool×List aq×List (List UInt8)×List Int×Int×Unit)×Unit) (fun N4 Wj=>af N4.1.2.2.1 (ao N4.1.1 fun i44=>aJ eo i44 Wj fun(iw:gu)=>bT N4.2.1.2.2.2.1 0 fun n46=>ao N4.1.1 fun i47=>aJ eo i47 Wj fun(ZL:gu)=>ao N4.1.1 fun i49=>aJ eo i49 (Wj.set i47 eo (ZL.1,n46,ZL.2.2)) fun(x50:gu)=>ae Tryz.prog 120 [(false,.ref),(false,.one (.int .i64))] (x50.1,iw.2.1,()) [(false,.one .any)] (Wj.set i47 eo (ZL.1,n46,ZL.2.2)) fun fv Wm=>ck Tryz.prog 116 [(false,.one .any)] (fv.1,()) [] fun _=>B35 ((),()) Wm) (B35 ((),()) Wj)) fun B54=>
   af (! oY.1.1) (aP oY.1.2.2.1.length fun n55=>B54 ((some t,(),(n55:Int)==0,()),(oY.1.1,oY.1.2.1,oY.1.2.2.1,oY.1.2.2.2.1,oY.1.2.2.2.2,()),()) H41) (B54 ((some t,(),false,()),(oY.1.1,oY.1.2.1,oY.1.2.2.1,oY.1.2.2.2.1,oY.1.2.2.2.2,()),()) H41):=by
 subst cP
 have bb:=p_ ht hn
 cases hh with
 |zero=>
  obtain⟨i,ps,rfl⟩:=s.sm
  obtain⟨ks,kd,nx,hf⟩:=gp.1 hm.rep
  refine bf (ay (aH ht (ay (aH ht (k6 hn ha hf (bf (bP rfl (bP rfl ?_))))))))
  exact hk H (uF.refl _ _ _) ⟨0,Tr.lf i ps,v,f,u,⟨ht,hn,ha,hm,hz.wide (Nat.zero_le _) (Nat.le_refl _)⟩,rfl⟩
 |succ hh=>
  obtain⟨i,ks,l,rfl⟩:=s.sn
  obtain⟨⟨ps,nx,hf⟩,hrk⟩:=bV.1 hm.rep
  obtain⟨z1,z2,z3,z4⟩:=e8.1 hz
  refine bf (ay (aH ht (ay (aH ht (k6 hn ha hf (bf (cd rfl (au fun _=>?_))))))))
  cases ks with
  |nil=>
   obtain⟨z,rfl⟩:=List.length_eq_one_iff.1 (show l.length=1 from z3)
   refine cd rfl (ay (aH ht (b_ (i:=0) rfl (x:=(z.id:Int)) rfl (ay (aH ht (ay (aH (bU _ _ _ _) ?_)))))))
   have mC:(H.set t eo (some n,(z.id:Int),(o:Int),many)) n=some ⟨dd,v⟩:=by rw[cp _ _ _ bb.symm];exact hn
   have hu:0<u:=by rw[hm.used];simp
   obtain⟨m1,m2⟩:=Uf hm
   refine Jn mC ha hf hu fun v' iS=>ai _ rH ?_
   refine hk _ (((uF.refl _ _ _).alz _ _).alA _ _) ⟨hh,z,v',_,_,⟨by rw[cp _ _ _ bb];exact bU _ _ _ _,bU _ _ _ _,iS,m1,(z4 z (by simp)).wide ?_ (Nat.le_refl _)⟩,m2⟩
   show(if hh=0 then 0 else 1)≤o/2
   split<;>omega
  |cons k0 ks=>
   refine bP (by simp;omega) ?_
   exact hk H (uF.refl _ _ _) ⟨hh+1,_,v,f,u,⟨ht,hn,ha,hm,hz.to (by show(if hh+1=0 then 0 else 1)≤(k0::ks).length;simp) hz.size.2⟩,rfl⟩
theorem P0 (h:TI H t n o many T v f u) (hm:many=((aR T).length:Int)) (h3:3≤o) (vM:o≤16) (hb:(aR T).length≤1000) (k:Key) {K:HT [(false,.one .bool),(false,.one .any)]→HP→Prop}
 (k0:cK (aR T) k=false→K (false,.nilIface,()) H)
 (k1:cK (aR T) k=true→∀H',uF t n H H'→fE H' t n o (gF (aR T) k) ((gF (aR T) k).length:Int)→K (true,.nilIface,()) H'):C99 (some t) k H K:=XZ _ _ _ _ (by
 unfold A99
 have Wu:=h.high h3
 refine bP rfl (agR h.ht h.hn h.ar rfl h.cG.rep h.sz h.cG.ord (by omega) k fun c0 i ps p1 p2 p3 p4 p5=>au fun _=>?_)
 have hr:=Df h.cG p1 p2
 have ha:=h.all p1 p2
 have zE:=Dg p4 p5
 have o7:ps.length≤(aR T).length:=by rw[ha];simp;omega
 have auj:gF (aR T) k=dt c0.l++gF ps k++dt c0.r:=by rw[ha,zE.del]
 have pv:cK (aR T) k=cK ps k:=by rw[ha,zE.has]
 have BX:fR f (Tr.lf i ps):=((en c0 _).1 (by rw[p1];exact h.cG.rep)).2
 obtain⟨ks,kd,nx,hf⟩:=gp.1 BX
 have QN:Th.Ord (c0.l++ps.map .p++c0.r):=by have:=h.cG.ord;rwa [←p1,eU c0 _ p2] at this
 have E9:=hr.del k
 have Kw:jw (dA f i (some (true,gF ps k,ks,kd,nx))) u (aZ c0 (Tr.lf i (gF ps k))):=
  jw.leaf (by rw[p1];exact h.cG) p2 hf (Y4 QN List.filter_sublist) fun p hp=>⟨E9.may p hp,E9.fair p hp⟩
 have E_:aR (aZ c0 (Tr.lf i (gF ps k)))=gF (aR T) k:=by rw[qZ p2,qd,auj]
 have cP:(aZ c0 (Tr.lf i (gF ps k))).id=T.id:=by rw[←p1];exact sX c0 _ _ rfl
 have cJ:=h.ar.iq hf
 have py:iY (true,gF ps k,ks,kd,nx):=⟨cJ.kids,by
  have:=List.length_filter_le (fun p:Pr=>p.1 !=k) ps
  unfold gF;simp only;omega,cJ.keys,fun p hp=>cJ.short p (List.mem_filter.1 hp).1,cJ.low⟩
 have bb:=p_ h.ht h.hn
 have uv:∀{h H:Nat} (c:Ctx h H),c.steps.length+h=H:=by
  intro h H c
  induction c with
  |top=>simp[Ctx.steps]
  |down c f ih=>simp only[Ctx.steps,List.length_append,List.length_singleton];omega
 have hs0:=uv c0
 have aaG:(ez c0.steps++[((i:Int),(0:Int))]).length=c0.steps.length+1:=by simp[ez]
 have amU:(ez c0.steps).length=c0.steps.length:=by simp[ez]
 dsimp only
 rw[aaG,show(((c0.steps.length+1:Nat):Int)- 1)=(c0.steps.length:Int) from by omega,jd (x:=(c0.steps.length:Int)) (by omega) (by omega)]
 refine b_ (i:=c0.steps.length) rfl (x:=((i:Int),(0:Int))) (by rw[List.getElem?_append_right (by omega),amU,Nat.sub_self];rfl) (ay (aH h.ht (k6 h.hn h.ar hf (ai _ (HD ps k hr.sort (by omega) hr.short) ?_))))
 refine bN (fun dz=>k0 (pv.trans dz)) fun Kx=>?_
 have Kx:cK ps k=true:=Kx
 have amV:=Mp hr.sort k
 rw[if_pos Kx] at amV
 have amW:=Mp h.row.sort k
 rw[if_pos (pv.trans Kx)] at amW
 have lx:0<(aR T).length:=by
  rcases Nat.eq_zero_or_pos (aR T).length with h0|h0
  ·rw[List.length_eq_zero_iff.1 h0] at pv
   rw[Kx] at pv;cases pv
  ·exact h0
 have kk:=k1 (pv.trans Kx)
 refine ay (aH h.ht (Kt h.hn h.ar hf py fun v1 Hw=>ai _ rH ?_))
 have RX:(H.set n dd v1) t=some ⟨jO,(some n,(T.id:Int),(o:Int),many)⟩:=by rw[cp _ _ _ bb];exact h.ht
 refine ay (aH RX (ay (aH RX (au fun _=>?_))))
 dsimp only
 rw[show(((c0.steps.length+1:Nat):Int)- 2)=(c0.steps.length:Int)- 1 from by omega,jd (x:=(c0.steps.length:Int)- 1) (by omega) (by omega),hm,show(((aR T).length:Nat):Int)- 1=((gF (aR T) k).length:Int) from by omega,jd (by omega) (by omega)]
 refine gY c0.steps.length (fun j st H'=>∃(h:Nat) (c:Ctx h hh) (s:Tr h) (z:Nat) (tl:List (Nat×Nat)) (v:uD) (f:Nat→Option Nd) (u:Nat),st=((some t,ez (c.steps++(s.id,z)::tl),(c.steps.length:Int)- 1,()),())∧c.steps.length+j=c0.steps.length∧H' t=some ⟨jO,(some n,(T.id:Int),(o:Int),((gF (aR T) k).length:Int))⟩∧H' n=some ⟨dd,v⟩∧Ar v f u∧jw f u (aZ c s)∧c.Sz o∧Sz o (c.lo o - 1) o s∧aR (aZ c s)=gF (aR T) k∧(aZ c s).id=T.id∧uF t n H H') ?_ ?_
 ·refine⟨0,c0,Tr.lf i (gF ps k),0,[],v1,_,u,?_,rfl,bU _ _ _ _,by rw[cp _ _ _ bb.symm];exact bU _ _ _ _,Hw,Kw,p2,?_,E_,cP,((uF.refl _ _ _).alA _ _).alz _ _⟩
  ·simp[ez]
  ·obtain⟨b1,b2⟩:=gq.1 p3
   exact gq.2 ⟨by omega,by omega⟩
 rintro j st H1 C hj ⟨h',c,s,z,tl,v2,f2,u2,rfl,kT,E6,Wx,CX,GI,GH,hz2,AB,P1,acZ⟩ hC
 dsimp only at hC⊢
 have hsc:=uv c
 have CN:fR f2 s:=((en c _).1 GI.rep).2
 obtain⟨xs,ED,hxz⟩:=D_ CN
 cases c with
 |top=>
  have P1:s.id=T.id:=P1
  have GI:jw f2 u2 s:=GI
  have AB:aR s=gF (aR T) k:=AB
  refine bP (decide_eq_false (by simp[Ctx.steps])) ?_
  exact PZ P1 E6 Wx CX GI hz2 h3 fun H3 g1 g2=>kk H3 (acZ.trans g1) (AB▸g2)
 |down c fr=>
  have GI:jw f2 u2 (aZ c (fr.fill s)):=GI
  have Az:(Ctx.down c fr).steps=c.steps++[(fr.id,fr.kl.length)]:=rfl
  have tQ:(Ctx.down c fr).steps.length=c.steps.length+1:=by rw[Az];simp
  have hw:ez ((Ctx.down c fr).steps++(s.id,z)::tl)=ez c.steps++((fr.id:Int),(fr.kl.length:Int))::((s.id:Int),(z:Int))::ez tl:=by rw[Az];simp[ez]
  have GY:(ez c.steps).length=c.steps.length:=by simp[ez]
  have ada:Sz o (o/2 - 1) o s:=hz2
  refine cd (decide_eq_true ?_) (ay (aH E6 ?_))
  ·show(0:Int)≤_
   omega
  rw[hw,tQ,show(((c.steps.length+1:Nat):Int)- 1)=(c.steps.length:Int) from by omega,jd (x:=(c.steps.length:Int)+1) (by omega) (by omega)]
  refine b_ (i:=c.steps.length+1) (by omega) (x:=((s.id:Int),(z:Int))) (by rw[List.getElem?_append_right (by omega),GY,Nat.add_sub_cancel_left];rfl) (k6 Wx CX ED (ai _ (Jo _) (ay (aH E6 ⟨by decide,?_⟩))))
  dsimp only
  rw[hxz,aaE (by omega)]
  refine cM (fun o0=>?_) fun aY=>?_
  ·rw[decide_eq_true_eq] at o0
   have o0:((o/2:Nat):Int)≤(s.size:Int):=o0
   exact kk H1 acZ ⟨hh,aZ (.down c fr) s,v2,f2,u2,⟨by rw[P1];exact E6,Wx,CX,GI,xB _ _ GH (ada.to (by show o/2≤_;omega) ada.size.2)⟩,AB⟩
  ·rw[decide_eq_false_iff_not] at aY
   have aY:¬((o/2:Nat):Int)≤(s.size:Int):=aY
   refine b_ (i:=c.steps.length) rfl (x:=((fr.id:Int),(fr.kl.length:Int))) (by rw[List.getElem?_append_right (by omega),GY,Nat.sub_self];rfl) ?_
   refine agV h3 vM GH ada (by omega) E6 Wx CX GI fun v3 f3 u3 P' H3 g1 g2 g3 g4 g5 g6 g7=>?_
   have hnt:t≠n:=bb
   refine hC (by omega) _ _ ⟨h'+1,c,P',fr.kl.length,(s.id,z)::tl,v3,f3,u3,?_,by omega,?_,g7,g1,g2,(iZ.1 GH).2.2.2.2.2.2,g5,?_,?_,acZ.trans g6.t⟩
   ·rw[g4,jd (by omega) (by omega)]
    simp[ez]
   ·rw[g6 t hnt (by rw[E6];rfl)];exact E6
   ·rw[g3];exact AB
   ·rw[←P1];exact sX c _ _ g4)
end
def DH:TypeId→Option AK
 |133=>some (kR)
 |92=>some (eo)
 |210=>some (y_)
 |_=>none
def DI:FuncId→Option oW
 |16=>some ⟨VP,IQ,0⟩
 |38=>some ⟨VU,IT,0⟩
 |55=>some ⟨P55,Q0,1⟩
 |56=>some ⟨Lp,zd,1⟩
 |95=>some ⟨Q5,F4,0⟩
 |105=>some ⟨abl,Nr,2⟩
 |106=>some ⟨abn,Ns,2⟩
 |_=>none
theorem uQ:Tryz.prog.follows .mixedOrders=true:=by kernel_rfl
def aca (a0:Option Nat) (a1:aq) (H:HP) (K:HT Nr→HP→Prop):Prop:=
 af (Option.isNone a0) (K (none,.iface 62 (.int .i64 1),()) H) (VQ (a1.1,a1.2) fun(x1:VM)=>af (! x1.1) (K (none,.iface 62 (.int .i64 1),()) H) (ao a0 fun i2=>aJ eo i2 H fun(x3:gu)=>Z55 a0 a1.1 H fun(x4:T55)=>Q1 x3.1 x4.1 H fun(x5:VN)=>Q95 x5.1.2.1 a1.1 fun(x6:T95)=>ao a0 fun i7=>aJ eo i7 H fun(x8:gu)=>fe x5.1.2.1.length x6.1 ((x5.1.2.1.length:Nat):Int) fun i9 i10=>pd y_ (x8.1,a1.1,a1.2,sub x5.1.2.1 i9 i10,x5.1.2.2.2.2) H fun i11 qA=>K (some i11,.nilIface,()) qA))
theorem SF (a0 a1 H K) (h:aca a0 a1 H K):abm a0 a1 H K:=
 aa uQ Tryz.func105 (Eq.mp (by kernel_rfl:aca a0 a1 H K=bq ⟨Tryz.prog,DI,DH,[],ch⟩ ⟨[(5,.one .any),(17,.one .any),(25,.row .byte),(32,.row aj),(34,.row .byte),(44,.row aj),(46,.row aj)],[]⟩ (.seq .n (.seq (.seq .n (.cond (.seq .n .n) .n)) (.seq (.ord 151115727451828646838272) (.seq .n (.seq (.ord 0) (.gh [.cls 50 y_] .n)))))) Tryz.f105 abl (a0,a1,()) Nr H K) h)
def acb (a0:Option Nat) (H:HP) (K:HT Ns→HP→Prop):Prop:=
 a9 (V:=(Option Nat×Unit×Unit)×(Unit×Unit×Unit)×Unit) ((a0,(),()),((),(),()),()) H fun x1 H2 B3=>ao x1.1.1 fun i4=>aJ y_ i4 H2 fun(x5:MW)=>aP x5.2.2.2.1.length fun n6=>af (n6==0) (ao x1.1.1 fun i7=>aJ y_ i7 H2 fun(x8:MW)=>ao x1.1.1 fun i9=>aJ y_ i9 H2 fun(bp:MW)=>Q1 x8.1 bp.2.2.2.2 H2 fun(br:VN)=>af (! br.2.1) (K (([],[]),false,()) H2) (ao x1.1.1 fun i12=>aJ y_ i12 H2 fun(fG:MW)=>ao x1.1.1 fun i14=>aJ y_ i14 (H2.set i12 y_ (fG.1,fG.2.1,fG.2.2.1,br.1.2.1,fG.2.2.2.2)) fun(dG:MW)=>B3 ((x1.1.1,(),()),((),(),()),()) ((H2.set i12 y_ (fG.1,fG.2.1,fG.2.2.1,br.1.2.1,fG.2.2.2.2)).set i14 y_ (dG.1,dG.2.1,dG.2.2.1,dG.2.2.2.1,br.1.2.2.2.2)))) (ao x1.1.1 fun i16=>aJ y_ i16 H2 fun(gO:MW)=>bT gO.2.2.2.1 0 fun(l18:aq)=>ao x1.1.1 fun i19=>aJ y_ i19 H2 fun(dU:MW)=>Q38 (dU.2.1,dU.2.2.1) l18.1 fun(oZ:T38)=>af (! oZ.1) (K (([],[]),false,()) H2) (ao x1.1.1 fun i22=>aJ y_ i22 H2 fun(gw:MW)=>fe gw.2.2.2.1.length 1 ((gw.2.2.2.1.length:Nat):Int) fun i24 i25=>ao x1.1.1 fun i26=>aJ y_ i26 H2 fun(cr:MW)=>K ((l18.1,l18.2),true,()) (H2.set i26 y_ (cr.1,cr.2.1,cr.2.2.1,sub gw.2.2.2.1 i24 i25,cr.2.2.2.2))))
theorem SG (a0 H K) (h:acb a0 H K):abo a0 H K:=
 aa uQ Tryz.func106 (Eq.mp (by kernel_rfl:acb a0 H K=bq ⟨Tryz.prog,DI,DH,[],ch⟩ ⟨[(10,.row aj),(31,.row aj),(41,.row aj),(49,.row .byte),(57,.row aj),(58,.row aj)],[]⟩ (.seq .n (.seq (.aC (.loop [0,2] [2] (.seq (.seq .n (.cond .n .n)) (.aC (.seq (.ord 151115727451828646838272) (.seq (.seq .n (.cond (.seq .n .n) .n)) (.ord 2304))))))) (.seq .n (.seq (.seq (.ord 0) (.cond (.seq .n .n) .n)) (.seq .n (.seq .n .n)))))) Tryz.f106 abn (a0,()) Ns H K) h)
def A94 (a0:Option Nat) (a1:aq) (a2:Int) (H:HP) (K:HT R94→HP→Prop):Prop:=
 abm a0 (a1.1,a1.2) H fun(x1:arY) H2=>((cB x1.2.1:Bool)=true)∧(af (! (bj x1.2.1)) (K ([],x1.2.1,()) H2) (bE (V:=((List aq)×Unit)×Unit) (fun x3 H4=>K (x3.1.1,.nilIface,()) H4) fun B5=>a9 (V:=(Int×Option Nat×(List aq)×Unit)×Unit) ((a2,x1.1,[],()),()) H2 fun x6 H7 B8=>aP x6.1.2.2.1.length fun n9=>af (decide (n9<x6.1.1)) (abo x6.1.2.1 H7 fun(bp:arZ) oX=>af (! bp.2.1) (B5 ((x6.1.2.2.1,()),()) oX) (cR x6.1.2.2.1.length 1 48 (B8 ((x6.1.1,x6.1.2.1,x6.1.2.2.1++[(bp.1.1,bp.1.2)],()),()) oX))) (B5 ((x6.1.2.2.1,()),()) H7)))
theorem Xa (a0 a1 a2 H K) (h:A94 a0 a1 a2 H K):C94 a0 a1 a2 H K:=
 aa uQ Tryz.func94 (Eq.mp (by kernel_rfl:A94 a0 a1 a2 H K=bq ⟨Tryz.prog,DI,DH,[],ch⟩ ⟨[(6,.own aj 56),(7,.one .any),(9,.one .any),(10,.own aj 56),(18,.one .any),(19,.one .any),(21,.one .any),(22,.own aj 56),(33,.own aj 56),(35,.row aj),(36,.own aj 56),(37,.own aj 56)],[]⟩ (.seq .n (.seq .n (.seq (.seq .n (.cond (.seq .n .n) .n)) (.seq .n (.join [(10,.v (.own aj 56))] [] (.aC (.loop [2,8,10] [] (.seq (.seq .n (.cond .n .n)) (.aC (.seq .n (.seq (.seq .n (.cond .n .n)) .n)))))) (.seq .n .n)))))) Tryz.f94 P94 (a0,a1,a2,()) R94 H K) h)
abbrev CUk:AK:=.cons .ref (.cons (.row .byte) (.cons (.row .byte) (.cons (.row (.cons (.row .byte) (.row .byte))) (.one (.int .i64)))))
def Cur (H:HP) (c n:Nat) (r:Key×Key) {hh:Nat} (T:Tr hh) (rest:List Pr):Prop:=∃(l:List Pr) (B A:List (Nat×List Pr)),H c=some ⟨CUk,(some n,r.1,r.2,l,hd B (-1))⟩∧de T=A++B∧rest=l++B.flatMap (·.2)
theorem anb {H:HP} {x t:Nat} {a:CUk.T} {b:dd.T} (hx:H x=some ⟨CUk,a⟩) (ht:H t=some ⟨dd,b⟩):x≠t:=fun e=>by
 subst e;rw[hx] at ht;injection ht with ht;injection ht with h1;injection h1 with h1;cases h1
theorem Sn:∀{h H:Nat} (c:Ctx h H),c.lr.flatMap (·.2)=dt c.r
 |_,_,.top=>rfl
 |h,_,.down c f=>by
  have p2:∀(ks:List Key) (ls:List (List It)),dt (sY ks ls)=(ls.map dt).flatten:=by
   intro ks ls
   cases ks with
   |nil=>simp[sY,jP]
   |cons k ks=>simp[sY,dt,jP]
  have key:∀l:List (Tr h),(l.map de).flatten.flatMap (·.2)=((l.map fl).map dt).flatten:=by
   intro l
   induction l with
   |nil=>rfl
   |cons x l ih=>
    simp only[List.map_cons,List.flatten_cons,List.flatMap_append]
    rw[ih,kj];rfl
  simp only[Ctx.lr,Ctx.r,List.flatMap_append,dT]
  rw[Sn c,p2,key]
section
variable {H:HP} {t n u o:Nat} {many:Int} {v:uD} {f:Nat→Option Nd} {hh:Nat} {T:Tr hh}
theorem ahC (h:TI H t n o many T v f u) (h3:3≤o) (hb:(aR T).length≤100000) (r:Key×Key) {K:HT [(false,.ref),(false,.one .any)]→HP→Prop} (k0:dm r.1 r.2=false→K (none,eC 1,()) H)
 (k1:dm r.1 r.2=true→∀c H' m,H c=none→Fm [c] H H'→Cur H' c n r T ((aR T).drop m)→m≤(aR T).length→(∀p∈(aR T).take m,al p.1 r.1=true)→(∀p∈(aR T).drop m,al p.1 r.1=false)→K (some c,.nilIface,()) H'):abm (some t) r H K:=SF _ _ _ _ (by
 unfold aca
 refine bP rfl (ai _ (nr r) (bN (fun hs=>k0 hs) fun hs=>ay (aH h.ht (k5 _ (fun K' bW=>Ef h h3 hb r.1 bW) ?_))))
 obtain⟨c,i,ps,ks,kd,nx,h1,h2,h4,h5,h6,h7,hf⟩:=h.loc r.1
 rw[tG h2]
 have hr:=Df h.cG h1 h4
 have ha:=h.all h1 h4
 have zE:=Dg h6 h7
 have o7:ps.length≤100000:=by rw[ha] at hb;simp at hb;omega
 refine qj h.hn h.ar hf (ai _ (yl ps r.1 hr.sort (by omega)) (ay (aH h.ht ?_)))
 dsimp only
 have hle:=Fb ps r.1
 refine gj (a:=lb ps r.1) (b:=ps.length) rfl rfl hle (Nat.le_refl _) ?_
 rw[fT]
 intro x hx
 have hl:=lZ c (Tr.lf i ps)
 rw[h1] at hl
 have LN:nx=hd c.lr (-1):=by
  have Dx:=h.cG.yh
  rw[hl,List.append_assoc,gH] at Dx
  have h8:=Dx.2.1
  unfold gX at h8
  rw[show((Tr.lf i ps).1,(Tr.lf i ps).2).1=i from rfl,hf] at h8
  exact h8
 have hm:(aR T).drop ((dt c.l).length+lb ps r.1)=ps.drop (lb ps r.1)++dt c.r:=by
  rw[ha,List.append_assoc,←List.drop_drop,List.drop_left',List.drop_append_of_le_length hle];rfl
 have GI:(aR T).take ((dt c.l).length+lb ps r.1)=dt c.l++ps.take (lb ps r.1):=by
  rw[ha,List.append_assoc,List.take_append,List.take_of_length_le (by omega),Nat.add_sub_cancel_left,List.take_append_of_le_length hle]
 refine k1 hs x _ ((dt c.l).length+lb ps r.1) hx ((Fm.refl _ _).set (by simp) _ _) ⟨ps.drop (lb ps r.1),c.lr,c.ll++[(i,ps)],?_,by rw[hl];simp,by rw[hm,Sn]⟩ (by rw[ha];simp;omega) (fun p hp=>?_) fun p hp=>?_
 ·rw[bU,LN]
 ·rw[GI] at hp
  rcases List.mem_append.1 hp with hp|hp
  ·exact zE.1 p hp
  ·rw[xD hr.sort] at hp
   exact(List.mem_filter.1 hp).2
 ·rw[hm] at hp
  rcases List.mem_append.1 hp with hp|hp
  ·rw[Mr hr.sort] at hp
   simpa using (List.mem_filter.1 hp).2
  ·exact fc (zE.2 p hp))
theorem ahD (h:TI H t n o many T v f u) (hb:(aR T).length≤100000) {c:Nat} {r:Key×Key} {rest:List Pr} (hc:Cur H c n r T rest) {K:HT [(true,.cons (.row .byte) (.row .byte)),(false,.one .bool)]→HP→Prop}
 (k0:∀H',Fm [c] H H'→Cur H' c n r T rest→(∀p,rest.head?=some p→rI r.1 r.2 p.1=false)→K (([],[]),false,()) H')
 (k1:∀p q H',rest=p::q→rI r.1 r.2 p.1=true→Fm [c] H H'→Cur H' c n r T q→K (p,true,()) H'):abo (some c) H K:=SG _ _ _ (by
 unfold acb
 obtain⟨l0,B0,A0,hc0,uh,hr0⟩:=hc
 have hca:=anb hc0 h.hn
 refine gY B0.length (fun i v' H'=>v'=((some c,(),()),((),(),()),())∧Fm [c] H H'∧∃l B A,H' c=some ⟨CUk,(some n,r.1,r.2,l,hd B (-1))⟩∧de T=A++B∧rest=l++B.flatMap (·.2)∧B.length+i=B0.length) ⟨rfl,Fm.refl _ _,l0,B0,A0,hc0,uh,hr0,rfl⟩ ?_
 rintro i v' H' C hi ⟨rfl,wE,l,B,A,hc,hl,hr,hlen⟩ hC
 have mC:H' n=some ⟨dd,v⟩:=by rw[wE n (by simp;exact fun e=>hca e.symm)];exact h.hn
 have bF:aR T=A.flatMap (·.2)++B.flatMap (·.2):=by unfold aR;rw[hl,List.flatMap_append]
 dsimp only at hC⊢
 refine ay (aH hc (au fun _=>oK (fun h0=>?_) fun h0=>?_))
 ·have uh:l=[]:=by cases l with|nil=>rfl|cons a b=>exfalso;simp at h0;omega
  subst uh
  refine ay (aH hc (ay (aH hc ?_)))
  cases B with
  |nil=>
   refine ahu mC h.ar (.inl (by simp[hd])) (cd rfl (k0 _ wE ⟨[],[],A,hc,hl,hr⟩ fun p hp=>?_))
   rw[hr] at hp;simp at hp
  |cons b B=>
   obtain⟨ks,kd,nx,hf⟩:=Eg h.cG.rep b (by rw[hl];simp)
   have LN:nx=hd B (-1):=by
    have Dx:=h.cG.yh
    rw[hl,gH] at Dx
    have h8:=Dx.2.1
    unfold gX at h8
    rw[hf] at h8
    exact h8
   refine qj mC h.ar (i:=b.1) hf (bP rfl (ay (aH hc (ay (aH (bU _ _ _ _) ?_)))))
   rw[h_]
   simp only[List.length_cons] at hlen
   refine hC (by omega) _ _ ⟨rfl,wE.set (by simp) _ _,b.2,B,A++[b],?_,by rw[hl];simp,by rw[hr];simp,by omega⟩
   rw[bU,LN]
 ·cases l with
  |nil=>exact absurd rfl h0
  |cons p l=>
   refine ay (aH hc (b_ (i:=0) rfl (x:=p) rfl (ay (aH hc (ai _ (QS (r.1,r.2) p.1) (bN (fun mV=>?_) fun mV=>?_))))))
   ·refine k0 _ wE ⟨p::l,B,A,hc,hl,hr⟩ fun q hq=>?_
    rw[hr] at hq
    simp at hq
    subst hq
    exact mV
   ·refine ay (aH hc (gj (a:=1) (b:=(p::l).length) rfl rfl (by simp) (Nat.le_refl _) (ay (aH hc ?_))))
    rw[fT]
    refine k1 p (l++B.flatMap (·.2)) _ hr mV (wE.set (by simp) _ _) ⟨l,B,A,bU _ _ _ _,hl,rfl⟩)
end
def nN (r:Key×Key) (p:Pr):Bool:=rI r.1 r.2 p.1
theorem aaR {r:Key×Key} {p:Pr} (h:al p.1 r.1=false):nN r p=(decide (r.2.length=0)||al p.1 r.2):=by
 unfold nN rI;rw[h];rfl
theorem anc {r:Key×Key} {p:Pr} (h:al p.1 r.1=true):nN r p=false:=by unfold nN rI;rw[h];rfl
theorem Us {r:Key×Key} {p q:Pr} (h:al p.1 r.1=false) (hp:nN r p=false) (zz:al p.1 q.1=true):nN r q=false:=by
 rw[aaR h] at hp
 have hq:al q.1 r.1=false:=by
  cases hb:al q.1 r.1 with
  |false=>rfl
  |true=>rw[cy zz hb] at h;cases h
 rw[aaR hq]
 simp only[Bool.or_eq_false_iff] at hp⊢
 refine⟨hp.1,?_⟩
 cases hb:al q.1 r.2 with
 |false=>rfl
 |true=>rw[cy zz hb] at hp;cases hp.2
theorem Dy {r:Key×Key}:∀{l:List Pr},bO (keys l)→(∀p∈l,al p.1 r.1=false)→l.takeWhile (nN r)=l.filter (nN r)
 |[],_,_=>rfl
 |p::l,hs,hl=>by
  have jl:=List.pairwise_cons.1 (bD.1 hs)
  cases hp:nN r p with
  |true=>
   rw[List.takeWhile_cons_of_pos hp,List.filter_cons_of_pos hp,Dy (bD.2 jl.2) fun q hq=>hl q (by simp[hq])]
  |false=>
   rw[List.takeWhile_cons_of_neg (by rw[hp];simp),List.filter_cons_of_neg (by rw[hp];simp)]
   symm
   exact List.filter_eq_nil_iff.2 fun q hq=>by rw[Us (hl p (by simp)) hp (jl.1 q hq)];simp
theorem Qm {r:Key×Key} {all:List Pr} (hs:bO (keys all)) {m:Nat} (h1:∀p∈all.take m,al p.1 r.1=true) (h2:∀p∈all.drop m,al p.1 r.1=false):(all.drop m).takeWhile (nN r)=all.filter (nN r):=by
 have e:all=all.take m++all.drop m:=(List.take_append_drop m all).symm
 rw[Dy (by
  rw[e,IM,uG] at hs;exact hs.2.1) h2]
 have e1:(all.take m).filter (nN r)=[]:=List.filter_eq_nil_iff.2 fun p hp=>by rw[anc (h1 p hp)];simp
 conv=>rhs;rw[e,List.filter_append]
 rw[e1,List.nil_append]
theorem TI.fm {H H':HP} {t n o:Nat} {many:Int} {hh:Nat} {T:Tr hh} {v:uD} {f:Nat→Option Nd} {u:Nat} (h:TI H t n o many T v f u) {S:List Nat} (hf:Fm S H H') (h1:t∉S) (h2:n∉S):TI H' t n o many T v f u:=
 ⟨by rw[hf t h1];exact h.ht,by rw[hf n h2];exact h.hn,h.ar,h.cG,h.sz⟩
section
variable {H:HP} {t n u o:Nat} {many:Int} {v:uD} {f:Nat→Option Nd} {hh:Nat} {T:Tr hh}
theorem ahE {l:List Pr} {r:Key×Key} {i:Nat} (hi:i<(l.takeWhile (nN r)).length):∃p,l[i]?=some p∧(l.takeWhile (nN r))[i]?=some p∧nN r p=true:=by
 have hx:=List.getElem?_eq_getElem hi
 have BD:=List.takeWhile_prefix (nN r) (l:=l)
 obtain⟨s,hs⟩:=BD
 refine⟨(l.takeWhile (nN r))[i],?_,hx,?_⟩
 ·conv=>lhs;rw[←hs]
  rw[List.getElem?_append_left hi,hx]
 ·exact(List.all_eq_true.1 List.all_takeWhile) _ (List.getElem_mem hi)
theorem Zd (h:TI H t n o many T v f u) (h3:3≤o) (hb:(aR T).length≤100000) (r:Key×Key) (MB:Nat) (alP:MB≤1000000) {K:HT [(false,.row (.cons (.row .byte) (.row .byte))),(false,.one .any)]→HP→Prop} (k0:dm r.1 r.2=false→K ([],eC 1,()) H)
 (k1:dm r.1 r.2=true→∀c H',H c=none→Fm [c] H H'→K (((aR T).filter (nN r)).take MB,.nilIface,()) H'):C94 (some t) r (MB:Int) H K:=Xa _ _ _ _ _ (by
 unfold A94
 refine ahC h h3 hb r (fun hs=>⟨rfl,cd rfl (k0 hs)⟩) fun hs c H1 m Rh wE hc hm Wq Gw=>⟨rfl,bP rfl ?_⟩
 have htc:t∉[c]:=by simp only[List.mem_singleton];exact fun e=>by rw[←e,h.ht] at Rh;cases Rh
 have hnc:n∉[c]:=by simp only[List.mem_singleton];exact fun e=>by rw[←e,h.hn] at Rh;cases Rh
 have k1:=k1 hs c
 have Vt:=Qm h.row.sort Wq Gw
 have hWl:(((aR T).drop m).takeWhile (nN r)).length≤100000:=by
  have:=(List.takeWhile_prefix (nN r) (l:=(aR T).drop m)).length_le
  simp at this;omega
 have qI:∀i,i<(((aR T).drop m).takeWhile (nN r)).length→∃p,((aR T).drop m)[i]?=some p∧(((aR T).drop m).takeWhile (nN r))[i]?=some p∧nN r p=true:=fun i hi=>ahE hi
 have Qn:∀p,((aR T).drop m)[(((aR T).drop m).takeWhile (nN r)).length]?=some p→nN r p=false:=fun p hp=>Ky (nN r) _ p hp
 rw[←Vt] at k1
 generalize ((aR T).drop m).takeWhile (nN r)=Wl at k1 hWl qI Qn
 generalize hR:(aR T).drop m=R at hc qI Qn
 refine bf ?_
 refine gY Wl.length (fun i v' H'=>v'=(((MB:Int),some c,Wl.take i,()),())∧i≤MB∧Fm [c] H H'∧Cur H' c n r T (R.drop i)) ⟨rfl,Nat.zero_le _,wE,hc⟩ ?_
 rintro i v' H' C hi ⟨rfl,WT,wE,hc⟩ hC
 dsimp only at hC⊢
 have hTI:=h.fm wE htc hnc
 have hl:(Wl.take i).length=i:=by simp;omega
 have fin:i=Wl.length∨i=MB→∀H',Fm [c] H H'→K (Wl.take i,.nilIface,()) H':=fun he H' hf=>by
  have:=k1 H' Rh hf
  rcases he with rfl|rfl
  ·rw[List.take_length]
   rw[List.take_of_length_le WT] at this;exact this
  ·exact this
 refine au fun _=>?_
 rw[hl]
 refine dR (fun aY=>?_) fun o0=>fin (.inr (by omega)) _ wE
 refine ahD hTI hb hc (fun H2 hf2 GH OZ=>cd rfl (fin (.inl ?_) _ (wE.trans hf2))) fun p q H2 zz mV hf2 GH=>bP rfl (bM (by omega) ?_)
 ·rcases Nat.lt_or_ge i Wl.length with h5|h5
  ·exfalso
   obtain⟨p,hp,_,mV⟩:=qI i h5
   have:=OZ p (by rw[List.head?_drop];exact hp)
   unfold nN at mV;rw[this] at mV;cases mV
  ·omega
 ·have hp:R[i]?=some p:=by rw[←List.head?_drop,zz];rfl
  rcases Nat.lt_or_ge i Wl.length with h5|h5
  ·obtain⟨p',ji,hw,_⟩:=qI i h5
   rw[hp] at ji
   injection ji with ji
   subst ji
   have e:Wl.take (i+1)=Wl.take i++[p]:=by rw[bH h5,(List.getElem?_eq_some_iff.1 hw).2]
   have hC:=hC h5
   rw[e] at hC
   refine hC _ _ ⟨rfl,by omega,wE.trans hf2,?_⟩
   have:R.drop (i+1)=q:=by rw[←List.drop_drop,zz];rfl
   rw[this];exact GH
  ·exfalso
   have he:i=Wl.length:=by omega
   rw[he] at hp
   have:=Qn p hp
   unfold nN at this;rw[mV] at this;cases this)
end
theorem Zl (a b:Key) (ha:a.length≤140737488355328) (hb:b.length≤140737488355328):S83 a b ((a,b),()):=aff a b fun H K hk=>by
 unfold A83
 exact ai _ (bJ a ha) (ai _ (bJ b hb) hk)
theorem Qp (r:Key×Key) (ha:r.1.length≤140737488355328) (hb:r.2.length≤140737488355328):S20 r (r,()):=afd r fun H K hk=>by
 unfold A20
 exact ai _ (bJ _ ha) (ai _ (bJ _ hb) hk)
theorem Dz {a b:Key} (h:dm a b=true):a.length≤16∧b.length≤16:=by
 unfold dm at h
 simp only[Bool.and_eq_true,decide_eq_true_eq] at h
 exact h.1
def lL (a b:Key×Key):Key:=if lJ a.1 b.1<0 then b.1 else a.1
def lM (a b:Key×Key):Key:=if a.2.length=0∨(b.2.length>0∧lJ b.2 a.2<0) then b.2 else a.2
def AG (a b:Key×Key):(Key×Key)×Bool:=if dm a.1 a.2&&(dm b.1 b.2&&dm (lL a b) (lM a b)) then((lL a b,lM a b),true) else(([],[]),false)
theorem Zm (a b:Key×Key):S60 a b ((AG a b).1,(AG a b).2,()):=afe a b fun H K hk=>by
 unfold A60
 unfold AG at hk
 refine ai _ (nr a) (bN (fun h=>?_) fun h=>ai _ (nr b) (bN (fun h'=>?_) fun h'=>?_))
 ·rw[show dm a.1 a.2=false from h] at hk;exact hk
 ·rw[show dm b.1 b.2=false from h',Bool.false_and,Bool.and_false] at hk;exact hk
 rw[show dm a.1 a.2=true from h,show dm b.1 b.2=true from h',Bool.true_and,Bool.true_and] at hk
 have fin:∀(f t:Key),f=lL a b→t=lM a b→VQ (f,t) fun(x7:VM)=>af (! x7.1) (K (([],[]),false,()) H) (Q83 f t fun(x8:T83)=>K ((x8.1.1,x8.1.2),true,()) H):=fun f t hf ht=>by
  subst hf ht
  refine ai _ (nr _) (bN (fun h=>?_) fun h=>?_)
  ·rw[if_neg (by rw[show dm (lL a b) (lM a b)=false from h];simp)] at hk;exact hk
  ·have hl:=Dz (show dm (lL a b) (lM a b)=true from h)
   rw[if_pos (show dm (lL a b) (lM a b)=true from h)] at hk
   exact ai _ (Zl _ _ (by omega) (by omega)) hk
 refine bf (ai _ (rm _ _) (fW (fun hc=>?_) fun hc=>?_))
 all_goals
  refine bf (bf (au fun _=>oK (fun h0=>?_) fun h0=>au fun _=>fW (fun h1=>ai _ (rm _ _) ?_) fun h1=>?_))
 ·exact cd rfl (fin _ _ (by rw[lL,if_pos hc]) (by rw[lM,if_pos (.inl (by have h0:((a.2.length:Nat):Int)=0:=h0;omega))]))
 ·refine fW (fun h2=>fin _ _ (by rw[lL,if_pos hc]) (by rw[lM,if_pos (.inr ⟨by have h1:((b.2.length:Nat):Int)>0:=h1;omega,h2⟩)])) fun h2=>fin _ _ (by rw[lL,if_pos hc]) (by rw[lM,if_neg (fun h=>h.elim (fun h=>h0 (by show((a.2.length:Nat):Int)=0;omega)) fun h=>h2 h.2)])
 ·exact bP rfl (fin _ _ (by rw[lL,if_pos hc]) (by rw[lM,if_neg (fun h=>h.elim (fun h=>h0 (by show((a.2.length:Nat):Int)=0;omega)) fun h=>h1 (by show((b.2.length:Nat):Int)>0;omega))]))
 ·exact cd rfl (fin _ _ (by rw[lL,if_neg hc]) (by rw[lM,if_pos (.inl (by have h0:((a.2.length:Nat):Int)=0:=h0;omega))]))
 ·refine fW (fun h2=>fin _ _ (by rw[lL,if_neg hc]) (by rw[lM,if_pos (.inr ⟨by have h1:((b.2.length:Nat):Int)>0:=h1;omega,h2⟩)])) fun h2=>fin _ _ (by rw[lL,if_neg hc]) (by rw[lM,if_neg (fun h=>h.elim (fun h=>h0 (by show((a.2.length:Nat):Int)=0;omega)) fun h=>h2 h.2)])
 ·exact bP rfl (fin _ _ (by rw[lL,if_neg hc]) (by rw[lM,if_neg (fun h=>h.elim (fun h=>h0 (by show((a.2.length:Nat):Int)=0;omega)) fun h=>h1 (by show((b.2.length:Nat):Int)>0;omega))]))
abbrev kN:AK:=.cons (.one (.int .i64)) (.cons (.cons (.row .byte) (.row .byte)) (.cons (.cons (.one (.int .i64)) (.cons (.one (.int .i64)) (.cons (.one (.int .i64)) (.cons (.one (.int .i64)) (.cons (.one (.int .i64)) (.one (.int .i64))))))) (.cons .ref (.cons .ref (.cons .ref (.cons .ref (.cons (.one (.int .i64)) (.one (.int .u64)))))))))
theorem HY {H:HP} {p:Nat} {x:kN.T} (hp:H p=some ⟨kN,x⟩) (r:a_) (K:HT [(true,.cons (.row .byte) (.row .byte)),(false,.one .bool)]→HP→Prop) (hk:K ((AG x.2.1 (r.2.2.2.1,r.2.2.2.2.2.2.1)).1,(AG x.2.1 (r.2.2.2.1,r.2.2.2.2.2.2.1)).2,()) H):C39 (some p) r H K:=XJ _ _ _ _ (by
 unfold A39
 exact ax (aF hp (ai _ (Zm _ _) hk)))
def lN (rg:Key×Key) (r:a_):Bool:=if r.2.2.1=6 then(AG rg (r.2.2.2.1,r.2.2.2.2.2.2.1)).2 else rI rg.1 rg.2 r.2.2.2.1
theorem Sq {H:HP} {p:Nat} {x:kN.T} (hp:H p=some ⟨kN,x⟩) (r:a_) (K:HT [(false,.one .bool)]→HP→Prop) (hk:K (lN x.2.1 r,()) H):C23 (some p) r H K:=XI _ _ _ _ (by
 unfold A23
 unfold lN at hk
 refine WI (fun h=>ax (aF hp (ai _ (QS _ _) ?_))) fun h=>cI _ (fun K' bW=>HY hp r K' bW) ?_
 ·rw[if_neg h] at hk;exact hk
 ·rw[if_pos h] at hk;exact hk)
theorem ME {H:HP} {p n b:Nat} {s:Sl} {l:List One} {x:kN.T} (hp:H p=some ⟨kN,x⟩) (hx:x.2.2.2.2.1=some n) (uv:x.2.2.2.2.2.2.2.1≠3) (hs:cF H n b s l) (r:a_) (hr:kS r) (K:HT [(false,.one (.int .i64)),(false,.one .any)]→HP→Prop)
 (h1:eM r=false→K (0,er 1,()) H) (h6:eM r=true→lN x.2.1 r=false→K (0,er 6,()) H)
 (hk:eM r=true→lN x.2.1 r=true→K ((jy l r).1,er (jy l r).2.1,()) (H.set b (.arr jR 106) (s,(jy l r).2.2))):C8 (some p) r H K:=afg _ _ _ _ (by
 unfold A8
 refine ax (aF hp (bP (beq_eq_false_iff_ne.2 uv) (ai _ (xS r) (bN (fun h=>h1 h) fun h=>cI _ (fun K' bW=>Sq hp r K' bW) (bN (fun h'=>h6 h h') fun h'=>ax (aF hp ?_))))))
 rw[hx]
 exact ahO hs r hr _ (hk h h'))
theorem Zu {H:HP} {p n b:Nat} {s:Sl} {l:List One} {x:kN.T} (hp:H p=some ⟨kN,x⟩) (hx:x.2.2.2.2.1=some n) (hs:cF H n b s l) (ok:rK l) (i c q:Int) (K:HT [(true,RSk),(false,.one .any)]→HP→Prop)
 (hk:K ((mM l i c q).1,er (mM l i c q).2.1,()) (H.set b (.arr jR 106) (s,(mM l i c q).2.2))):C13 (some p) i c q H K:=XM _ _ _ _ _ _ (by
 unfold A13
 refine ax (aF hp ?_)
 rw[hx]
 exact ahP hs ok i c q _ hk)
theorem HZ {H:HP} {p t n o:Nat} {ps:List Pr} {many:Int} {x:kN.T} (hp:H p=some ⟨kN,x⟩) (hx:x.2.2.2.1=some t) (ht:fE H t n o ps many) (h3:3≤o) (hb:ps.length≤1000) (K:HT [(false,.row (.cons (.row .byte) (.row .byte)))]→HP→Prop) (hk:K (ps,()) H):VO (some p) H K:=XN _ _ _ (by
 obtain⟨hh,T,v,f,u,ti,rfl⟩:=ht
 unfold A11
 refine ax (aF hp ?_)
 rw[hx]
 exact cI _ (fun K' bW=>Ur ti h3 (by omega) bW) hk)
theorem Qs {H:HP} {p n b j jb je:Nat} {s js se:Sl} {l:List One} {gs:List (List bI)} {ap an:Nat} {x:kN.T} (hp:H p=some ⟨kN,x⟩) (hx:x.2.2.2.2.1=some n) (hj:x.2.2.2.2.2.2.1=some j) (hs:cF H n b s l) (hJ:∀l',lh (H.set b (.arr jR 106) (s,l')) j jb je js se gs ap an) (hpb:p≠b) (i:Int) (a:eH) (ha:j5 a) (K:HT [(false,.one .any)]→HP→Prop)
 (h0:(dr l i a).1≠0→K (er (dr l i a).1,()) (H.set b (.arr jR 106) (s,(dr l i a).2)))
 (I2:(dr l i a).1=0→cV gs ap≤an→K (er 10,()) (H.set b (.arr jR 106) (s,(dr l i a).2)))
 (cG:(dr l i a).1=0→an<cV gs ap→an+1≠gs.flatten.length→∀H',lh H' j jb je js se gs ap (an+1)→pC (H.set b (.arr jR 106) (s,(dr l i a).2)) H'→K (er 0,()) H')
 (fin:(dr l i a).1=0→an<cV gs ap→an+1=gs.flatten.length→∀H',lh H' j 0 0 ⟨none,0,0⟩ ⟨none,0,0⟩ [] 0 0→pC (H.set b (.arr jR 106) (s,(dr l i a).2)) H'→K (er 0,()) H'):C49 (some p) i a H K:=XQ _ _ _ _ _ (by
 unfold A49
 refine ax (aF hp ?_)
 rw[hx]
 refine Uy hs i a ha _ ⟨dP _,?_⟩
 refine bN (fun h=>?_) fun h=>ax (aF ((di hpb).trans hp) ?_)
 ·exact h0 (fun e=>by rw[show(er (dr l i a).1,()).1=er (dr l i a).1 from rfl,k9,e] at h;cases h)
 ·have e:(dr l i a).1=0:=by
   have h:bj (er (dr l i a).1)=true:=h
   rw[k9] at h
   exact of_decide_eq_true h
  rw[hj]
  exact Ig (hJ _) _ (I2 e) (cG e) (fin e))
theorem Zv {H:HP} {p t n o:Nat} {ps:List Pr} {many:Int} {x:kN.T} (hp:H p=some ⟨kN,x⟩) (hx:x.2.2.2.1=some t) (ht:fE H t n o ps many) (h3:3≤o) (hb:ps.length≤1000) (r:a_) (MB:Nat) (alP:r.2.2.2.2.2.2.2=(MB:Int)) (hl:MB≤1000000) (K:HT [(true,RSk),(false,.one .any)]→HP→Prop)
 (hk:∀rows e c H',(∀q∈rows,q∈ps)→rows.length≤ps.length→(H'=H∨(H c=none∧Fm [c] H H'))→K ((0,false,[],rows,x.2.2.2.2.2.2.2.2),er e,()) H'):C84 (some p) r H K:=XR _ _ _ _ (by
 obtain⟨hh,T,v,f,u,ti,rfl⟩:=ht
 unfold A84
 refine cI _ (fun K' bW=>HY hp r K' bW) (bN (fun h=>ax (aF hp (hk [] 0 0 H (by simp) (by simp) (.inl rfl)))) fun h=>ax (aF hp ?_))
 rw[hx]
 show C94 (some t) _ r.2.2.2.2.2.2.2 H _
 rw[alP]
 refine Zd ti h3 (by omega) _ MB hl (fun _=>ax (aF hp (hk [] 1 0 H (by simp) (by simp) (.inl rfl)))) fun _ c H' hc hf=>ax (aF (x:=x) ?_ (hk _ 0 c H' (fun q hq=>(List.mem_filter.1 (List.mem_of_mem_take hq)).1) ?_ (.inr ⟨hc,hf⟩)))
 ·rw[hf p (by simp only[List.mem_singleton];intro e;rw[←e,hp] at hc;cases hc)];exact hp
 ·exact Nat.le_trans (List.length_take_le' _ _) (List.length_filter_le _ _))
end Go.Proofs.YtmoebnnbjppjbaaGreat
