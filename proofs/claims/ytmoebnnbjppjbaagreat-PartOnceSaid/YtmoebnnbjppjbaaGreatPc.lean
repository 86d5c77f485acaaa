/- Pc: texts of ours, one behind the other, in short writing (spaces and names cut by a program of ours): Kb, Kc. -/
import Derived.Test.YtmoebnnbjppjbaaGreatPb
set_option linter.unusedSimpArgs false
set_option linter.unusedVariables false
namespace Go.Ga
open Go Go.Gp
section
variable {cx:Cx} {W0:World} {w0:Mk} {X:Nat→Prop} {E:Env} {B:BL} {O:OL} {H:HP} {W W' gZ:World} {K:AV→BL→OL→HP→Prop}
structure lz (W W':World) (b:Nat):Prop where
 os:W'.os=W.os
 tape:W'.tape=W.tape
 output:W'.output=W.output
 size:W'.heap.size=W.heap.size
 other:∀c,c≠b→W'.heap[c]?=W.heap[c]?
theorem lz.refl (W:World) (b:Nat):lz W W b:=⟨rfl,rfl,rfl,rfl,fun _ _=>rfl⟩
theorem lz.trans {b:Nat} (h:lz W W' b) (k:lz W' gZ b):lz W gZ b:=⟨k.os.trans h.os,k.tape.trans h.tape,k.output.trans h.output,k.size.trans h.size,fun c hc=>(k.other c hc).trans (h.other c hc)⟩
theorem TA (b o:Nat) (v:Value):lz W (W.setCell ⟨b,o,none⟩ v) b:=by
 refine⟨rfl,rfl,rfl,by simp,fun c hc=>?_⟩
 simp only[World.setCell,Array.getElem?_modify]
 grind
theorem Ik {C:Array Value} {t:TypeId} {b:Nat} (h:W.heap[b]?=some (.cells C t (0,0))) (o:Nat) (v:Value):(W.setCell ⟨b,o,none⟩ v).heap[b]?=some (.cells (C.setIfInBounds o v) t (0,0)):=by
 simp[World.setCell,Array.getElem?_modify,h]
theorem wa {P:Program} {t:TypeId} {b:Nat}:∀(ws:List Value) (off i:Nat) {C:Array Value} {W:World},W.heap[b]?=some (.cells C t (0,0))→off+i+ws.length≤C.size→(∀w∈ws,w.oneCell'=true)→
 ∃W' C',(storeCells ⟨b,off,none⟩ ws i).run P W=.ok () W'∧W'.heap[b]?=some (.cells C' t (0,0))∧C'.toList=iC C.toList (off+i) ws∧lz W W' b
 |[],off,i,C,W,h,_,_=>⟨W,C,rfl,h,rfl,lz.refl _ _⟩
 |v::ws,off,i,C,W,h,hle,h1=>by
  simp only[List.length_cons] at hle
  have hc:W.cell? ⟨b,off+i,none⟩=some (C[off+i]'(by omega)):=by simp[World.cell?,h,Array.getElem?_eq_getElem (show off+i<C.size by omega)]
  have hf:W.frozen? ⟨b,off+i,none⟩=false:=by simp[World.frozen?,h]
  obtain⟨W',C',r1,r2,r3,r4⟩:=wa (P:=P) ws off (i+1) (Ik h (off+i) v) (by grind) fun w hw=>h1 w (by grind)
  refine⟨W',C',?_,r2,?_,(TA b (off+i) v).trans r4⟩
  ·have ha:(Addr.mk b off none).add i=⟨b,off+i,none⟩:=bw _ _ _
   simp[storeCells,run_store P W _ v .plain (h1 v (by simp)),ha,hc,hf,r1]
  ·rw[r3,Array.toList_setIfInBounds];rfl
theorem qK {P:Program} {t ty:TypeId} {i:TypeInfo} {b off:Nat} {C:Array Value} {v:Value} (hi:P.info? t=some i) (h:W.heap[b]?=some (.cells C ty (0,0))) (ed:v.cells.size=i.size) (hle:off+i.size≤C.size) (h1:∀w∈v.cells.toList,w.oneCell'=true):
 ∃W' C',(Instr.storeAt t (.pointer (some ⟨b,off,none⟩)) v).run P W=.ok () W'∧W'.heap[b]?=some (.cells C' ty (0,0))∧C'.toList=iC C.toList off v.cells.toList∧lz W W' b:=by
 obtain⟨W',C',r1,r2,r3,r4⟩:=wa (P:=P) v.cells.toList off 0 h (by simp_all) h1
 exact⟨W',C',by simp[Instr.storeAt,Instr.sureAddr,storeVar,cD hi,ed,r1],r2,r3,r4⟩
theorem GG:∀{us:List bA} {ws:List Value},aX E W us ws→(∀a∈us,a≠.dead∧a≠.jB)→∀w∈ws,w.oneCell'=true
 |[],[],_,_,w,hw=>by simp_all
 |a::us,v::ws,h,hn,w,hw=>by
  rcases List.mem_cons.1 hw with rfl|hw
  ·exact(u9 (hn a (by simp)).1 (hn a (by simp)).2 h.1).2
  ·exact GG h.2 (fun b hb=>hn b (by grind)) w hw
 |[],_::_,h,_,_,_=>h.elim
 |_::_,[],h,_,_,_=>h.elim
theorem nF {b:Nat} {τ:Tag} (ho:lz W W' b) (hb:E.w b=some τ) (bb:τ≠.ext):aU E W E W':=
 ⟨fun c hc hl=>⟨hc,bl.of (ho.other c fun e=>by subst e;have hc:E.w c=none:=hc;simp_all)⟩,fun c hc=>⟨hc,ho.other c fun e=>by simp_all⟩,fun _ h=>⟨h,rfl⟩,fun _ h=>⟨h,rfl⟩,rfl⟩
theorem bY {b:Nat} {τ u:Tag} (ho:lz W W' b) (hb:E.w b=some τ) (hu:u≠τ):kp E.w W E.w W' u u:=fun c=>⟨Iff.rfl,fun hc=>ho.other c fun e=>by simp_all⟩
theorem mc {b:Nat} {τ:Tag} (hm:aQ W0 w0 X E B O H W) (ho:lz W W' b) (hb:E.w b=some τ) (bb:τ≠.ext):pW W0 w0 W' E.w:=by
 have hs:=hm.since
 refine⟨ho.os.trans hs.os,ho.tape.trans hs.tape,ho.output.trans hs.output,by rw[ho.size];exact hs.size,fun c hc h=>?_,fun c h=>?_,hs.jn⟩
 ·obtain⟨h1,h2⟩:=hs.im c hc h
  exact⟨h1,(ho.other c fun e=>by simp_all).trans h2⟩
 ·obtain⟨h1,h2⟩:=hs.ext c h
  exact⟨h1,(ho.other c fun e=>by simp_all).trans h2⟩
theorem gJ {g:Nat→cw} (hg:v9 E W g) {a:bA} {v:Value} (hv:bc E W a v) {tg:Nat→Tag}:∀{k:AK} {j0:Nat} {vs:List Value} {x:k.T} {j:Nat} {Kr:k.T→Prop},k.bd=true→dJ E.w W tg k j0 vs x→tf g a k x j Kr→∃y,Kr y∧j<k.sz∧dJ E.w W tg k j0 (vs.set j v) y
 |.cons p q,j0,vs,x,j,Kr,cg,hc,h=>by
  simp only[AK.bd,Bool.and_eq_true] at cg
  obtain⟨va,vb,rfl,ha,hb⟩:=hc
  have hla:=ha.len
  simp only[tf] at h
  split at h
  ·rename_i hj
   obtain⟨y,h1,h2,h3⟩:=gJ hg hv cg.1 ha h
   exact⟨_,h1,by simp only[AK.sz];omega,va.set j v,vb,by simp_all,h3,hb⟩
  ·rename_i hj
   obtain⟨y,h1,h2,h3⟩:=gJ hg hv cg.2 hb h
   exact⟨_,h1,by simp only[AK.sz];omega,va,vb.set (j - p.sz) v,by simp_all,ha,h3⟩
 |.fn k,j0,vs,x,j,Kr,cg,hc,h=>by
  simp only[tf] at h
  split at h<;>first|exact h.elim|skip
  obtain⟨y,h1,h2⟩:=cA hg hv cg h
  have hl:=hc.len
  obtain⟨u,rfl⟩:=OV hl
  exact⟨y,h1,by grind,h2⟩
 |.one k,j0,vs,x,j,Kr,cg,hc,h=>by
  simp only[tf] at h
  split at h<;>first|exact h.elim|skip
  obtain⟨y,h1,h2⟩:=cA hg hv cg h
  have hl:=hc.len
  obtain⟨u,rfl⟩:=OV hl
  exact⟨y,h1,by grind,h2⟩
 |.byte,j0,vs,x,j,Kr,cg,hc,h=>by
  simp only[tf] at h
  split at h<;>first|exact h.elim|skip
  obtain⟨y,h1,h2⟩:=cA (k:=.byte) hg hv cg h
  have hl:=dJ.len (k:=.byte) hc
  obtain⟨u,rfl⟩:=OV hl
  exact⟨y,h1,by grind,h2⟩
 |.ref,j0,vs,x,j,Kr,cg,hc,h=>by
  simp only[tf] at h
  split at h<;>first|exact h.elim|skip
  obtain⟨y,h1,h2⟩:=cA (k:=.ref) hg hv cg h
  have hl:=dJ.len (k:=.ref) hc
  obtain⟨u,rfl⟩:=OV hl
  exact⟨y,h1,by grind,h2⟩
 |.row e,j0,vs,x,j,Kr,cg,hc,h=>by
  simp only[tf] at h
  split at h<;>first|exact h.elim|skip
  obtain⟨y,h1,h2⟩:=cA hg hv cg h
  have hl:=hc.len
  obtain⟨u,rfl⟩:=OV hl
  exact⟨y,h1,by grind,h2⟩
 |.own _ _,_,_,_,_,_,_,_,h=>h.elim
 |.bQ _,_,_,_,_,_,_,_,h=>h.elim
 |.nil,_,_,_,_,_,_,_,h=>h.elim
theorem wb {g:Nat→cw} (hg:v9 E W g) {tg:Nat→Tag} {k:AK} {j0:Nat} (cg:k.bd=true):∀{us:List bA} {ws:List Value} {vs:List Value} {x:k.T} {j:Nat} {Kr:k.T→Prop},aX E W us ws→dJ E.w W tg k j0 vs x→tU g k x j us Kr→∃y,Kr y∧(us≠[]→j+us.length≤k.sz)∧dJ E.w W tg k j0 (iC vs j ws) y
 |[],[],vs,x,j,Kr,_,hc,h=>⟨x,h,fun h=>absurd rfl h,hc⟩
 |a::us,w::ws,vs,x,j,Kr,hr,hc,h=>by
  simp only[tU] at h
  obtain⟨y,h1,h2,h3⟩:=gJ hg hr.1 cg hc h
  obtain⟨z,h4,h5,h6⟩:=wb hg cg hr.2 h3 h1
  refine⟨z,h4,fun _=>?_,h6⟩
  simp only[List.length_cons]
  grind
 |[],_::_,_,_,_,_,hr,_,_=>hr.elim
 |_::_,[],_,_,_,_,hr,_,_=>hr.elim
theorem yF {g:Nat→cw} (hg:v9 E W g) {a:bA} {v:Value} (hv:bc E W a v):∀{k:AK} {vs:List Value} {x:k.T} {j:Nat} {Kr:k.T→Prop},k.bd=true→bz (aG E.w) W k vs x→tf g a k x j Kr→∃y,Kr y∧j<k.sz∧bz (aG E.w) W k (vs.set j v) y
 |.cons p q,vs,x,j,Kr,cg,hc,h=>by
  simp only[AK.bd,Bool.and_eq_true] at cg
  obtain⟨va,vb,rfl,ha,hb⟩:=hc
  have hla:=ha.len
  simp only[tf] at h
  split at h
  ·rename_i hj
   obtain⟨y,h1,h2,h3⟩:=yF hg hv cg.1 ha h
   exact⟨_,h1,by simp only[AK.sz];omega,va.set j v,vb,by simp_all,h3,hb⟩
  ·rename_i hj
   obtain⟨y,h1,h2,h3⟩:=yF hg hv cg.2 hb h
   exact⟨_,h1,by simp only[AK.sz];omega,va,vb.set (j - p.sz) v,by simp_all,ha,h3⟩
 |.fn k,vs,x,j,Kr,cg,hc,h=>gJ (tg:=fun _=>.ext) (k:=.fn k) (j0:=0) hg hv cg hc h
 |.one k,vs,x,j,Kr,cg,hc,h=>gJ (tg:=fun _=>.ext) (k:=.one k) (j0:=0) hg hv cg hc h
 |.byte,vs,x,j,Kr,cg,hc,h=>gJ (tg:=fun _=>.ext) (k:=.byte) (j0:=0) hg hv cg hc h
 |.ref,vs,x,j,Kr,cg,hc,h=>gJ (tg:=fun _=>.ext) (k:=.ref) (j0:=0) hg hv cg hc h
 |.row e,vs,x,j,Kr,cg,hc,h=>gJ (tg:=fun _=>.ext) (k:=.row e) (j0:=0) hg hv cg hc h
 |.own _ _,_,_,_,_,_,_,h=>h.elim
 |.bQ _,_,_,_,_,_,_,h=>h.elim
 |.nil,_,_,_,_,_,_,h=>h.elim
theorem vq {g:Nat→cw} (hg:v9 E W g) {k:AK} (cg:k.bd=true):∀{us:List bA} {ws:List Value} {vs:List Value} {x:k.T} {j:Nat} {Kr:k.T→Prop},aX E W us ws→bz (aG E.w) W k vs x→tU g k x j us Kr→∃y,Kr y∧(us≠[]→j+us.length≤k.sz)∧bz (aG E.w) W k (iC vs j ws) y
 |[],[],vs,x,j,Kr,_,hc,h=>⟨x,h,fun h=>absurd rfl h,hc⟩
 |a::us,w::ws,vs,x,j,Kr,hr,hc,h=>by
  simp only[tU] at h
  obtain⟨y,h1,h2,h3⟩:=yF hg hr.1 cg hc h
  obtain⟨z,h4,h5,h6⟩:=vq hg cg hr.2 h3 h1
  refine⟨z,h4,fun _=>?_,h6⟩
  simp only[List.length_cons]
  grind
 |[],_::_,_,_,_,_,hr,_,_=>hr.elim
 |_::_,[],_,_,_,_,hr,_,_=>hr.elim
theorem Cf {k:Nat}:∀(css:List (List Value)) (i j:Nat) (w:Value) (cs:List Value),(∀c∈css,c.length=k)→css[i]?=some cs→j<k→css.flatten.set (i*k+j) w=(css.set i (cs.set j w)).flatten
 |[],i,j,w,cs,_,h,_=>by rfl
 |c::css,0,j,w,cs,hl,h,hj=>by
  simp_all
 |c::css,i+1,j,w,cs,hl,h,hj=>by
  have hc:=hl c (by simp)
  simp only[List.flatten_cons,List.set_cons_succ]
  have he:(i+1)*k+j=k+(i*k+j):=by grind
  rw[List.set_append_right _ _ (by omega),hc,show(i+1)*k+j - k=i*k+j from by omega,Cf css i j w cs (fun c hc=>hl c (by grind)) (by simp_all) hj]
theorem j_ (css:List (List Value)) (i:Nat) (cs:List Value) (h:css[i]?=some cs):css.set i cs=css:=by
 apply List.ext_getElem?
 grind
theorem yG {k:Nat} (i:Nat):∀(ws:List Value) (css:List (List Value)) (j:Nat) (cs:List Value),(∀c∈css,c.length=k)→css[i]?=some cs→j+ws.length≤k→iC css.flatten (i*k+j) ws=(css.set i (iC cs j ws)).flatten
 |[],css,j,cs,_,hi,_=>by simp only[iC];rw[j_ css i cs hi]
 |w::ws,css,j,cs,h,hi,hle=>by
  simp only[List.length_cons] at hle
  have kT:=h cs (List.mem_of_getElem? hi)
  simp only[iC]
  rw[Cf css i j w cs h hi (by omega),show i*k+j+1=i*k+(j+1) from by rfl]
  have aY:=(List.getElem?_eq_some_iff.1 hi).1
  rw[yG i ws (css.set i (cs.set j w)) (j+1) (cs.set j w) (fun c hc=>by
   grind) (by simp_all) (by omega),List.set_set]
theorem vr:∀(ws cs:List Value) (j n:Nat),j+ws.length≤n→(iC cs j ws).take n=iC (cs.take n) j ws
 |[],cs,j,n,_=>rfl
 |w::ws,cs,j,n,h=>by
  simp only[List.length_cons] at h
  simp only[iC]
  rw[vr ws (cs.set j w) (j+1) n (by omega),List.take_set]
theorem zy:∀{us:List bA},xV us=true→∀a∈us,a≠.dead∧a≠.jB
 |[],_,a,ha=>by simp_all
 |b::us,h,a,ha=>by
  have hb:b≠.dead∧b≠.jB∧xV us=true:=by cases b<;>simp[xV] at h<;>exact⟨by simp,by simp,h⟩
  rcases List.mem_cons.1 ha with rfl|ha
  ·simp_all
  ·exact zy hb.2.2 a ha
theorem Il {t:TypeId} {a x:AV} {va vx:Value} {Kr:BL→OL→HP→Prop} {ac:Act} {o:Oper} (hm:aQ W0 w0 X E B O H W) (h:kO cx t a x B O H Kr) (kC:aK E W a va) (hvx:aK E W x vx)
 (d':∀W',(Instr.storeAt t va vx).run cx.P W=.ok () W'→(execOp ac.eval o).run cx.P W=.ok .skip W'):fg cx.P o ac W (vj W0 w0 X E B O H W fun av B O H=>av=.v .jB∧Kr B O H):=by
 unfold kO at h
 split at h<;>first|exact h.elim|skip
 rename_i ag n ed
 obtain⟨d,i,hd,hi,rfl,rfl⟩:=jH ed
 split at h<;>first|exact h.elim|skip
 rename_i us OE
 split at h<;>first|exact h.elim|skip
 rename_i hul
 obtain⟨hul,BZ,eF⟩:=hul
 have OF:=nE OE hvx
 have kT:=OF.len
 have gU:vx.cells.size=i.size:=by simp_all
 have Vu:∀w∈vx.cells.toList,w.oneCell'=true:=GG OF (zy eF)
 split at h
 ·
  rename_i b j
  obtain⟨Wz,rfl⟩:=kC
  split at h<;>first|exact h.elim|skip
  rename_i nm cs hb
  split at h<;>first|exact h.elim|skip
  rename_i hle
  have FL:=hm.bx b
  rw[hb] at FL
  have LN:¬X b:=fun hx=>by have:=(FL.1 hx).2;simp_all
  obtain⟨_,xl,AY,vs,ty,rX,BX⟩:=FL.2 LN
  have hvl:=BX.len
  obtain⟨W',C',r1,r2,r3,r4⟩:=qK (P:=cx.P) (C:=⟨vs⟩) (off:=j) hi rX gU (by simp_all) Vu
  have k4:=(xl _).2 rfl
  have aL:=nF r4 k4 (by simp)
  refine jF (d' _ r1) ⟨.v .jB,ln B b (.bx nm (Ol cs j us)),O,H,E,⟨rfl,h⟩,rfl,⟨fun c hc=>hm.wf c (by rw[←r4.size];omega),mc hm r4 k4 (by simp),fun q=>?_,fun k=>(hm.ow k).bk aL (bY r4 k4 (by simp)) id,fun n=>(hm.ob n).bk aL.im (bY r4 k4 (by simp)) fun j=>bY r4 k4 (by simp),hm.clean,hm.ba⟩,aL,by rw[r4.size];omega,fun q hq=>?_,fun q n k=>?_⟩
  ·rw[e9]
   by_cases hq:b=q
   ·subst hq
    rw[if_pos rfl]
    refine⟨fun hx=>absurd hx LN,fun _=>⟨Wz,xl,AY,C'.toList,ty,?_,?_⟩⟩
    ·unfold kU;omega
    ·rw[r3];exact(yy j OF BX).aL aL
   ·rw[if_neg hq]
    exact(hm.bx q).bk aL (bY r4 k4 (by grind)) id
  ·rw[e9,if_neg (fun e=>by simp_all)]
  ·rw[e9]
   grind
 ·
  rename_i k z q j
  obtain⟨E1,lF,p1⟩:=lU us hm
  have atF:bc E1 W (.o4 k z q j) va:=bc.aL p1 kC
  obtain⟨fP,aY,p,hp,rfl⟩:=atF
  split at h<;>first|exact h.elim|skip
  rename_i e ty xs ho
  split at h<;>first|exact h.elim|skip
  rename_i hz
  subst hz
  obtain⟨y,hy,h⟩:=h
  have zw:=lF.ow k
  rw[ho] at zw
  obtain⟨_,hg,h0,dL⟩:=zw
  have⟨css,q1,q2,q3⟩:=dL.row
  obtain⟨gb,cs0,e1,e2,e3,e4,e5⟩:=dL.el hy h0
  rw[hp] at e1
  injection e1 with e1
  subst e1
  have Jf:=(List.getElem?_eq_some_iff.1 hy).1
  have hqc:css[q]?=some css[q]:=List.getElem?_eq_getElem (by omega)
  have FP:aX E1 W us vx.cells.toList:=OF.aL p1
  obtain⟨y',h1,h2,h3⟩:=vq (jt lF) hg FP (q2 q _ _ hqc hy) h
  have bF:=ff q1 q2
  rcases q3.2 with⟨hv0,_⟩|⟨g',cap,cur,hv,_,Es,Jg,GH,hc3,hc4⟩
  ·omega
  injection hv with ui hv2 hv3
  rw[hp] at ui
  injection ui with ui
  injection ui with ui
  subst ui
  have OW:us≠[]:=fun e=>by simp_all
  have h2:=h2 OW
  have acR:(q+1)*e.sz≤xs.length*e.sz:=Nat.mul_le_mul_right _ (by omega)
  have GI:xs.length*e.sz≤cap*e.sz:=Nat.mul_le_mul_right _ (by have:=dL.len;omega)
  rw[Nat.add_mul,Nat.one_mul] at acR
  obtain⟨W',C',r1,r2,r3,r4⟩:=qK (P:=cx.P) (off:=q*e.sz+j) hi Es gU (by omega) Vu
  have k4:E1.w gb=some (.lo k):=e2
  have aL:=nF r4 k4 (by simp)
  rw[bw,bw,Nat.zero_add] at d'
  refine jF (d' _ r1) ⟨.v .jB,B,dw (mR O us) k (.own e ty (xs.set q y')),H,E1,⟨rfl,h1⟩,rfl,⟨fun c hc=>lF.wf c (by rw[←r4.size];omega),mc lF r4 k4 (by simp),fun p=>(lF.bx p).bk aL (bY r4 k4 (by simp)) id,fun k'=>?_,fun n=>(lF.ob n).bk aL.im (bY r4 k4 (by simp)) fun j=>bY r4 k4 (by simp),lF.clean,lF.ba⟩,p1.trans aL (Nat.le_refl _),by rw[r4.size];omega,fun _ _=>rfl,aD.refl _⟩
  rw[aW]
  by_cases hk:k=k'
  ·subst hk
   rw[if_pos rfl]
   refine⟨fP,hg,h0,⟨css.set q (iC css[q] j vx.cells.toList),by grind,fun p cs x pn hx=>?_,?_⟩,by simp only[List.length_set];exact dL.len,dL.tag⟩
   ·rw[List.getElem?_set] at pn hx
    by_cases zz:q=p
    ·subst zz
     rw[if_pos rfl,if_pos (by omega)] at pn
     rw[if_pos rfl,if_pos Jf] at hx
     injection pn with pn
     injection hx with hx
     subst pn hx
     exact h3.aG aL.im hg
    ·rw[if_neg zz] at pn hx
     exact(q2 p cs x pn hx).aG aL.im hg
   ·have atG:(iC css[q] j vx.cells.toList).length=e.sz:=by rw[m7];simp_all
    have GD:vx.cells.toList.length=us.length:=FP.len.symm
    have FM:=yG (k:=e.sz) q vx.cells.toList css j _ bF hqc (by omega)
    refine⟨?_,.inr ⟨gb,cap,C',?_,Nat.zero_le _,r2,Jg,GH,?_,?_⟩⟩
    ·rw[kF (k:=e.sz) _ (fun c hc=>by
      grind),List.length_set,q1,dL.len]
    ·grind
    ·rw[←Array.length_toList,r3,m7,Array.length_toList,hc3]
    ·rw[r3,vr _ _ _ _ (by rw[GD,dL.len];omega),hc4,FM]
  ·rw[if_neg hk]
   exact(lF.ow k').bk aL (bY r4 k4 (by grind)) id
 ·
  rename_i m k j
  obtain⟨E1,lF,p1⟩:=lU us hm
  have kC:va=.pointer (some ⟨m,j,none⟩):=kC
  subst kC
  split at h<;>first|exact h.elim|skip
  rename_i k' bW
  obtain⟨y,hy,h⟩:=h
  have fx:=lF.ob m
  rw[hy] at fx
  have FP:aX E1 W us vx.cells.toList:=OF.aL p1
  have hgk:k'.bd=true:=by
   rcases fx with fx|⟨e,t',s,xs,ho,_⟩|⟨e,c,l,ho,_⟩
   ·simp_all
   rotate_left
   ·injection ho with ho _
    subst ho
    cases us with
    |nil=>simp_all
    |cons u us=>exact h.elim
   ·injection ho with ho _
    subst ho
    cases us with
    |nil=>simp_all
    |cons u us=>exact h.elim
  obtain⟨xl,dZ,vs,ty,rX,Kh⟩:=fx.dat hgk
  have hg:=hgk
  obtain⟨y',h1,h2,h3⟩:=wb (jt lF) hg FP Kh h
  have OW:us≠[]:=fun e=>by simp_all
  have h2:=h2 OW
  have hvl:=Kh.len
  obtain⟨W',C',r1,r2,r3,r4⟩:=qK (P:=cx.P) (C:=⟨vs⟩) (off:=j) hi rX gU (by simp_all) Vu
  have k4:=(xl _).2 rfl
  have aL:=nF r4 k4 (by simp)
  refine jF (d' _ r1) ⟨.v .jB,B,mR O us,H.set m k' y',E1,⟨rfl,h1⟩,rfl,⟨fun c hc=>lF.wf c (by rw[←r4.size];omega),mc lF r4 k4 (by simp),fun p=>(lF.bx p).bk aL (bY r4 k4 (by simp)) id,fun k=>(lF.ow k).bk aL (bY r4 k4 (by simp)) id,fun n=>?_,lF.clean,lF.ba⟩,p1.trans aL (Nat.le_refl _),by rw[r4.size];omega,fun _ _=>rfl,aD.refl _⟩
  by_cases hn:n=m
  ·subst hn
   show fj _ _ _ (if n=n then _ else _)
   rw[if_pos rfl]
   refine .inl ⟨hg,xl,dZ,C'.toList,ty,?_,?_⟩
   ·unfold kU;omega
   ·rw[r3]
    exact h3.bk aL.im hg fun i _ _=>bY r4 k4 (by simp)
  ·show fj _ _ _ (if n=m then _ else _)
   rw[if_neg hn]
   exact(lF.ob n).bk aL.im (bY r4 k4 (by simp_all)) fun j=>bY r4 k4 (by simp)
 ·
  rename_i e0 p j
  obtain⟨E1,lF,p1⟩:=lU us hm
  have kC:va=.pointer (some (p.add j)):=kC
  subst kC
  split at h<;>first|exact h.elim|skip
  rename_i e bW
  obtain⟨ty,s,xs,q,y,hx,zz,hy,h⟩:=h
  have fx:=lF.ob p.block
  rw[hx] at fx
  have ha:=fx.arr
  have hg:=ha.bd
  have h0:=ha.sz
  have dL:=ha.own
  obtain⟨css,q1,q2,q3⟩:=dL.row
  have Jf:=(List.getElem?_eq_some_iff.1 hy).1
  have hqc:css[q]?=some css[q]:=List.getElem?_eq_getElem (by omega)
  have FP:aX E1 W us vx.cells.toList:=OF.aL p1
  obtain⟨y',h1,h2,h3⟩:=vq (jt lF) hg FP (q2 q _ _ hqc hy) h
  have bF:=ff q1 q2
  rcases q3.2 with⟨hv0,_⟩|⟨g',cap,cur,hv,_,Es,Jg,GH,hc3,hc4⟩
  ·injection hv0 with hv0;rw[ha.bR] at hv0;grind
  injection hv with ui hv2 hv3
  rw[ha.bR] at ui
  injection ui with ui
  injection ui with ui
  subst ui
  have OW:us≠[]:=fun e=>by simp_all
  have h2:=h2 OW
  have acR:(q+1)*e.sz≤xs.length*e.sz:=Nat.mul_le_mul_right _ (by omega)
  have GI:xs.length*e.sz≤cap*e.sz:=Nat.mul_le_mul_right _ (by have:=dL.len;omega)
  rw[Nat.add_mul,Nat.one_mul] at acR
  obtain⟨W',C',r1,r2,r3,r4⟩:=qK (P:=cx.P) (off:=q*e.sz+j) hi Es gU (by omega) Vu
  have k4:E1.w p.block=some (.ob p.block):=(fx.tag _).2 rfl
  have aL:=nF r4 k4 (by simp)
  rw[zz,bw] at d'
  refine jF (d' _ r1) ⟨.v .jB,B,mR O us,H.set p.block (.arr e ty) (s,xs.set q y'),E1,⟨rfl,h1⟩,rfl,⟨fun c hc=>lF.wf c (by rw[←r4.size];omega),mc lF r4 k4 (by simp),fun q=>(lF.bx q).bk aL (bY r4 k4 (by simp)) id,fun k=>(lF.ow k).bk aL (bY r4 k4 (by simp)) id,fun n=>?_,lF.clean,lF.ba⟩,p1.trans aL (Nat.le_refl _),by rw[r4.size];omega,fun _ _=>rfl,aD.refl _⟩
  by_cases hn:n=p.block
  ·subst hn
   show fj _ _ _ (if p.block=p.block then _ else _)
   rw[if_pos rfl]
   refine .inr (.inl ⟨e,ty,s,xs.set q y',rfl,hg,h0,ha.bR,⟨⟨css.set q (iC css[q] j vx.cells.toList),by grind,fun p cs x pn hx=>?_,?_⟩,by simp only[List.length_set];exact dL.len,dL.tag⟩,ha.Z7⟩)
   ·rw[List.getElem?_set] at pn hx
    by_cases zz:q=p
    ·subst zz
     rw[if_pos rfl,if_pos (by omega)] at pn
     rw[if_pos rfl,if_pos Jf] at hx
     injection pn with pn
     injection hx with hx
     subst pn hx
     exact h3.aG aL.im hg
    ·rw[if_neg zz] at pn hx
     exact(q2 p cs x pn hx).aG aL.im hg
   ·have atG:(iC css[q] j vx.cells.toList).length=e.sz:=by rw[m7];grind
    have GD:vx.cells.toList.length=us.length:=FP.len.symm
    have FM:=yG (k:=e.sz) q vx.cells.toList css j _ bF hqc (by omega)
    refine⟨?_,.inr ⟨p.block,cap,C',?_,Nat.zero_le _,r2,Jg,GH,?_,?_⟩⟩
    ·rw[kF (k:=e.sz) _ (fun c hc=>by
      grind),List.length_set,q1,dL.len]
    ·rw[ha.bR,hv3]
    ·rw[←Array.length_toList,r3,m7,Array.length_toList,hc3]
    ·rw[r3,vr _ _ _ _ (by rw[GD,dL.len];omega),hc4,FM]
  ·show fj _ _ _ (if n=p.block then _ else _)
   rw[if_neg hn]
   exact(lF.ob n).bk aL.im (bY r4 k4 (by grind)) fun j=>bY r4 k4 (by simp)
 simp_all
end
section
variable {cx:Cx} {W0:World} {w0:Mk} {X:Nat→Prop} {E:Env} {B:BL} {O:OL} {H:HP} {W W' gZ:World}
structure Handed (O' O:OL) (c:Nat→Option Nat):Prop where
 same:∀k,c k=none→aw O' k=aw O k
 gone:∀k j,c k=some j→aw O' k=.gone∧∃e t xs,aw O k=.own e t xs
def tt (E:Env) (W:World) (O:OL) (c:Nat→Option Nat):(k:AK)→Nat→List Value→k.T→Prop
 |.own e t,j,vs,xs=>(vs=[.slice none 0 0]∧xs=[]∧∀k,c k≠some j)∨∃k,(∀k',c k'=some j↔k'=k)∧aw O k=.own e t xs∧vs=[(E.bo k).val]
 |.cons a b,j,vs,x=>∃va vb,vs=va++vb∧tt E W O c a j va x.1∧tt E W O c b (j+a.sz) vb x.2
 |.arr _ _,_,_,_=>False
 |.mp _,_,_,_=>False
 |.bQ e,j,vs,xs=>∃s:Sl,vs=[s.val]∧dD (Ry E.w) W e.sz (bz (aG E.w) W e) s xs
 |.fn k,j,vs,x=>bz (aG E.w) W (.fn k) vs x
 |.one k,j,vs,x=>bz (aG E.w) W (.one k) vs x
 |.byte,j,vs,x=>bz (aG E.w) W .byte vs x
 |.ref,j,vs,x=>bz (aG E.w) W .ref vs x
 |.row e,j,vs,x=>bz (aG E.w) W (.row e) vs x
 |.nil,j,vs,x=>bz (aG E.w) W .nil vs x
structure fN (E:Env) (O:OL) (c:Nat→Option Nat) (j:Nat) (E':Env) (O':OL) (c':Nat→Option Nat):Prop where
 kB:∀k i,c k=some i→c' k=some i
 new:∀k i,c' k=some i→c k=some i∨(j≤i∧c k=none)
 own:∀k i,c k=some i→aw O' k=aw O k
 rd:∀b,Ry E.w b→Ry E'.w b
theorem fN.refl (E:Env) (O:OL) (c:Nat→Option Nat) (j:Nat):fN E O c j E O c:=⟨fun _ _ h=>h,fun _ _ h=>.inl h,fun _ _ _=>rfl,fun _ h=>h⟩
theorem fN.trans {E E' E'':Env} {O O' Gu:OL} {c c' c'':Nat→Option Nat} {j j':Nat} (h:fN E O c j E' O' c') (k:fN E' O' c' j' E'' Gu c'') (hj:j≤j'):fN E O c j E'' Gu c'':=by
 refine⟨fun a i ha=>k.kB a i (h.kB a i ha),fun a i ha=>?_,fun a i ha=>(k.own a i (h.kB a i ha)).trans (h.own a i ha),fun b hb=>k.rd b (h.rd b hb)⟩
 rcases k.new a i ha with h1|⟨h1,h2⟩
 ·exact h.new a i h1
 ·refine .inr ⟨by omega,?_⟩
  cases hc:c a with
  |none=>rfl
  |some x=>rw[h.kB a x hc] at h2;omega
theorem tt.iM {E':Env} {O':OL} {c c':Nat→Option Nat} {j0:Nat} (hp:aU E W E' W) (hl:fN E O c j0 E' O' c') (fP:∀k i,c k=some i→E.vo k=true):∀{k:AK} {j:Nat} {vs:List Value} {x:k.T},k.iK=true→j+k.sz≤j0→tt E W O c k j vs x→tt E' W O' c' k j vs x
 |.own e t,j,vs,xs,g,hj,h=>by
  simp only[AK.sz] at hj
  rcases h with⟨h1,h2,h3⟩|⟨k,h1,h2,h3⟩
  ·refine .inl ⟨h1,h2,fun k hk=>?_⟩
   rcases hl.new k j hk with h4|h4
   all_goals grind
  ·have hk:=(h1 k).2 rfl
   refine .inr ⟨k,fun k'=>⟨fun bW=>?_,fun e=>by subst e;exact hl.kB _ _ hk⟩,(hl.own k j hk).trans h2,by rw[(hp.ow k (fP k j hk)).2];omega⟩
   rcases hl.new k' j bW with h4|h4
   all_goals grind
 |.cons a b,j,vs,x,g,hj,h=>by
  obtain⟨va,vb,e,ha,hb⟩:=h
  simp only[AK.sz] at hj
  simp only[AK.iK,Bool.and_eq_true] at g
  exact⟨va,vb,e,tt.iM hp hl fP g.1 (by omega) ha,tt.iM hp hl fP g.2 (by omega) hb⟩
 |.bQ e,j,vs,xs,g,hj,h=>by
  obtain⟨s,hs,hr⟩:=h
  obtain⟨g1,g2⟩:=good_row g
  exact⟨s,hs,hr.aG (fun b hb _=>⟨hl.rd b hb,bl.of rfl⟩) g2 fun _ _ hd=>hd.aG hp.im g1⟩
 |.fn k,j,vs,x,g,hj,h=>bz.aG hp.im rfl h
 |.one k,j,vs,x,g,hj,h=>bz.aG hp.im rfl h
 |.byte,j,vs,x,g,hj,h=>bz.aG (k:=.byte) hp.im rfl h
 |.ref,j,vs,x,g,hj,h=>bz.aG (k:=.ref) hp.im rfl h
 |.row e,j,vs,x,g,hj,h=>bz.aG hp.im g h
 |.nil,j,vs,x,g,hj,h=>bz.aG (k:=.nil) hp.im rfl h
theorem OX {k:Nat} {c:Nat→Option Nat} {j:Nat} {e:AK} {t:Nat} {xs:List e.T} (ho:aw O k=.own e t xs) (hc:c k=none):fN E O c j (OP E k) (dw O k (.jC e xs)) c:=by
 refine⟨fun _ _ h=>h,fun _ _ h=>.inl h,fun k' i h=>?_,fun b hb=>?_⟩
 ·rw[aW,if_neg (fun e=>by simp_all)]
 ·show Ry (vf E.w _) b
  rcases hb with hb|hb|⟨k',hb⟩
  ·exact .inl (jI hb)
  ·exact .inr (.inl (fK.2 ⟨hb,by simp⟩))
  ·by_cases h:k'=k
   ·subst h;exact .inl (by unfold vf;simp_all)
   ·exact .inr (.inr ⟨k',fK.2 ⟨hb,fun k'' e=>by simp_all⟩⟩)
theorem wc {O':OL} {c:Nat→Option Nat} (hm:aQ W0 w0 X E B O H W) (hh:Handed O' O c) (a:bA) (j:Nat):∃E2 O2,aQ W0 w0 X E2 B O2 H W∧aU E W E2 W∧Handed (lu O' a) O2 c∧fN E O c j E2 O2 c∧(∀k,c k=none→aw (lu O' a) k=aw O2 k):=by
 have go:∀k,(match aw O' k with|.own e _ xs=>lu O' a=dw O' k (.jC e xs)|_=>lu O' a=O')→∃E2 O2,aQ W0 w0 X E2 B O2 H W∧aU E W E2 W∧Handed (lu O' a) O2 c∧fN E O c j E2 O2 c∧(∀k,c k=none→aw (lu O' a) k=aw O2 k):=fun k hk=>by
  cases cJ:aw O' k with
  |own e t xs=>
   rw[cJ] at hk
   simp only at hk
   have sj:c k=none:=by
    cases hc:c k with
    |none=>rfl
    |some i=>have:=(hh.gone k i hc).1;simp_all
   have ho:aw O k=.own e t xs:=by rw[←hh.same k sj];omega
   obtain⟨h1,h2⟩:=DS hm ho
   rw[hk]
   have hs:∀q,c q=none→aw (dw O' k (.jC e xs)) q=aw (dw O k (.jC e xs)) q:=fun q hq=>by
    rw[aW,aW]
    split
    ·rfl
    ·exact hh.same q hq
   refine⟨_,_,h1,h2,⟨hs,fun q i hq=>?_⟩,OX ho sj,hs⟩
   have bb:k≠q:=fun e=>by simp_all
   rw[aW,aW,if_neg bb,if_neg bb]
   exact hh.gone q i hq
  |no=>rw[cJ] at hk;simp only at hk;rw[hk];exact⟨E,O,hm,aU.refl _ _,hh,fN.refl _ _ _ _,hh.same⟩
  |jC e xs=>rw[cJ] at hk;simp only at hk;rw[hk];exact⟨E,O,hm,aU.refl _ _,hh,fN.refl _ _ _ _,hh.same⟩
  |gone=>rw[cJ] at hk;simp only at hk;rw[hk];exact⟨E,O,hm,aU.refl _ _,hh,fN.refl _ _ _ _,hh.same⟩
 cases a with
 |own k=>exact go k (by cases hq:aw O' k<;>simp[lu,hq])
 |part k n o l=>exact go k (by cases hq:aw O' k<;>simp[lu,hq])
 |_=>exact⟨E,O,hm,aU.refl _ _,hh,fN.refl _ _ _ _,hh.same⟩
theorem jY {O':OL} {c:Nat→Option Nat} (hm:aQ W0 w0 X E B O H W) (hh:Handed O' O c):v9 E W (aw O'):=fun k=>by
 cases hc:c k with
 |none=>rw[hh.same k hc];exact jt hm k
 |some i=>rw[(hh.gone k i hc).1];simp
theorem zA {a b:AK} {h:PLift (a=b)} {t:Nat} {xs:List a.T}:(cw.own a t xs)=cw.own b t (bK h xs):=by obtain⟨h⟩:=h;subst h;rfl
theorem ox:∀{k:AK} {l:List bA} {vs:List Value} {E:Env} {O O':OL} {c:Nat→Option Nat} {j:Nat} {K:k.T→List bA→OL→Prop},k.iK=true→aQ W0 w0 X E B O H W→Handed O' O c→(∀q i,c q=some i→i<j)→aX E W l vs→FF O' k l K→
 ∃x rest Cg O2 c2 E2 ws us,vs=ws++us∧K x rest Cg∧aQ W0 w0 X E2 B O2 H W∧aU E W E2 W∧Handed Cg O2 c2∧fN E O c j E2 O2 c2∧(∀q i,c2 q=some i→i<j+k.sz)∧tt E2 W O2 c2 k j ws x∧aX E2 W rest us∧(il k=true→c2=c)∧(∀q i,c2 q=some i→c q=some i∨(j≤i∧k.bh (i - j)=true))
 |.nil,l,vs,E,O,O',c,j,K,_,hm,hh,hj,hr,h=>⟨(),l,O',O,c,E,[],vs,rfl,h,hm,aU.refl _ _,hh,fN.refl _ _ _ _,by grind,rfl,hr,fun _=>rfl,fun q i h=>.inl h⟩
 |.cons a b,l,vs,E,O,O',c,j,K,cg,hm,hh,hj,hr,h=>by
  simp only[AK.iK,Bool.and_eq_true] at cg
  obtain⟨x,r1,pJ,O1,c1,E1,ws,us,rfl,h1,m1,p1,rC,l1,b1,Jg,hr1,n1,o1⟩:=ox cg.1 hm hh hj hr h
  obtain⟨y,r2,Cg,O2,c2,E2,Rz,zs,rfl,h2,m2,p2,zB,l2,b2,GH,hr2,n2,o2⟩:=ox cg.2 m1 rC b1 hr1 h1
  refine⟨(x,y),r2,Cg,O2,c2,E2,ws++Rz,zs,by simp,h2,m2,p1.trans p2 (Nat.le_refl _),zB,l1.trans l2 (by omega),fun q i hq=>by have:=b2 q i hq;simp only[AK.sz];omega,⟨ws,Rz,rfl,Jg.iM p2 l2 (fun q i hq=>?_) cg.1 (Nat.le_refl _),GH⟩,hr2,fun hn=>by simp only[il,Bool.and_eq_true] at hn;simp_all,fun q i hq=>?_⟩
  ·obtain⟨_,e,t,xs,ho⟩:=rC.gone q i hq
   have:=m1.ow q
   rw[ho] at this
   exact this.1
  ·rcases o2 q i hq with h3|⟨h3,h4⟩
   ·rcases o1 q i h3 with h5|⟨h5,h6⟩
    ·simp_all
    ·refine .inr ⟨h5,?_⟩
     have:i - j<a.sz:=by grind
     simp only[AK.bh]
     simp_all
   ·refine .inr ⟨by omega,?_⟩
    simp only[AK.bh]
    grind
 |.own e t,l,vs,E,O,O',c,j,K,cg,hm,hh,hj,hr,h=>by
  simp only[FF] at h
  split at h<;>first|exact h.elim|skip
  ·rename_i k r
   cases vs with
   |nil=>exact hr.elim
   |cons v vs=>
    obtain⟨fP,hv⟩:=hr.1
    split at h<;>first|exact h.elim|skip
    rename_i e' t' xs nG
    split at h<;>first|exact h.elim|skip
    rename_i ht
    subst ht
    split at h<;>first|exact h.elim|skip
    rename_i oP _
    have sj:c k=none:=by
     cases hc:c k with
     |none=>rfl
     |some i=>have:=(hh.gone k i hc).1;simp_all
    have ho:aw O k=.own e' t' xs:=by rw[←hh.same k sj];omega
    refine⟨_,r,_,O,fun q=>if q=k then some j else c q,E,[v],vs,rfl,h,hm,aU.refl _ _,⟨fun q hq=>?_,fun q i hq=>?_⟩,⟨fun q i hq=>?_,fun q i hq=>?_,fun _ _ _=>rfl,fun _ hb=>hb⟩,fun q i hq=>?_,.inr ⟨k,fun q=>⟨fun hq=>?_,fun e=>?_⟩,by rw[ho];exact zA,by grind⟩,hr.2,fun hn=>by simp[il] at hn,fun q i hq=>?_⟩
    ·try simp only at hq
     split at hq<;>first|simp_all|skip
     rename_i bb
     rw[aW,if_neg (fun e=>bb e.symm)];exact hh.same q hq
    ·try simp only at hq
     rw[aW]
     split at hq
     ·simp_all
     ·rename_i bb;rw[if_neg (fun e=>bb e.symm)];exact hh.gone q i hq
    ·grind
    ·grind
    ·try simp only at hq
     split at hq
     ·injection hq with hq;simp only[AK.sz];omega
     grind
    ·grind
    ·simp_all
    ·try simp only at hq
     split at hq
     ·injection hq with hq;subst hq;exact .inr ⟨Nat.le_refl _,by rw[Nat.sub_self];rfl⟩
     simp_all
  ·rename_i r
   cases vs with
   |nil=>exact hr.elim
   |cons v vs=>
    have hv:v=.slice none 0 0:=hr.1
    split at h<;>first|exact h.elim|skip
    exact⟨[],r,O',O,c,E,[v],vs,rfl,h,hm,aU.refl _ _,hh,fN.refl _ _ _ _,fun q i hq=>by grind,.inl ⟨by grind,rfl,fun q hq=>by grind⟩,hr.2,fun hn=>by rfl,fun q i h=>.inl h⟩
 |.bQ e,l,vs,E,O,O',c,j,K,cg,hm,hh,hj,hr,h=>by
  cases l with
  |nil=>exact h.elim
  |cons a r=>
   cases vs with
   |nil=>exact hr.elim
   |cons v vs=>
    obtain⟨x,h1,s,hs,mj⟩:=BY (K:=fun x=>K x r O') (jY hm hh) hr.1 h
    exact⟨x,r,O',O,c,E,[v],vs,rfl,h1,hm,aU.refl _ _,hh,fN.refl _ _ _ _,fun q i hq=>by grind,⟨s,by grind,mj⟩,hr.2,fun _=>rfl,fun q i h=>.inl h⟩
 |.fn k,l,vs,E,O,O',c,j,K,cg,hm,hh,hj,hr,h=>by
  cases l with
  |nil=>exact h.elim
  |cons a r=>
   cases vs with
   |nil=>exact hr.elim
   |cons v vs=>
    obtain⟨x,h1,h2⟩:=cA (k:=.fn k) (K:=fun x=>K x r O') (jY hm hh) hr.1 rfl h
    exact⟨x,r,O',O,c,E,[v],vs,rfl,h1,hm,aU.refl _ _,hh,fN.refl _ _ _ _,fun q i hq=>by grind,h2,hr.2,fun _=>rfl,fun q i h=>.inl h⟩
 |.one k,l,vs,E,O,O',c,j,K,cg,hm,hh,hj,hr,h=>by
  cases l with
  |nil=>exact h.elim
  |cons a r=>
   cases vs with
   |nil=>exact hr.elim
   |cons v vs=>
    obtain⟨x,h1,h2⟩:=cA (k:=.one k) (K:=fun x=>K x r O') (jY hm hh) hr.1 rfl h
    exact⟨x,r,O',O,c,E,[v],vs,rfl,h1,hm,aU.refl _ _,hh,fN.refl _ _ _ _,fun q i hq=>by grind,h2,hr.2,fun _=>rfl,fun q i h=>.inl h⟩
 |.byte,l,vs,E,O,O',c,j,K,cg,hm,hh,hj,hr,h=>by
  cases l with
  |nil=>exact h.elim
  |cons a r=>
   cases vs with
   |nil=>exact hr.elim
   |cons v vs=>
    obtain⟨x,h1,h2⟩:=cA (k:=.byte) (K:=fun x=>K x r O') (jY hm hh) hr.1 rfl h
    exact⟨x,r,O',O,c,E,[v],vs,rfl,h1,hm,aU.refl _ _,hh,fN.refl _ _ _ _,fun q i hq=>by grind,h2,hr.2,fun _=>rfl,fun q i h=>.inl h⟩
 |.ref,l,vs,E,O,O',c,j,K,cg,hm,hh,hj,hr,h=>by
  cases l with
  |nil=>exact h.elim
  |cons a r=>
   cases vs with
   |nil=>exact hr.elim
   |cons v vs=>
    obtain⟨x,h1,h2⟩:=cA (k:=.ref) (K:=fun x=>K x r O') (jY hm hh) hr.1 rfl h
    exact⟨x,r,O',O,c,E,[v],vs,rfl,h1,hm,aU.refl _ _,hh,fN.refl _ _ _ _,fun q i hq=>by grind,h2,hr.2,fun _=>rfl,fun q i h=>.inl h⟩
 |.row e,l,vs,E,O,O',c,j,K,cg,hm,hh,hj,hr,h=>by
  cases l with
  |nil=>exact h.elim
  |cons a r=>
   cases vs with
   |nil=>exact hr.elim
   |cons v vs=>
    obtain⟨E2,O2,m2,p2,zB,l2,_⟩:=wc hm hh a j
    obtain⟨x,h1,h2⟩:=cA (k:=.row e) (K:=fun x=>K x r (lu O' a)) (jY m2 zB) (hr.1.aL p2) cg h
    exact⟨x,r,_,O2,c,E2,[v],vs,rfl,h1,m2,p2,zB,l2,fun q i hq=>by grind,h2,hr.2.aL p2,fun _=>rfl,fun q i h=>.inl h⟩
end
section
variable {cx:Cx} {W0:World} {w0:Mk} {X:Nat→Prop} {E:Env} {B:BL} {O:OL} {H:HP} {W W' gZ:World}
theorem mS (O:OL):Handed O O fun _=>none:=⟨fun _ _=>rfl,fun _ _ h=>by grind⟩
theorem Handed.vo {O':OL} {c:Nat→Option Nat} (hh:Handed O' O c) (hm:aQ W0 w0 X E B O H W) {k j:Nat} (h:c k=some j):E.vo k=true:=by
 obtain⟨_,e,t,xs,ho⟩:=hh.gone k j h
 have:=hm.ow k
 rw[ho] at this
 exact this.1
theorem pK (hm:aQ W0 w0 X E B O H W) {c:Nat→Option Nat} {w:Mk} {W2:World} {τ:Nat→Tag} (hi:mb (aG E.w) (aG w) W W2) (hw:∀b j,w b=some (τ j)↔∃k,E.w b=some (.lo k)∧c k=some j) (hb:∀b k,E.w b=some (.lo k)→W2.heap[b]?=W.heap[b]?):∀{k:AK} {j:Nat} {vs:List Value} {x:k.T},k.bd=true→tt E W O c k j vs x→dJ w W2 τ k j vs x
 |.own e t,j,vs,xs,g,h=>by
  rcases h with⟨rfl,rfl,h3⟩|⟨k,h1,h2,rfl⟩
  ·exact⟨⟨none,0,0⟩,rfl,fM.nil _ _ _ _ _ fun b ir=>by
    simp_all⟩
  ·have hk:=hm.ow k
   rw[h2] at hk
   obtain⟨_,g',h0,dL⟩:=hk
   refine⟨_,rfl,dL.bk g' hi (fun b ir=>hb b k ir) fun b=>?_⟩
   simp_all
 |.cons a b,j,vs,x,g,h=>by
  obtain⟨va,vb,e,ha,ir⟩:=h
  simp only[AK.bd,Bool.and_eq_true] at g
  exact⟨va,vb,e,pK hm hi hw hb g.1 ha,pK hm hi hw hb g.2 ir⟩
 |.bQ e,j,vs,xs,g,h=>by simp[AK.bd] at g
 |.fn k,j,vs,x,g,h=>bz.aG (k:=.fn k) hi g h
 |.one k,j,vs,x,g,h=>bz.aG (k:=.one k) hi g h
 |.byte,j,vs,x,g,h=>bz.aG (k:=.byte) hi g h
 |.ref,j,vs,x,g,h=>bz.aG (k:=.ref) hi g h
 |.row e,j,vs,x,g,h=>bz.aG (k:=.row e) hi g h
 |.nil,j,vs,x,g,h=>bz.aG (k:=.nil) hi g h
def Vv (E:Env) (W:World) (O:OL) (c:Nat→Option Nat):Nat→(ps:List (Bool×AK))→List Value→HT ps→Prop
 |_,[],vs,_=>vs=[]
 |j,p::r,vs,x=>∃v us,vs=v::us∧Vv E W O c (j+p.2.sz) r us x.2∧∃cs,tt E W O c p.2 j cs x.1∧Z9 p.1 v cs
theorem sx:∀{ps:List (Bool×AK)} {l:List AV} {vs:List Value} {E:Env} {O O':OL} {c:Nat→Option Nat} {j:Nat} {K:HT ps→OL→Prop},fQ ps=true→aQ W0 w0 X E B O H W→Handed O' O c→(∀q i,c q=some i→i<j)→ju E W l vs→As O' ps l K→
 ∃xs Cg O2 c2 E2,K xs Cg∧aQ W0 w0 X E2 B O2 H W∧aU E W E2 W∧Handed Cg O2 c2∧fN E O c j E2 O2 c2∧Vv E2 W O2 c2 j ps vs xs∧(iz ps=true→c2=c)
 |[],[],[],E,O,O',c,j,K,_,hm,hh,hj,_,h=>⟨(),O',O,c,E,h,hm,aU.refl _ _,hh,fN.refl _ _ _ _,rfl,fun _=>rfl⟩
 |[],[],_::_,E,O,O',c,j,K,_,_,_,_,hv,_=>hv.elim
 |[],_::_,_,E,O,O',c,j,K,_,_,_,_,_,h=>h.elim
 |_::_,[],_,E,O,O',c,j,K,_,_,_,_,_,h=>h.elim
 |_::_,_::_,[],E,O,O',c,j,K,_,_,_,_,hv,_=>hv.elim
 |(ag,k)::ps,a::l,v::vs,E,O,O',c,j,K,cg,hm,hh,hj,hv,h=>by
  simp only[fQ,Bool.and_eq_true] at cg
  simp only[As] at h
  split at h<;>first|exact h.elim|skip
  rename_i cs gU
  obtain⟨ws,GD,j6⟩:=v_ gU hv.1
  have hgk:=cg.1
  obtain⟨x,rest,pJ,O1,c1,E1,ws1,us1,e1,h1,m1,p1,rC,l1,b1,Jg,hr1,n1,_⟩:=ox hgk hm hh hj GD h
  split at h1<;>first|exact h1.elim|skip
  have:us1=[]:=by cases us1 with|nil=>rfl|cons _ _=>exact hr1.elim
  subst this
  rw[List.append_nil] at e1
  subst e1
  have ui:ju E1 W l vs:=by
   have:∀{l:List AV} {vs:List Value},ju E W l vs→ju E1 W l vs:=by
    intro l
    induction l with
    |nil=>intro vs h;cases vs with|nil=>trivial|cons _ _=>exact h.elim
    |cons a l ih=>intro vs h;cases vs with|nil=>exact h.elim|cons v vs=>exact⟨h.1.aL p1,ih h.2⟩
   exact this hv.2
  obtain⟨xs,Cg,O2,c2,E2,h2,m2,p2,zB,l2,ha,n2⟩:=sx cg.2 m1 rC b1 ui h1
  exact⟨(x,xs),Cg,O2,c2,E2,h2,m2,p1.trans p2 (Nat.le_refl _),zB,l1.trans l2 (by omega),⟨v,vs,rfl,ha,ws,Jg.iM p2 l2 (fun q i hq=>rC.vo m1 hq) hgk (Nat.le_refl _),j6⟩,fun hn=>by simp only[iz,Bool.and_eq_true] at hn;simp_all⟩
theorem agf {w:Mk} {c:Nat→Option Nat} {b j:Nat} (kT:∀j,w b≠some (.arg j)):cm w c b=some (.arg j)↔∃k,w b=some (.lo k)∧c k=some j:=by
 unfold cm
 grind
theorem agh (hm:aQ W0 w0 X E B O H W) {c:Nat→Option Nat}:∀{k:AK} {j:Nat} {vs:List Value} {x:k.T},k.iK=true→(mr k=false∨∀b q,E.w b=some (.lo q)→c q=none)→tt E W O c k j vs x→BI (cm E.w c) W k j vs x:=by
 have im:mb (aG E.w) (aG (cm E.w c)) W W:=fun b hb _=>⟨gf.2 hb,bl.of rfl⟩
 have ht:∀{k:AK} {j:Nat} {vs:List Value} {x:k.T},k.bd=true→tt E W O c k j vs x→dJ (cm E.w c) W .arg k j vs x:=fun hg h=>pK hm im (fun b j=>agf fun j=>(hm.clean b j).1) (fun _ _ _=>rfl) hg h
 intro k
 induction k with
 |cons a b Jh Ji=>
  intro j vs x g hb h
  simp only[AK.iK,Bool.and_eq_true] at g
  have ir:(mr a=false∧mr b=false)∨∀b q,E.w b=some (.lo q)→c q=none:=by
   rcases hb with hb|hb
   ·simp only[mr,Bool.or_eq_false_iff] at hb;simp_all
   grind
  obtain⟨va,vb,e,h1,h2⟩:=h
  exact⟨va,vb,e,Jh g.1 (ir.imp (·.1) id) h1,Ji g.2 (ir.imp (·.2) id) h2⟩
 |bQ e _=>
  intro j vs x g hb h
  rcases hb with hb|hb
  ·simp[mr] at hb
  obtain⟨g1,g2⟩:=good_row g
  obtain⟨s,hs,hr⟩:=h
  refine⟨g1,g2,s,hs,hr.aG (fun b ir _=>⟨?_,bl.of rfl⟩) g2 fun _ _ hd=>hd.aG im g1⟩
  rcases ir with ir|ir|⟨k,ir⟩
  ·exact .inl (gf.2 ir)
  ·exact .inr (by unfold cm;grind)
  ·exact .inr (by unfold cm;grind)
 |own e t _=>intro j vs x g _ h;exact ht (k:=.own e t) g h
 |row e _=>intro j vs x g _ h;exact ht (k:=.row e) g h
 |one k=>intro j vs x _ _ h;exact ht (k:=.one k) rfl h
 |fn k=>intro j vs x _ _ h;exact ht (k:=.fn k) rfl h
 |arr e t _=>intro j vs x g _ h;exact h.elim
 |mp e _=>intro j vs x g _ h;exact h.elim
 |byte=>intro j vs x _ _ h;exact ht (k:=.byte) rfl h
 |ref=>intro j vs x _ _ h;exact ht (k:=.ref) rfl h
 |nil=>intro j vs x _ _ h;exact ht (k:=.nil) rfl h
theorem LS (hm:aQ W0 w0 X E B O H W) {c:Nat→Option Nat}:∀{ps:List (Bool×AK)} {j:Nat} {vs:List Value} {xs:HT ps},fQ ps=true→(xX ps=true∨∀b k,E.w b=some (.lo k)→c k=none)→Vv E W O c j ps vs xs→gk (cm E.w c) W j ps vs xs
 |[],j,vs,xs,_,_,h=>h
 |(ag,k)::ps,j,vs,xs,cg,hb,h=>by
  simp only[fQ,Bool.and_eq_true] at cg
  obtain⟨v,us,rfl,h1,cs,h2,h3⟩:=h
  have ir:(mr k=false∧xX ps=true)∨∀b k,E.w b=some (.lo k)→c k=none:=by
   rcases hb with hb|hb
   ·simp only[xX,Bool.and_eq_true,Bool.not_eq_true'] at hb;simp_all
   grind
  exact⟨v,us,rfl,LS hm cg.2 (ir.imp (·.2) id) h1,cs,agh hm cg.1 (ir.imp (·.1) id) h2,h3⟩
end
section
variable {cx:Cx} {W0:World} {w0:Mk} {X:Nat→Prop} {E:Env} {B:BL} {O:OL} {H:HP} {W W' gZ:World} {K:AV→BL→OL→HP→Prop}
theorem lV:∀{k:AK} {i:Nat},k.bh i=true→i<k.sz
 |.own _ _,i,h=>by simp[AK.bh] at h;subst h;simp[AK.sz]
 |.cons a b,i,h=>by
  simp only[AK.bh] at h
  simp only[AK.sz]
  split at h
  ·omega
  ·have:=lV h;omega
 |.one _,_,h=>by simp[AK.bh] at h
 |.byte,_,h=>by simp[AK.bh] at h
 |.ref,_,h=>by simp[AK.bh] at h
 |.row _,_,h=>by simp[AK.bh] at h
 |.bQ _,_,h=>by simp[AK.bh] at h
 |.nil,_,h=>by simp[AK.bh] at h
theorem iN {base:Nat}:∀{k:AK} {j:Nat} {x:k.T} {O:OL} {n:Nat},¬(base+j≤n∧k.bh (n - base - j)=true)→aw (k.lq base j x O) n=aw O n
 |.own e t,j,xs,O,n,h=>by
  simp only[AK.lq]
  rw[aW,if_neg]
  intro e;subst e;exact h ⟨Nat.le_refl _,by simp[AK.bh]⟩
 |.cons a b,j,x,O,n,h=>by
  simp only[AK.lq]
  rw[iN (k:=b),iN (k:=a)]
  ·rintro⟨h1,h2⟩
   refine h ⟨h1,?_⟩
   simp only[AK.bh]
   rw[if_pos (lV h2)];omega
  ·rintro⟨h1,h2⟩
   refine h ⟨by omega,?_⟩
   simp only[AK.bh]
   grind
 |.fn _,_,_,_,_,_=>rfl
 |.one _,_,_,_,_,_=>rfl
 |.byte,_,_,_,_,_=>rfl
 |.ref,_,_,_,_,_=>rfl
 |.row _,_,_,_,_,_=>rfl
 |.arr _ _,_,_,_,_,_=>rfl
 |.mp _,_,_,_,_,_=>rfl
 |.bQ _,_,_,_,_,_=>rfl
 |.nil,_,_,_,_,_=>rfl
def Ch (w:Mk) (W:World) (tg:Tag) (s:Sl):cw→Prop
 |.own e t xs=>e.bd=true∧e.sz≠0∧fM (aG w) (fun b=>w b=some tg) W e t s xs
 |_=>False
theorem nH {w:Mk} {tg:Nat→Tag} {hd:Nat→Sl} {base:Nat}:∀{k:AK} {j:Nat} {x:k.T} {O:OL} {n:Nat},k.iK=true→gy w W tg hd k j x→base+j≤n→k.bh (n - base - j)=true→Ch w W (tg (n - base)) (hd (n - base)) (aw (k.lq base j x O) n)
 |.own e t,j,xs,O,n,g,ho,h1,h2=>by
  simp[AK.bh] at h2
  have:n=base+j:=by omega
  subst this
  simp only[AK.iK,AK.bd,Bool.and_eq_true,bne_iff_ne] at g
  simp only[AK.lq]
  rw[aW,if_pos rfl,show base+j - base=j from by omega]
  exact⟨g.2,g.1,ho⟩
 |.cons a b,j,x,O,n,g,ho,h1,h2=>by
  simp only[AK.iK,Bool.and_eq_true] at g
  simp only[AK.bh] at h2
  simp only[AK.lq]
  split at h2
  ·rename_i aY
   rw[iN (k:=b)]
   ·exact nH g.1 ho.1 h1 h2
   omega
  ·rename_i aY
   exact nH g.2 ho.2 (by omega) (by grind)
 |.one _,_,_,_,_,_,_,_,h=>by simp[AK.bh] at h
 |.byte,_,_,_,_,_,_,_,h=>by simp[AK.bh] at h
 |.ref,_,_,_,_,_,_,_,h=>by simp[AK.bh] at h
 |.row _,_,_,_,_,_,_,_,h=>by simp[AK.bh] at h
 |.bQ _,_,_,_,_,_,_,_,h=>by simp[AK.bh] at h
 |.nil,_,_,_,_,_,_,_,h=>by simp[AK.bh] at h
theorem sy {base:Nat}:∀{rs:List (Bool×AK)} {j:Nat} {r:HT rs} {O:OL} {n:Nat},¬(base+j≤n∧iD rs (n - base - j)=true)→aw (Ab base rs j r O) n=aw O n
 |[],_,_,_,_,_=>rfl
 |p::rs,j,r,O,n,h=>by
  simp only[Ab]
  rw[sy,iN]
  ·rintro⟨h1,h2⟩
   refine h ⟨h1,?_⟩
   simp only[iD]
   rw[if_pos (lV h2)];omega
  ·rintro⟨h1,h2⟩
   refine h ⟨by omega,?_⟩
   simp only[iD]
   grind
theorem GJ {w:Mk} {hd:Nat→Sl} {base:Nat}:∀{rs:List (Bool×AK)} {j:Nat} {r:HT rs} {O:OL} {n:Nat},fB rs=true→ug w W hd j rs r→base+j≤n→iD rs (n - base - j)=true→Ch w W (.res (n - base)) (hd (n - base)) (aw (Ab base rs j r O) n)
 |[],_,_,_,_,_,_,_,h=>by simp[iD] at h
 |p::rs,j,r,O,n,g,ho,h1,h2=>by
  simp only[fB,Bool.and_eq_true] at g
  simp only[iD] at h2
  simp only[Ab]
  split at h2
  ·rename_i aY
   rw[sy]
   ·exact nH (jX g.1) ho.1 h1 h2
   omega
  ·rename_i aY
   exact GJ g.2 ho.2 (by omega) (by grind)
theorem yH {base:Nat} {O:OL}:∀{k:AK} {j n:Nat},k.Ap base O j=true→base+j≤n→k.bh (n - base - j)=true→aw O n=.no
 |.own e t,j,n,h,h1,h2=>by
  simp[AK.bh] at h2
  have:n=base+j:=by omega
  subst this
  simp only[AK.Ap] at h
  grind
 |.cons a b,j,n,h,h1,h2=>by
  simp only[AK.Ap,Bool.and_eq_true] at h
  simp only[AK.bh] at h2
  split at h2
  ·exact yH h.1 h1 h2
  ·exact yH h.2 (by omega) (by grind)
 |.one _,_,_,_,_,h=>by simp[AK.bh] at h
 |.byte,_,_,_,_,h=>by simp[AK.bh] at h
 |.ref,_,_,_,_,h=>by simp[AK.bh] at h
 |.row _,_,_,_,_,h=>by simp[AK.bh] at h
 |.bQ _,_,_,_,_,h=>by simp[AK.bh] at h
 |.nil,_,_,_,_,h=>by simp[AK.bh] at h
theorem zC {base:Nat} {O:OL}:∀{rs:List (Bool×AK)} {j n:Nat},sQ base O rs j=true→base+j≤n→iD rs (n - base - j)=true→aw O n=.no
 |[],_,_,_,_,h=>by simp[iD] at h
 |p::rs,j,n,h,h1,h2=>by
  simp only[sQ,Bool.and_eq_true] at h
  simp only[iD] at h2
  split at h2
  ·exact yH h.1 h1 h2
  ·exact zC h.2 (by omega) (by grind)
theorem RD {c:Nat→Option Nat} {base:Nat} {rk:Nat→Bool} {w w':Mk} {H':HP} (hp:BJ (cm w c) W w' W' H'):mb (aG w') (aG (am w c base rk w')) W' W':=fun b hb _=>by
 have hb:w' b=none:=hb
 refine⟨?_,bl.of rfl⟩
 show am w c base rk w' b=none
 unfold am
 split
 ·rename_i i hi;have:=(hp.since.ext b (by unfold cm;grind)).1;simp_all
 ·rename_i k hk
  split
  ·rw[hb];rfl
  ·rename_i hc;have:=(hp.since.ext b (by unfold cm;simp_all)).1;simp_all
 ·rw[hb];rfl
theorem agi {c:Nat→Option Nat} {base:Nat} {rk:Nat→Bool} {w w':Mk} {H':HP} (hp:BJ (cm w c) W w' W' H') {k:Nat} (hk:ee base rk k=true) (fk:∀b,w b≠some (.lo k)) (b:Nat):am w c base rk w' b=some (.lo k)↔w' b=some (.res (k - base)):=by
 have bW:base≤k∧rk (k - base)=true:=by unfold ee at hk;simp_all
 have st:uf base rk (w' b)=some (.lo k)↔w' b=some (.res (k - base)):=by
  rw[RB]
  grind
 have ext:cm w c b=some .ext→¬w' b=some (.res (k - base)):=fun h=>by rw[(hp.since.ext b h).1];simp
 unfold am
 split
 ·rename_i i hi
  refine⟨fun h=>(by grind),fun h=>absurd h (ext (by unfold cm;grind))⟩
 ·rename_i q hq
  split
  ·omega
  ·rename_i hc
   refine⟨fun h=>?_,fun h=>absurd h (ext (by unfold cm;simp_all))⟩
   simp_all
 omega
theorem OY {c:Call} {f:FuncId} {fn:Func} {a:Act} {x:Operand} (hc:c.callee=.value x) {ns:List Nat} (hf:a.eval x=xd f ns) (Ep:cx.P.funcs[f]?=some fn) (hb:fn.body.isSome=true) (hn:¬fn.name= "runtime.NumGoroutine") (dst:Option Tmp) (type:TypeId) (pos:String) (after:Array Edge) (guard:Option (Nat×Bool)):
 (execOp a.eval ⟨dst,.call c,type,pos,after,guard⟩).run cx.P W=.ok (.enter f ⟨c.args.toList.map a.eval++ns.map fun n=>.pointer (some ⟨n,0,none⟩)⟩) W:=by
 obtain⟨callee,args,RC⟩:=c
 simp only at hc
 subst hc
 obtain⟨b,hb⟩:=Option.isSome_iff_exists.1 hb
 simp[execOp,resolve,hf,xd,Deferred.ofValue,invoke,callFunc,Ep,hb,hn]
theorem GK:∀{ns:List Nat},ju E W (ns.map acE) (ns.map fun n=>.pointer (some ⟨n,0,none⟩))
 |[]=>trivial
 |_::_=>⟨rfl,GK⟩
theorem Ci:∀{l l':List AV} {vs Z5:List Value},ju E W l vs→ju E W l' Z5→ju E W (l++l') (vs++Z5)
 |[],_,[],_,_,h=>h
 |_::_,_,_::_,_,h,h'=>⟨h.1,Ci h.2 h'⟩
 |[],_,_::_,_,h,_=>h.elim
 |_::_,_,[],_,h,_=>h.elim
theorem Im {c:Call} {f:FuncId} {s:oW} {ρ:Operand→AV} {a:Act} (hm:aQ W0 w0 X E B O H W) {ns:List Nat} (FN:∃x,c.callee=.value x∧a.eval x=xd f ns∧∃fn,cx.P.funcs[f]?=some fn∧fn.body.isSome=true∧¬fn.name= "runtime.NumGoroutine") (h3:fQ s.ps=true) (h4:fB s.rs=true) (h5:QD s.ps=true) (dst:Option Tmp) (type:TypeId) (pos:String) (after:Array Edge) (guard:Option (Nat×Bool))
 (h:As O s.ps (c.args.toList.map ρ++ns.map acE) fun xs O'=>(match dst with
  |some d=>(match sQ (d*64) O' s.rs 0 with
   |true=>ae cx.P f s.ps xs s.rs H fun r H'=>K (rQ (d*64) s.rs r) B (Ab (d*64) s.rs 0 r O') H'
   |false=>False)
  |none=>ae cx.P f s.ps xs s.rs H fun r H'=>K (.v .dead) B O' H')) (cL:∀z∈c.args,aK E W (ρ z) (a.eval z)):
 fg cx.P ⟨dst,.call c,type,pos,after,guard⟩ a W (vj W0 w0 X E B O H W K):=by
 obtain⟨x0,hc,GL,fn,Ep,hb,hn⟩:=FN
 obtain⟨xs,O',O2,c2,E2,h,m2,p2,hh,_,ha,dz⟩:=sx h3 hm (mS O) (j:=0) (fun q i hq=>(by grind)) (Ci (yD (ev:=a.eval) fun x hx=>cL x (by simp_all)) GK) h
 have Vs:gk (cm E2.w c2) W 0 s.ps _ xs:=LS m2 h3 (by
  unfold QD at h5
  grind) ha
 intro next Q Ki
 unfold Oper.wp
 rw[OY hc GL Ep hb hn]
 cases dst with
 |none=>
  simp only at h
  refine Calls.mono (h (cm E2.w c2) W _ (yB m2 _) Vs) fun e W' he=>?_
  obtain⟨us,r,H',w',rfl,hk,eZ,xc⟩:=he
  obtain⟨rz,ji⟩:=yC m2 eZ (base:=0) (rk:=fun _=>false) (hd:=fun _=>⟨none,0,0⟩) (O':=O') (fun k hk=>by simp[ee] at hk) (fun k _=>by
   cases sj:c2 k with
   |none=>exact .inl ⟨hh.same k sj,rfl⟩
   |some j=>exact .inr ⟨(hh.gone k j sj).1,rfl,hh.vo m2 sj⟩) (fun k hk=>by simp[ee] at hk)
  exact Ki _ _ ⟨_,B,O',H',_,hk,trivial,rz,p2.trans ji (Nat.le_refl _),eZ.since.size,fun _ _=>rfl,aD.refl _⟩
 |some d=>
  simp only at h
  split at h<;>first|exact h.elim|skip
  rename_i fk
  have AZ:∀k,ee (d*64) (iD s.rs) k=true→aw O2 k=.no:=fun k hk=>by
   have bW:d*64≤k∧iD s.rs (k - d*64)=true:=by unfold ee at hk;simp_all
   have h1:=zC fk (n:=k) (Nat.le_trans (Nat.le_of_eq (Nat.add_zero _)) bW.1) (by simp_all)
   cases sj:c2 k with
   |none=>rw[←hh.same k sj];omega
   |some j=>rw[(hh.gone k j sj).1] at h1;grind
  refine Calls.mono (h (cm E2.w c2) W _ (yB m2 _) Vs) fun e W' he=>?_
  obtain⟨us,r,H',w',rfl,hk,eZ,xc⟩:=he
  obtain⟨hd,ho,hr⟩:=vd h4 xc
  obtain⟨rz,ji⟩:=yC m2 eZ (base:=d*64) (rk:=iD s.rs) (hd:=hd) (O':=Ab (d*64) s.rs 0 r O') AZ (fun k hk=>by
   have h1:aw (Ab (d*64) s.rs 0 r O') k=aw O' k:=sy (by
    rintro⟨h6,h7⟩
    unfold ee at hk
    simp_all)
   rw[h1]
   cases sj:c2 k with
   |none=>exact .inl ⟨hh.same k sj,rfl⟩
   |some j=>exact .inr ⟨(hh.gone k j sj).1,rfl,hh.vo m2 sj⟩) (fun k hk=>by
   have bW:d*64≤k∧iD s.rs (k - d*64)=true:=by unfold ee at hk;simp_all
   have h1:=GJ (O:=O') (n:=k) h4 ho (base:=d*64) (Nat.le_trans (Nat.le_of_eq (Nat.add_zero _)) bW.1) (by simp_all)
   have hnk:∀b,E2.w b≠some (.lo k):=by have:=m2.ow k;rw[AZ k hk] at this;exact this.1
   have fP:(E2.after c2 (d*64) (iD s.rs) hd w').vo k=true:=by show(E2.vo k||ee (d*64) (iD s.rs) k)=true;simp_all
   have OZ:(E2.after c2 (d*64) (iD s.rs) hd w').bo k=hd (k - d*64):=by show(if ee (d*64) (iD s.rs) k=true then _ else _)=_;simp_all
   unfold Ch at h1
   split at h1<;>first|exact h1.elim|skip
   rename_i e t xs' heq
   obtain⟨g1,g2,g3⟩:=h1
   rw[heq]
   refine⟨fP,g1,g2,?_⟩
   rw[OZ]
   exact g3.bk g1 (RD eZ) (fun _ _=>rfl) fun b=>agi eZ hk hnk b)
  refine Ki _ _ ⟨_,B,_,H',_,hk,B_ (hr _ W' (d*64) (RD eZ) fun i _ hi=>?_),rz,p2.trans ji (Nat.le_refl _),eZ.since.size,fun _ _=>rfl,aD.refl _⟩
  rw[Nat.sub_zero] at hi
  have xc:ee (d*64) (iD s.rs) (d*64+i)=true:=by unfold ee;simp_all
  refine⟨by show(E2.vo _||ee (d*64) (iD s.rs) _)=true;simp_all,?_⟩
  show(if ee (d*64) (iD s.rs) _=true then _ else _)=_
  simp_all
end
theorem fh {P:Program} {w:World} {r:Nat} {es:Array MapEntry} {c:Nat} (hb:w.heap[r]?=some (.map es c)):(getObj r).run P w=.ok (.map es c) w:=by
 simp[getObj,Sem.run,hb]
theorem gM {P:Program} {w:World} {r:Nat} {es:Array MapEntry} {c:Nat} (o:Obj) (hb:w.heap[r]?=some (.map es c)):(setObj r o).run P w=.ok () {w with heap:=w.heap.setIfInBounds r o}:=by
 simp[setObj,Sem.run,hb]
theorem iE {P:Program} {w:World} {kt:TypeId} (hd:P.underlying kt=some (.int .i64)) (k:Int) (e:Bool):(Instr.checkKey e 10000 kt (.int .i64 k)).run P w=.ok () w:=by
 show(Instr.checkKey e (9999+1) kt (.int .i64 k)).run P w=.ok () w
 unfold Instr.checkKey
 simp[aT hd,Result.andThen]
theorem kc {P:Program} {w:World} {kt:TypeId} (hd:P.underlying kt=some (.int .i64)) {k:Int} {l:List MapEntry} {a:Option (Nat×Value)} (h:Instr.findNow (.int .i64) (.int .i64 k) l 0=some a):(Instr.findKey kt (.int .i64 k) l).run P w=.ok a w:=by
 simp[Instr.findKey,aT hd,Result.andThen,h]
section
variable {I:Nat→Prop} {W:World} {e:AK}
theorem pL {k:Int}:∀{es:List MapEntry} {l:List (Int×Nat×e.T)} {i:Nat},ot I W e es l→nA k l=false→Instr.findNow (.int .i64) (.int .i64 k) es i=some none
 |[],[],_,_,_=>rfl
 |m::es,q::l,i,h,hk=>by
  simp only[nA] at hk
  split at hk<;>first|(cases hk;done)|skip
  rename_i bb
  simp only[Instr.findNow,h.1,Instr.sameNow,if_true]
  have:(k==q.1)=false:=by simpa using fun e=>bb e.symm
  rw[this]
  exact pL h.2.2.2 hk
 |[],_::_,_,h,_=>h.elim
 |_::_,[],_,h,_=>h.elim
theorem pM {k:Int} {z:e.T} {c:Nat}:∀{es:List MapEntry} {l:List (Int×Nat×e.T)} {i:Nat},ot I W e es l→nA k l=true→∃j m,Instr.findNow (.int .i64) (.int .i64 k) es i=some (some (i+j,m.val))∧es[j]?=some m∧m.key=.int .i64 k∧m.born=wN k c l∧bz I W e [m.val] (BK k z l)∧(∀v x,bz I W e [v] x→ot I W e (es.set j ⟨.int .i64 k,v,m.born⟩) (J5 k x l))∧ot I W e (es.eraseIdx j) (Ad k l)
 |[],[],_,_,h=>by cases h
 |m::es,q::l,i,h,hk=>by
  obtain⟨h1,h2,h3,h4⟩:=h
  by_cases hq:q.1=k
  ·refine⟨0,m,?_,rfl,by rw[h1,hq],by simp[wN,hq,h2],by simpa[BK,hq] using h3,fun v x hx=>?_,by simpa[Ad,hq] using h4⟩
   ·simp only[Instr.findNow,h1,Instr.sameNow,if_true]
    have:(k==q.1)=true:=by simp[hq]
    rw[this];rfl
   ·simp only[List.set_cons_zero,J5,hq,if_true]
    exact⟨rfl,h2,hx,h4⟩
  ·simp only[nA,if_neg hq] at hk
   obtain⟨j,m',a1,a2,a3,a4,a5,a6,a7⟩:=pM (k:=k) (z:=z) (c:=c) (i:=i+1) h4 hk
   refine⟨j+1,m',?_,a2,a3,by simpa[wN,hq] using a4,by simpa[BK,hq] using a5,fun v x hx=>?_,?_⟩
   ·simp only[Instr.findNow,h1,Instr.sameNow,if_true]
    have:(k==q.1)=false:=by simpa using fun e=>hq e.symm
    rw[this]
    simp only[a1]
    rw[show i+1+j=i+(j+1) from by omega]
   ·simp only[List.set_cons_succ,J5,if_neg hq]
    exact⟨h1,h2,h3,a6 v x hx⟩
   ·simp only[List.eraseIdx_cons_succ,Ad,if_neg hq]
    exact⟨h1,h2,h3,a7⟩
 |[],_::_,_,h,_=>h.elim
 |_::_,[],_,h,_=>h.elim
theorem DU {k:Int} {z:e.T}:∀{l:List (Int×Nat×e.T)},nA k l=false→BK k z l=z
 |[],_=>rfl
 |q::l,h=>by
  simp only[nA] at h
  split at h<;>first|(cases h;done)|skip
  rename_i bb
  simp only[BK,if_neg bb];exact DU h
theorem GM {k:Int} {c:Nat}:∀{l:List (Int×Nat×e.T)},nA k l=false→wN k c l=c
 |[],_=>rfl
 |q::l,h=>by
  simp only[nA] at h
  split at h<;>first|(cases h;done)|skip
  rename_i bb
  simp only[wN,if_neg bb];exact GM h
theorem LU {k:Int}:∀{l:List (Int×Nat×e.T)},nA k l=false→Ad k l=l
 |[],_=>rfl
 |q::l,h=>by
  simp only[nA] at h
  split at h<;>first|(cases h;done)|skip
  rename_i bb
  simp only[Ad,if_neg bb];rw[LU h]
theorem yI {m:MapEntry} {q:Int×Nat×e.T}:∀{es:List MapEntry} {l:List (Int×Nat×e.T)},ot I W e es l→m.key=.int .i64 q.1→m.born=q.2.1→bz I W e [m.val] q.2.2→ot I W e (es++[m]) (l++[q])
 |[],[],_,h1,h2,h3=>⟨h1,h2,h3,trivial⟩
 |_::_,_::_,h,h1,h2,h3=>⟨h.1,h.2.1,h.2.2.1,yI h.2.2.2 h1 h2 h3⟩
 |[],_::_,h,_,_,_=>h.elim
 |_::_,[],h,_,_,_=>h.elim
theorem LW {s:Int} {x:e.T} {v:Value} (hv:bz I W e [v] x):∀{es:List MapEntry} {l l':List (Int×Nat×e.T)},ot I W e es l→Oo s x l=some l'→∃j m,es.findIdx? (fun m=>(m.born:Int)==s)=some j∧es[j]?=some m∧ot I W e (es.set j {m with val:=v}) l'
 |[],[],_,_,h=>by cases h
 |m::es,q::l,l',h,hk=>by
  obtain⟨h1,h2,h3,h4⟩:=h
  simp only[Oo] at hk
  split at hk
  ·rename_i hq
   injection hk with hk
   subst hk
   refine⟨0,m,by simp[List.findIdx?_cons,h2,hq],rfl,h1,h2,hv,h4⟩
  ·rename_i hq
   cases hs:Oo s x l with
   |none=>rw[hs] at hk;cases hk
   |some l1=>
    rw[hs] at hk
    injection hk with hk
    subst hk
    obtain⟨j,m',a1,a2,a3⟩:=LW hv h4 hs
    refine⟨j+1,m',?_,a2,h1,h2,h3,a3⟩
    have:((m.born:Int)==s)=false:=by rw[h2];simpa using hq
    simp[List.findIdx?_cons,this,a1]
 |[],_::_,_,h,_=>h.elim
 |_::_,[],_,h,_=>h.elim
end
section
variable {cx:Cx} {W0:World} {w0:Mk} {X:Nat→Prop} {E:Env} {B:BL} {O:OL} {H:HP} {W W' gZ:World} {K:AV→BL→OL→HP→Prop}
theorem O0 {P:Program} {t:TypeId} {a:bA} (h:QE P t=some a):∃i z,P.info? t=some i∧i.zero=some z∧bc E W a z:=by
 unfold QE at h
 split at h<;>first|(cases h;done)|skip
 rename_i i hi
 split at h<;>first|(cases h;done)|skip
 rename_i v hv hz
 split at h<;>first|(cases h;done)|skip
 injection h with h
 subst h
 exact⟨i,v,hi,hz,p6 v⟩
theorem lG {t:TypeId} {K:(e:AK)→e.T→Prop} (h:BM cx t K):∃kt et e x z,cx.P.underlying t=some (.map kt et)∧cx.P.underlying kt=some (.int .i64)∧e.bd=true∧e.sz=1∧(zeroValue et).run cx.P W=.ok z W∧bz (aG E.w) W e [z] x∧K e x:=by
 unfold BM at h
 split at h<;>first|exact h.elim|skip
 rename_i kt et ht
 split at h<;>first|exact h.elim|skip
 rename_i hk
 split at h<;>first|exact h.elim|skip
 rename_i e zc akH hzc
 split at h<;>first|exact h.elim|skip
 rename_i hg
 obtain⟨i,z,hi,hz,hzr⟩:=O0 (E:=E) (W:=W) hzc
 obtain⟨x,rest,ws,us,e1,h1,h2,h3⟩:=cQ (E:=E) (W:=W) (g:=fun _=>.no) (l:=[zc]) (vs:=[z]) (fun k=>⟨fun _ _ h=>(by cases h),fun _ _ _ h=>(by cases h)⟩) hg.1 (show aX E W [zc] [z] from⟨hzr,trivial⟩) h
 split at h1<;>first|exact h1.elim|skip
 have:us=[]:=by cases us with|nil=>rfl|cons _ _=>exact h3.elim
 subst this
 rw[List.append_nil] at e1
 refine⟨kt,et,e,x,z,ht,hk,hg.1,hg.2,by simp[zeroValue,typeInfo,hi,hz],by rw[e1];exact h2,h1⟩
theorem nW (hm:aQ W0 w0 X E B O H W) {n:Nat} {e:AK} {c c':Nat} {l l':List (Int×Nat×e.T)} (hx:H n=some ⟨.mp e,(c,l)⟩) {es':Array MapEntry} (hl:ot (aG E.w) W e es'.toList l'):
 aQ W0 w0 X E B O (H.set n (.mp e) (c',l')) {W with heap:=W.heap.setIfInBounds n (.map es' c')}∧aU E W E {W with heap:=W.heap.setIfInBounds n (.map es' c')}∧W.heap.size≤(W.heap.setIfInBounds n (.map es' c')).size:=by
 have fx:=hm.ob n
 rw[hx] at fx
 have hM:=fx.map
 obtain⟨es,he,_⟩:=hM.FD
 have hn:n<W.heap.size:=by
  rcases Nat.lt_or_ge n W.heap.size with h|h
  ·exact h
  ·rw[Array.getElem?_eq_none h] at he;cases he
 have ho:lz W {W with heap:=W.heap.setIfInBounds n (.map es' c')} n:=⟨rfl,rfl,rfl,by simp,fun c hc=>by simp only[Array.getElem?_setIfInBounds];rw[if_neg (fun e=>hc e.symm)]⟩
 have k4:E.w n=some (.ob n):=(hM.tag n).2 rfl
 have aL:=nF ho k4 (by simp)
 refine⟨⟨fun c hc=>hm.wf c (by rw[←ho.size];exact hc),mc hm ho k4 (by simp),fun q=>(hm.bx q).bk aL (bY ho k4 (by simp)) id,fun k=>(hm.ow k).bk aL (bY ho k4 (by simp)) id,fun m=>?_,hm.clean,hm.ba⟩,aL,by simp⟩
 by_cases Cl:m=n
 ·subst Cl
  show fj _ _ _ (if m=m then _ else _)
  rw[if_pos rfl]
  exact .inr (.inr ⟨e,c',l',rfl,hM.bd,hM.tag,hM.Z7,es',by simp[hn],hl.aG aL.im hM.bd⟩)
 ·show fj _ _ _ (if m=n then _ else _)
  rw[if_neg Cl]
  exact(hm.ob m).bk aL.im (bY ho k4 (by simp;exact Cl)) fun j=>bY ho k4 (by simp)
theorem tu {e:AK} (hg:e.bd=true) {v:Value} {x:e.T} (h:bz (aG E.w) W e [v] x):bc E W (xg e x) v:=by
 have:=bS (E:=E) hg h
 unfold xg
 split
 ·rename_i a ha;rw[ha] at this;exact this.1
 ·trivial
theorem GN {α:Type} {l:List α} {i:Nat} {a:α} (h:l[i]?=some a):l.set i a=l:=by
 obtain⟨hi,rfl⟩:=List.getElem?_eq_some_iff.1 h
 exact List.set_getElem_self hi
theorem sA {es:Array MapEntry} {j:Nat} {f:MapEntry→MapEntry} {m:MapEntry} (h:es.toList[j]?=some m):(es.modify j f).toList=es.toList.set j (f m):=by
 rw[Array.toList_modify]
 apply List.ext_getElem?
 intro i
 rw[List.getElem?_modify,List.getElem?_set]
 by_cases GO:j=i
 ·subst GO
  have hl:=(List.getElem?_eq_some_iff.1 h).1
  have oN:j<es.size:=by simpa using hl
  have h':es[j]?=some m:=by rw[←Array.getElem?_toList];exact h
  simp only[Array.getElem?_toList,h',Option.map_some,if_true,Array.length_toList,oN]
  rfl
 ·simp[GO]
theorem KQ {t:TypeId} {m k:AV} {vm vk:Value} {ac:Act} {o:Oper} {K:AV→Prop} {Kr:AV→BL→OL→HP→Prop} (hm:aQ W0 w0 X E B O H W) (h:QF cx t m k H K) (vt:aK E W m vm) (zx:aK E W k vk)
 (d':∀v W',(Instr.lookup t vm vk false).run cx.P W=.ok v W'→(execOp ac.eval o).run cx.P W=.ok (.value v) W') (hK:∀a,K a→Kr a B O H):fg cx.P o ac W (vj W0 w0 X E B O H W Kr):=by
 unfold QF at h
 split at h<;>first|exact h.elim|skip
 rename_i v k
 have vt:vm=v:=vt.1
 have zx:vk=.int .i64 k:=zx.1
 subst vt zx
 obtain⟨kt,et,e,x,z,h1,h2,h3,h4,h5,h6,n,c,l,rfl,hx,h⟩:=lG (E:=E) (W:=W) h
 have fx:=hm.ob n
 rw[hx] at fx
 have hM:=fx.map
 obtain⟨es,he,hl⟩:=hM.FD
 cases hh:nA k l with
 |false=>
  have hf:=kc (w:=W) h2 (pL (i:=0) hl hh)
  rw[DU hh] at h
  refine aN (d' z W (by simp[Instr.lookup,aT h1,fh he,iE h2,hf,h5,Result.andThen])) ⟨_,B,O,H,E,hK _ h,tu h3 h6,hm,aU.refl _ _,Nat.le_refl _,fun _ _=>rfl,aD.refl _⟩
 |true=>
  obtain⟨j,m,a1,a2,a3,a4,a5,a6,a7⟩:=pM (z:=x) (c:=c) (i:=0) hl hh
  have hf:=kc (w:=W) h2 a1
  refine aN (d' m.val W (by simp[Instr.lookup,aT h1,fh he,iE h2,hf,Result.andThen])) ⟨_,B,O,H,E,hK _ h,tu h3 a5,hm,aU.refl _ _,Nat.le_refl _,fun _ _=>rfl,aD.refl _⟩
theorem Cm {k:Int}:Instr.sameBits 10000 (.int .i64 k) (.int .i64 k)=true:=by
 show Instr.sameBits 10000 (.int .i64 k) (.int .i64 k)=true
 unfold Instr.sameBits
 simp
theorem O3 {t:TypeId} {m k:AV} {vm vk:Value} {ac:Act} {o:Oper} {K:AV→HP→Prop} {Kr:AV→BL→OL→HP→Prop} (hm:aQ W0 w0 X E B O H W) (h:acI cx t m k H K) (vt:aK E W m vm) (zx:aK E W k vk)
 (d':∀v W',(Instr.mapEntry t vm vk).run cx.P W=.ok v W'→(execOp ac.eval o).run cx.P W=.ok (.value v) W') (hK:∀a H,K a H→Kr a B O H):fg cx.P o ac W (vj W0 w0 X E B O H W Kr):=by
 unfold acI at h
 split at h<;>first|exact h.elim|skip
 rename_i v k
 have vt:vm=v:=vt.1
 have zx:vk=.int .i64 k:=zx.1
 subst vt zx
 obtain⟨kt,et,e,x,z,h1,h2,h3,h4,h5,h6,n,c,l,rfl,hx,h⟩:=lG (E:=E) (W:=W) h
 have fx:=hm.ob n
 rw[hx] at fx
 have hM:=fx.map
 obtain⟨es,he,hl⟩:=hM.FD
 cases hh:nA k l with
 |false=>
  have hf:=kc (w:=W) h2 (pL (i:=0) hl hh)
  rw[DU hh,GM hh] at h
  obtain⟨r1,r2,r3⟩:=nW hm hx (c':=c+1) (es':=es.push ⟨.int .i64 k,z,c⟩) (l':=l++[(k,c,x)]) (by rw[Array.toList_push];exact yI hl rfl rfl h6)
  refine aN (d' (.tuple #[z,goInt c]) {W with heap:=W.heap.setIfInBounds n (.map (es.push ⟨.int .i64 k,z,c⟩) (c+1))} (by simp[Instr.mapEntry,aT h1,fh he,iE h2,hf,h5,gM _ he,Result.andThen])) ⟨_,B,O,_,E,hK _ _ h,⟨[z,goInt c],rfl,?_⟩,by unfold acG;rw[hh];exact r1,r2,r3,fun _ _=>rfl,aD.refl _⟩
  exact⟨(tu h3 h6).aL r2,⟨rfl,rfl⟩,trivial⟩
 |true=>
  obtain⟨j,m,a1,a2,a3,a4,a5,a6,a7⟩:=pM (z:=x) (c:=c) (i:=0) hl hh
  rw[Nat.zero_add] at a1
  have hf:=kc (w:=W) h2 a1
  have a2':es[j]?=some m:=by rw[←Array.getElem?_toList];exact a2
  have Jj:(⟨m.key,m.val,m.born⟩:MapEntry)=m:=rfl
  have hes:ot (aG E.w) W e (es.modify j fun e=>{e with key:=.int .i64 k}).toList l:=by
   rw[sA a2,←a3,Jj,GN a2];exact hl
  obtain⟨r1,r2,r3⟩:=nW hm hx (c':=c) hes
  refine aN (d' (.tuple #[m.val,goInt (m.born:Int)]) _ (by simp[Instr.mapEntry,aT h1,fh he,iE h2,hf,a2',a3,Instr.keyThatStays,Cm,gM _ he,Result.andThen])) ⟨_,B,O,_,E,hK _ _ h,⟨[m.val,goInt (m.born:Int)],rfl,?_⟩,by unfold acG;rw[hh];exact r1,r2,r3,fun _ _=>rfl,aD.refl _⟩
  exact⟨(tu h3 a5).aL r2,⟨by rw[←a4];rfl,rfl⟩,trivial⟩
theorem Cn {g:Nat→cw} (hg:v9 E W g) {a:AV} {v:Value} {e:AK} {K:e.T→Prop} (he:e.bd=true) (h1:e.sz=1) (hv:aK E W a v) (h:Vf g a e K):∃x,K x∧bz (aG E.w) W e [v] x:=by
 unfold Vf at h
 split at h<;>first|exact h.elim|skip
 rename_i a
 obtain⟨x,rest,ws,us,e1,k1,k2,k3⟩:=cQ hg (l:=[a]) (vs:=[v]) he (show aX E W [a] [v] from⟨hv,trivial⟩) h
 split at k1<;>first|exact k1.elim|skip
 have:us=[]:=by cases us with|nil=>rfl|cons _ _=>exact k3.elim
 subst this
 rw[List.append_nil] at e1
 exact⟨x,k1,by rw[e1];exact k2⟩
theorem O5 {t:TypeId} {m s y:AV} {vm vs vy:Value} {ac:Act} {o:Oper} {K:HP→Prop} {Kr:AV→BL→OL→HP→Prop} (hm:aQ W0 w0 X E B O H W) (h:acJ cx (aw O) t m s y H K) (vt:aK E W m vm) (EE:aK E W s vs) (hvy:aK E W y vy)
 (d':∀W',(Instr.entryStore t vm vs vy).run cx.P W=.ok () W'→(execOp ac.eval o).run cx.P W=.ok .skip W') (hK:∀H,K H→Kr (.v .jB) B O H):fg cx.P o ac W (vj W0 w0 X E B O H W Kr):=by
 unfold acJ at h
 split at h<;>first|exact h.elim|skip
 rename_i v s
 have vt:vm=v:=vt.1
 have EE:vs=.int .i64 s:=EE.1
 subst vt EE
 obtain⟨kt,et,e,x0,z,h1,h2,h3,h4,h5,h6,h⟩:=lG (E:=E) (W:=W) h
 obtain⟨x,⟨n,c,l,rfl,hx,l',hs,h⟩,hd⟩:=Cn (jt hm) h3 h4 hvy h
 have fx:=hm.ob n
 rw[hx] at fx
 have hM:=fx.map
 obtain⟨es,he,hl⟩:=hM.FD
 obtain⟨j,m,a1,a2,a3⟩:=LW hd hl hs
 have a1':es.findIdx? (fun m=>(m.born:Int)==s)=some j:=by rw[←List.findIdx?_toArray] at a1;exact a1
 obtain⟨r1,r2,r3⟩:=nW hm hx (c':=c) (es':=es.modify j fun e=>{e with val:=vy}) (l':=l') (by rw[sA a2];exact a3)
 exact jF (d' _ (by simp[Instr.entryStore,fh he,asInt,asIntOf,a1',gM _ he,Result.andThen])) ⟨_,B,O,_,E,hK _ h,rfl,r1,r2,r3,fun _ _=>rfl,aD.refl _⟩
theorem O6 {t:TypeId} {m k y:AV} {vm vk vy:Value} {ac:Act} {o:Oper} {K:HP→Prop} {Kr:AV→BL→OL→HP→Prop} (hm:aQ W0 w0 X E B O H W) (h:acK cx (aw O) t m k y H K) (vt:aK E W m vm) (zx:aK E W k vk) (hvy:aK E W y vy)
 (d':∀W',(Instr.mapUpdate t vm vk vy).run cx.P W=.ok () W'→(execOp ac.eval o).run cx.P W=.ok .skip W') (hK:∀H,K H→Kr (.v .jB) B O H):fg cx.P o ac W (vj W0 w0 X E B O H W Kr):=by
 unfold acK at h
 split at h<;>first|exact h.elim|skip
 rename_i v k
 have vt:vm=v:=vt.1
 have zx:vk=.int .i64 k:=zx.1
 subst vt zx
 obtain⟨kt,et,e,x0,z,h1,h2,h3,h4,h5,h6,h⟩:=lG (E:=E) (W:=W) h
 obtain⟨x,⟨n,c,l,rfl,hx,h⟩,hd⟩:=Cn (jt hm) h3 h4 hvy h
 have fx:=hm.ob n
 rw[hx] at fx
 have hM:=fx.map
 obtain⟨es,he,hl⟩:=hM.FD
 cases hh:nA k l with
 |false=>
  have hf:=kc (w:=W) h2 (pL (i:=0) hl hh)
  obtain⟨r1,r2,r3⟩:=nW hm hx (c':=c+1) (es':=es.push ⟨.int .i64 k,vy,c⟩) (l':=l++[(k,c,x)]) (by rw[Array.toList_push];exact yI hl rfl rfl hd)
  exact jF (d' _ (by simp[Instr.mapUpdate,aT h1,fh he,iE h2,hf,gM _ he,Result.andThen])) ⟨_,B,O,_,E,hK _ h,rfl,by unfold acH;rw[hh];exact r1,r2,r3,fun _ _=>rfl,aD.refl _⟩
 |true=>
  obtain⟨j,m,a1,a2,a3,a4,a5,a6,a7⟩:=pM (z:=x) (c:=c) (i:=0) hl hh
  rw[Nat.zero_add] at a1
  have hf:=kc (w:=W) h2 a1
  have a2':es[j]?=some m:=by rw[←Array.getElem?_toList];exact a2
  obtain⟨r1,r2,r3⟩:=nW hm hx (c':=c) (es':=es.modify j fun e=>{e with key:=.int .i64 k,val:=vy}) (l':=J5 k x l) (by rw[sA a2];exact a6 _ _ hd)
  exact jF (d' _ (by simp[Instr.mapUpdate,aT h1,fh he,iE h2,hf,a2',a3,Instr.keyThatStays,Cm,gM _ he,Result.andThen])) ⟨_,B,O,_,E,hK _ h,rfl,by unfold acH;rw[hh];exact r1,r2,r3,fun _ _=>rfl,aD.refl _⟩
theorem O7 {t:TypeId} {m k:AV} {vm vk:Value} {ac:Act} {o:Oper} {RC:Array TypeId} {ty:TypeId} {K:HP→Prop} {Kr:AV→BL→OL→HP→Prop} (hm:aQ W0 w0 X E B O H W) (h:acL cx t m k H K) (vt:aK E W m vm) (zx:aK E W k vk) (dZ:RC[0]?=some t)
 (d':∀v W',(Builtin.delete_ RC ty #[vm,vk]).run cx.P W=.ok v W'→(execOp ac.eval o).run cx.P W=.ok (.value v) W') (hK:∀H,K H→Kr (.v .dead) B O H):fg cx.P o ac W (vj W0 w0 X E B O H W Kr):=by
 unfold acL at h
 split at h<;>first|exact h.elim|skip
 rename_i v k
 have vt:vm=v:=vt.1
 have zx:vk=.int .i64 k:=zx.1
 subst vt zx
 obtain⟨kt,et,e,x,z,h1,h2,h3,h4,h5,h6,n,c,l,rfl,hx,h⟩:=lG (E:=E) (W:=W) h
 have fx:=hm.ob n
 rw[hx] at fx
 have hM:=fx.map
 obtain⟨es,he,hl⟩:=hM.FD
 cases hh:nA k l with
 |false=>
  have hf:=kc (w:=W) h2 (pL (i:=0) hl hh)
  obtain⟨r1,r2,r3⟩:=nW hm hx (c':=c) (es':=es) (l':=Ad k l) (by rw[LU hh];exact hl)
  exact aN (d' (.tuple #[]) _ (by simp[Builtin.delete_,dZ,aT h1,fh he,iE h2,hf,gM _ he,Result.andThen])) ⟨_,B,O,_,E,hK _ h,trivial,r1,r2,r3,fun _ _=>rfl,aD.refl _⟩
 |true=>
  obtain⟨j,m,a1,a2,a3,a4,a5,a6,a7⟩:=pM (z:=x) (c:=c) (i:=0) hl hh
  rw[Nat.zero_add] at a1
  have hf:=kc (w:=W) h2 a1
  obtain⟨r1,r2,r3⟩:=nW hm hx (c':=c) (es':=es.eraseIdxIfInBounds j) (l':=Ad k l) (by simpa using a7)
  exact aN (d' (.tuple #[]) _ (by simp[Builtin.delete_,dZ,aT h1,fh he,iE h2,hf,gM _ he,Result.andThen])) ⟨_,B,O,_,E,hK _ h,trivial,r1,r2,r3,fun _ _=>rfl,aD.refl _⟩
def O8 (E:Env) (b:Nat):Env:={E with w:=fun c=>if c=b then some (.ob b) else E.w c}
theorem RE (hm:aQ W0 w0 X E B O H W) {o:Obj} {k:AK} {x:k.T} (fx:aU E W (O8 E W.heap.size) (W.alloc o)→(∀b,(O8 E W.heap.size).w b=some (.ob W.heap.size)↔b=W.heap.size)→(∀b j,(O8 E W.heap.size).w b≠some (.oo W.heap.size j))→fj (O8 E W.heap.size).w (W.alloc o) W.heap.size (some ⟨k,x⟩)):
 H W.heap.size=none∧aQ W0 w0 X (O8 E W.heap.size) B O (H.set W.heap.size k x) (W.alloc o)∧aU E W (O8 E W.heap.size) (W.alloc o):=by
 have hn:E.w W.heap.size=none:=hm.wf _ (Nat.le_refl _)
 have hH:H W.heap.size=none:=by
  have:=hm.ob W.heap.size
  cases hx:H W.heap.size with
  |none=>rfl
  |some o=>rw[hx] at this;have:=(this.tag _).2 rfl;rw[hn] at this;cases this
 have heap:∀b,b≠W.heap.size→(W.alloc o).heap[b]?=W.heap[b]?:=fun b h=>by rw[heap_alloc,if_neg h]
 have aL:aU E W (O8 E W.heap.size) (W.alloc o):=by
  refine⟨fun b hb hl=>⟨?_,bl.of (heap b (by omega))⟩,fun b hb=>?_,fun i hi=>⟨hi,rfl⟩,fun i hi=>⟨hi,rfl⟩,rfl⟩
  ·show(if b=W.heap.size then _ else _)=none
   rw[if_neg (by omega)];exact hb
  ·have bb:b≠W.heap.size:=fun e=>by rw[e,hn] at hb;cases hb
   exact⟨by show(if b=W.heap.size then _ else _)=_;rw[if_neg bb];exact hb,heap b bb⟩
 have same:∀u:Tag,u≠.ob W.heap.size→kp E.w W (O8 E W.heap.size).w (W.alloc o) u u:=fun u hu b=>by
  by_cases AX:b=W.heap.size
  ·subst AX
   refine⟨⟨fun h=>?_,fun h=>?_⟩,fun h=>?_⟩
   ·have h:(if W.heap.size=W.heap.size then some (Tag.ob W.heap.size) else _)=some u:=h
    rw[if_pos rfl] at h
    injection h with h
    exact absurd h.symm hu
   ·rw[hn] at h;cases h
   ·rw[hn] at h;cases h
  ·refine⟨?_,fun _=>heap b AX⟩
   show(if b=W.heap.size then _ else _)=some u↔_
   rw[if_neg AX]
 have hs:=hm.since
 have ed:=hs.size
 refine⟨hH,⟨fun b hb=>?_,⟨hs.os,hs.tape,hs.output,by rw[jV];omega,fun b hb h=>?_,fun b h=>?_,fun b h=>?_⟩,fun i=>(hm.bx i).bk aL (same _ (by simp)) id,fun k=>(hm.ow k).bk aL (same _ (by simp)) id,fun n=>?_,fun b j=>⟨fun h=>?_,fun h=>?_⟩,hm.ba⟩,aL⟩
 ·rw[jV] at hb
  show(if b=W.heap.size then _ else _)=none
  rw[if_neg (by omega)];exact hm.wf b (by omega)
 ·obtain⟨h1,h2⟩:=hs.im b hb h
  exact⟨by show(if b=W.heap.size then _ else _)=_;rw[if_neg (by omega)];exact h1,(heap b (by omega)).trans h2⟩
 ·obtain⟨h1,h2⟩:=hs.ext b h
  obtain⟨h3,h4⟩:=aL.ex b h1
  exact⟨h3,h4.trans h2⟩
 ·exact hs.jn b ((same .ext (by simp) b).1.1 h)
 ·show fj _ _ _ (if n=W.heap.size then _ else _)
  by_cases vZ:n=W.heap.size
  ·subst vZ
   rw[if_pos rfl]
   have dz:=hm.ob W.heap.size
   rw[hH] at dz
   refine fx aL (fun b=>?_) fun b j hb=>(dz b).2 j ((same _ (by simp) b).1.1 hb)
   show(if b=W.heap.size then _ else _)=_↔_
   by_cases AX:b=W.heap.size
   ·rw[if_pos AX];exact⟨fun _=>AX,fun _=>rfl⟩
   ·rw[if_neg AX];exact⟨fun h=>absurd h (dz b).1,fun h=>absurd h AX⟩
  ·rw[if_neg vZ]
   exact(hm.ob n).bk aL.im (same _ (by simp;exact vZ)) fun j=>same _ (by simp)
 ·exact(hm.clean b j).1 ((same _ (by simp) b).1.1 h)
 ·exact(hm.clean b j).2 ((same _ (by simp) b).1.1 h)
theorem O9 {t:TypeId} {ac:Act} {o:Oper} {K:AV→HP→Prop} {Kr:AV→BL→OL→HP→Prop} (hm:aQ W0 w0 X E B O H W) (h:acM cx t H K)
 (d':∀v W',(Instr.makeMap t none).run cx.P W=.ok v W'→(execOp ac.eval o).run cx.P W=.ok (.value v) W') (hK:∀a H,K a H→Kr a B O H):fg cx.P o ac W (vj W0 w0 X E B O H W Kr):=by
 unfold acM at h
 obtain⟨kt,et,e,x,z,h1,h2,h3,h4,h5,h6,h⟩:=lG (E:=E) (W:=W) h
 obtain⟨r1,r2,r3⟩:=RE hm (o:=.map #[] 0) (k:=.mp e) (x:=(0,[])) fun _ q1 q2=>.inr (.inr ⟨e,0,[],rfl,h3,q1,q2,#[],by rw[heap_alloc,if_pos rfl],trivial⟩)
 exact aN (d' (.map (some W.heap.size)) (W.alloc (.map #[] 0)) (by simp[Instr.makeMap,Result.andThen])) ⟨_,B,O,_,O8 E W.heap.size,hK _ _ (h _ r1),⟨rfl,rfl⟩,r2,r3,by rw[jV];omega,fun _ _=>rfl,aD.refl _⟩
theorem yJ {w:Mk} {tg:Nat→Tag}:∀{k:AK} {j:Nat} {vs:List Value} {x:k.T},il k=true→bz (aG w) W k vs x→dJ w W tg k j vs x
 |.cons a b,j,vs,x,hn,h=>by
  simp only[il,Bool.and_eq_true] at hn
  obtain⟨va,vb,e,h1,h2⟩:=h
  exact⟨va,vb,e,yJ hn.1 h1,yJ hn.2 h2⟩
 |.own _ _,_,_,_,hn,_=>by cases hn
 |.one _,_,_,_,_,h=>h
 |.byte,_,_,_,_,h=>h
 |.ref,_,_,_,_,h=>h
 |.row _,_,_,_,_,h=>h
 |.bQ _,_,_,_,_,h=>h.elim
 |.fn _,_,_,_,_,h=>h
 |.arr _ _,_,_,_,_,h=>h.elim
 |.mp _,_,_,_,_,h=>h.elim
 |.nil,_,_,_,_,h=>h
theorem KR {t:TypeId} {a:AV} {v:Value} {ac:Act} {o:Oper} {K:AV→OL→HP→Prop} {Kr:AV→BL→OL→HP→Prop} (hm:aQ W0 w0 X E B O H W) (h:Ae cx t a O H K) (hv:aK E W a v)
 (d':∀r W',(Instr.box t v).run cx.P W=.ok r W'→(execOp ac.eval o).run cx.P W=.ok (.value r) W') (hK:∀a O H,K a O H→Kr a B O H):fg cx.P o ac W (vj W0 w0 X E B O H W Kr):=by
 unfold Ae at h
 split at h<;>first|exact h.elim|skip
 rename_i ag n k ed hk
 split at h<;>first|exact h.elim|skip
 rename_i us OE hg
 simp only[Bool.and_eq_true] at hg
 obtain⟨E1,m1,p1⟩:=lU us hm
 obtain⟨x,rest,ws,zs,e1,k1,k2,k3⟩:=cQ (jt m1) hg.1 ((nE OE hv).aL p1) h
 split at k1<;>first|exact k1.elim|skip
 have:zs=[]:=by cases zs with|nil=>rfl|cons _ _=>exact k3.elim
 subst this
 rw[List.append_nil] at e1
 obtain⟨r1,r2,r3⟩:=RE m1 (o:=.cells v.cells t) (k:=k) (x:=x) fun pp q1 q2=>.inl ⟨hg.1,q1,fun b j hb=>absurd hb (q2 b j),ws,t,by unfold kU;rw[heap_alloc,if_pos rfl,←e1],yJ hg.2 (k2.aG pp.im hg.1)⟩
 exact aN (d' _ (W.alloc (.cells v.cells t)) (by simp[Instr.box,newVar,newRow])) ⟨_,B,_,_,_,hK _ _ _ (k1 _ r1),rfl,r2,p1.trans r3 (Nat.le_refl _),by rw[jV];omega,fun _ _=>rfl,aD.refl _⟩
end
section
variable {cx:Cx} {W0:World} {w0:Mk} {X:Nat→Prop} {E:Env} {B:BL} {O:OL} {H:HP} {W W' gZ:World} {K:AV→BL→OL→HP→Prop}
theorem fg.efk {o:Oper} {a:Act} {E1:Env} {O1:OL} {H1:HP} (h:fg cx.P o a W (vj W0 w0 X E1 B O1 H1 W K)) (hp:aU E W E1 W):fg cx.P o a W (vj W0 w0 X E B O H W K):=
 h.mono fun _ _ ⟨av,B',O',H',E',h1,h2,h3,h4,h5,h6,h7⟩=>⟨av,B',O',H',E',h1,h2,h3,hp.trans h4 (Nat.le_refl _),h5,h6,h7⟩
theorem YK (O:OL) (a:bA) (k:Nat):aw (lu O a) k=.no↔aw O k=.no:=by
 unfold lu
 split
 ·rename_i q
  split
  ·rename_i ho
   rw[aW]
   grind
  rfl
 ·rename_i q _ _ _
  split
  ·rename_i ho
   rw[aW]
   grind
  rfl
 rfl
theorem LX:∀(l:List bA) (O:OL) {k:Nat},aw (mR O l) k=.no↔aw O k=.no
 |[],O,k=>Iff.rfl
 |a::l,O,k=>(LX l _).trans (YK O a k)
theorem GP:∀(l:List AV) (O:OL) {k:Nat},aw (wL O l) k=.no↔aw O k=.no
 |[],O,k=>Iff.rfl
 |a::l,O,k=>(GP l _).trans (LX _ O)
theorem GQ {v:Value} {g:FuncId} (h:fnV v=some g):v=.func (.func g) #[] #[]:=by
 unfold fnV at h
 grind
theorem TB {a:AV} {v:Value} {g:FuncId} {ns:Option (List Nat)} (h:Vd a=some (g,ns)) (hv:aK E W a v):v=xd g (ns.getD []):=by
 unfold Vd at h
 split at h<;>first|(cases h;done)|skip
 ·split at h<;>first|(cases h;done)|skip
  rename_i g' hg
  injection h with h
  injection h with h1 h2
  subst h1;subst h2
  exact hv.1.trans (GQ hg)
 ·injection h with h
  injection h with h1 h2
  subst h1;subst h2
  exact hv
theorem Co {d:Option Tmp} {c:Call} {f:FuncId} {s:oW} {ns:Option (List Nat)} {ρ:Operand→AV} (h:acD cx d c ρ=some (f,s,ns)):∃x,c.callee=.value x∧Vd (ρ x)=some (f,ns)∧∃fn,cx.P.funcs[f]?=some fn∧fn.body.isSome=true∧¬fn.name= "runtime.NumGoroutine" :=by
 unfold acD at h
 grind
theorem zD {o:Oper} {ρ:Operand→AV} {a:Act} (hm:aQ W0 w0 X E B O H W) (h:qE cx o ρ B O H K) (cL:∀x∈o.op.operands,aK E W (ρ x) (a.eval x)):
 fg cx.P o a W (vj W0 w0 X E B O H W K):=by
 obtain⟨dst,op,type,pos,after,guard⟩:=o
 cases op<;>simp only[qE] at h<;>first|exact h.elim|skip
 case store t x y=>
  refine(Il (cx:=cx) hm h (cL x (by simp[Op.operands])) (cL y (by simp[Op.operands])) fun W' hr=>?_).mono fun v W' ⟨av,B',O',H',E',h1,h2,h3⟩=>⟨av,B',O',H',E',?_,h2,h3⟩
  ·simp[execOp,hr]
  simp_all
 case binOp op t x y yt=>
  split at h<;>first|exact h.elim|skip
  rename_i GR
  split at h<;>first|exact h.elim|skip
  rename_i k a' k' b hx hy
  split at h<;>first|exact h.elim|skip
  rename_i e
  subst e
  have hvx:=cL x (by simp[Op.operands])
  have hvy:=cL y (by simp[Op.operands])
  rw[hx] at hvx
  rw[hy] at hvy
  have ex:a.eval x=.float k' a':=hvx.1
  have ey:a.eval y=.float k' b:=hvy.1
  have zE:Ve op=true:=by
   unfold acF at GR
   grind
  cases hb:J4 op k' a' b with
  |some r=>
   refine aN (W':=W) (v:=.float k' r) ?_ ⟨_,B,O,H,E,h r (by grind),⟨rfl,rfl⟩,hm,aU.refl _ _,Nat.le_refl _,fun _ _=>rfl,aD.refl _⟩
   cases op<;>simp only[Ve] at zE<;>first|(cases zE;done)|skip
   all_goals
    simp only[J4] at hb
    simp[execOp,ex,ey,eqGuard,binOp,Op.floatArith,hb]
  |none=>
   refine aN (W':=W.drew) (v:=.float k' (Question.cut (.nanBits k' a' b) (W.tape W.drawn (.nanBits k' a' b)))) ?_ ⟨_,B,O,H,E,h _ (by grind),⟨rfl,rfl⟩,hm.quiet jW,jW.aL,Nat.le_refl _,fun _ _=>rfl,aD.refl _⟩
   cases op<;>simp only[Ve] at zE<;>first|(cases zE;done)|skip
   all_goals
    simp only[J4] at hb
    simp[execOp,ex,ey,eqGuard,binOp,Op.floatArith,hb,Question.forced]
 case makeSlice t x y=>
  refine KP (cx:=cx) hm h (cL x (by simp[Op.operands])) (cL y (by simp[Op.operands])) fun r W' hr=>?_
  simp[execOp,hr]
 case box t x=>
  refine KR (cx:=cx) hm h (cL x (by simp[Op.operands])) (fun v W' hr=>?_) fun _ _ _ h=>h
  simp[execOp,hr]
 case makeMap t r=>
  cases r with
  |some r=>simp_all
  |none=>exact O9 (cx:=cx) hm h (fun v W' hr=>by simp[execOp,hr]) fun _ _ h=>h
 case lookup t m k ok=>
  cases ok with
  |true=>simp_all
  |false=>exact KQ (cx:=cx) hm h (cL m (by simp[Op.operands])) (cL k (by simp[Op.operands])) (fun v W' hr=>by simp[execOp,hr]) fun _ h=>h
 case mapEntry t m k=>exact O3 (cx:=cx) hm h (cL m (by simp[Op.operands])) (cL k (by simp[Op.operands])) (fun v W' hr=>by simp[execOp,hr]) fun _ _ h=>h
 case entryStore t m s x=>exact O5 (cx:=cx) hm h (cL m (by simp[Op.operands])) (cL s (by simp[Op.operands])) (cL x (by simp[Op.operands])) (fun W' hr=>by simp[execOp,hr]) fun _ h=>h
 case mapUpdate t m k x=>exact O6 (cx:=cx) hm h (cL m (by simp[Op.operands])) (cL k (by simp[Op.operands])) (cL x (by simp[Op.operands])) (fun W' hr=>by simp[execOp,hr]) fun _ h=>h
 case buildSlice t n ps=>
  split at h<;>first|exact h.elim|skip
  rename_i d
  split at h<;>first|exact h.elim|skip
  rename_i fk
  split at h<;>first|exact h.elim|skip
  rename_i et het
  obtain⟨E1,m1,p1⟩:=vg (ps.toList.map fun p=>ρ p.2) hm
  refine(EH (cx:=cx) m1 ?_ het h (fun z hz=>(cL z hz).aL p1) (some d) type pos after guard).efk p1
  exact(GP _ _).2 fk
 case slice t x lo hi mx=>
  cases mx with
  |some m=>simp_all
  |none=>
   simp only at h
   split at h<;>first|exact h.elim|skip
   rename_i d
   split at h<;>first|exact h.elim|skip
   rename_i fk
   split at h<;>first|exact h.elim|skip
   rename_i k hx
   split at h<;>first|exact h.elim|skip
   rename_i e et xs ho
   split at h<;>first|exact h.elim|skip
   rename_i l u hl hu
   split at h<;>first|exact h.elim|skip
   rename_i het
   obtain⟨i,jc⟩:=Option.isSome_iff_exists.1 het.2
   obtain⟨h1,h2,h3,uh,hk⟩:=h
   have hv:=cL x (by simp[Op.operands])
   rw[hx] at hv
   have Wq:=gQ (E:=E) (W:=W) (ev:=a.eval) hl fun y hy=>cL y (by subst hy;simp[Op.operands])
   have Gw:=gQ (E:=E) (W:=W) (ev:=a.eval) hu fun y hy=>cL y (by subst hy;simp[Op.operands])
   refine OU (cx:=cx) hm fk ho het.1 hv Wq Gw uh h2 h3 jc (by simp_all) fun r W' hr=>?_
   exact Ja hr
 case call c=>
  have ly:∀z∈c.args,aK E W (ρ z) (a.eval z):=fun z hz=>cL z (by simp only[Op.operands,Call.operands];grind)
  split at h
  ·rename_i tq
   split at h<;>first|exact h.elim|skip
   rename_i t1 t2 x y RF ED
   split at h<;>first|exact h.elim|skip
   rename_i ht
   obtain⟨rfl,hty⟩:=ht
   have xY:c.args=#[x,y]:=by grind
   have FO:c.argTypes=#[t1,t1]:=by grind
   have hty:type=t1:=hty
   subst hty
   refine EG (cx:=cx) hm h (ly x (by simp_all)) (ly y (by simp_all)) fun r W' hr=>?_
   obtain⟨callee,args,RC⟩:=c
   simp only at xY FO tq
   subst xY FO tq
   simp[execOp,resolve,invoke,builtin,hr]
  ·rename_i tq
   split at h<;>first|exact h.elim|skip
   rename_i t ts m k RF ED
   have xY:c.args=#[m,k]:=by grind
   have FO:c.argTypes[0]?=some t:=by rw[←Array.getElem?_toList,RF];rfl
   refine O7 (cx:=cx) (ty:=type) hm h (ly m (by simp_all)) (ly k (by simp_all)) FO (fun r W' hr=>?_) fun _ h=>h
   obtain⟨callee,args,RC⟩:=c
   simp only at xY tq hr
   subst xY tq
   simp[execOp,resolve,invoke,builtin,hr]
  ·split at h<;>first|simp_all|skip
   rename_i f s FN
   split at h<;>first|exact h.elim|skip
   rename_i hg
   simp only[Bool.and_eq_true] at hg
   obtain⟨x0,Ws,hfx,fn,Ep,hb,hn⟩:=Co FN
   have hv:=cL x0 (by simp only[Op.operands,Call.operands,Ws];simp)
   exact Im hm ⟨x0,Ws,TB hfx hv,fn,Ep,hb,hn⟩ hg.1.1 hg.1.2 hg.2 dst type pos after guard (Tq h) ly
end
def cn (g g':Nat→cw):Prop:=∀k,g' k=g k∨∃e t xs,g k=.own e t xs∧g' k=.jC e xs
theorem cn.refl (g:Nat→cw):cn g g:=fun _=>.inl rfl
theorem cn.trans {g g' g'':Nat→cw} (h:cn g g') (k:cn g' g''):cn g g'':=fun q=>by
 rcases h q with h1|⟨e,t,xs,h1,h2⟩
 ·rw[←h1];exact k q
 ·rcases k q with h3|⟨e',t',xs',h3,h4⟩
  all_goals grind
theorem YL (O:OL) (a:bA):cn (aw O) (aw (lu O a)):=by
 have go:∀k e t xs,aw O k=.own e t xs→cn (aw O) (aw (dw O k (.jC e xs))):=fun k e t xs ho q=>by
  rw[aW]
  grind
 unfold lu
 split
 ·split
  ·simp_all
  ·exact cn.refl _
 ·split
  ·simp_all
  ·exact cn.refl _
 ·exact cn.refl _
theorem DV:∀(l:List bA) (O:OL),cn (aw O) (aw (mR O l))
 |[],O=>cn.refl _
 |a::l,O=>(YL O a).trans (DV l _)
theorem GS:∀(l:List AV) (O:OL),cn (aw O) (aw (wL O l))
 |[],O=>cn.refl _
 |a::l,O=>(DV _ O).trans (GS l _)
theorem yK:∀(ps:List (Bool×AK)) (l:List AV) (O:OL),cn (aw O) (aw (At O ps l))
 |[],_,O=>cn.refl _
 |_::_,[],O=>cn.refl _
 |p::ps,a::l,O=>by
  simp only[At]
  split
  ·exact yK ps l O
  ·exact(DV _ O).trans (yK ps l _)
theorem TC (cx:Cx) (o:Oper) (ρ:Operand→AV) (O:OL):cn (aw O) (aw (rT cx o ρ O)):=by
 unfold rT
 split
 ·exact GS _ _
 ·split
  ·exact cn.refl _
  ·split
   ·exact cn.refl _
   ·exact yK _ _ _
 ·exact cn.refl _
theorem nX {g g':Nat→cw} (h:cn g g') {k:Nat} {e:AK} {t:Nat} {xs:List e.T} (ho:g k=.own e t xs):g' k=.own e t xs∨g' k=.jC e xs:=by
 rcases h k with h1|⟨e',t',xs',h1,h2⟩
 all_goals simp_all
theorem kQ {g g':Nat→cw} (h:cn g g') {k:Nat} {e:AK} {xs:List e.T} (ho:g k=.jC e xs):g' k=.jC e xs:=by
 rcases h k with h1|⟨e',t',xs',h1,h2⟩
 all_goals simp_all
section
variable {cx:Cx} {g g':Nat→cw} {K:AV→Prop}
theorem Io {a:AV} (h:lenOf g a K) (hg:rr a=true→cn g g'):lenOf g' a K:=by
 unfold lenOf at h⊢
 split at h<;>first|omega|omega|skip
 rename_i k
 have hg:=hg rfl
 try simp only
 split at h<;>first|exact h.elim|skip
 ·rename_i ho
  rcases nX hg ho with h1|h1<;>rw[h1]<;>exact h
 ·rename_i ho
  rw[kQ hg ho];omega
theorem Ip {ek:Option AK} {n:Nat} {a i:AV} (h:idxOf g ek n a i K) (hg:rr a=true→cn g g'):idxOf g' ek n a i K:=by
 unfold idxOf at h⊢
 split at h<;>first|exact h.elim|skip
 try simp only
 split at h<;>first|omega|omega|skip
 rename_i k
 have hg:=hg rfl
 try simp only
 split at h<;>first|exact h.elim|skip
 ·rename_i ho
  rcases nX hg ho with h1|h1<;>rw[h1]<;>exact h
 ·rename_i ho
  rw[kQ hg ho];omega
theorem Iq {n:Nat} {a:AV} {lo hi:Option AV} (h:tV g n a lo hi K) (hg:rr a=true→cn g g'):tV g' n a lo hi K:=by
 unfold tV at h⊢
 split at h<;>first|omega|skip
 try simp only
 split at h<;>first|omega|omega|skip
 rename_i k
 have hg:=hg rfl
 try simp only
 split at h<;>first|exact h.elim|skip
 ·rename_i ho
  rcases nX hg ho with h1|h1<;>rw[h1]<;>exact h
 ·rename_i ho
  rw[kQ hg ho];omega
theorem Bf {a:AV} {xs:List UInt8} (h:bytesOf g a=some xs) (hg:rr a=true→cn g g'):bytesOf g' a=some xs:=by
 unfold bytesOf at h⊢
 split at h<;>first|omega|omega|skip
 rename_i k
 have hg:=hg rfl
 try simp only
 split at h<;>first|(cases h;done)|skip
 ·rename_i ho
  rcases nX hg ho with h1|h1<;>rw[h1]<;>exact h
 ·rename_i ho
  rw[kQ hg ho];omega
theorem Ir {s d:TypeId} {x:Operand} {ρ mU:Operand→AV} (h:tW cx g s d x ρ mU K) (hg:rr (ρ x)=true→cn g g'):tW cx g' s d x ρ mU K:=by
 unfold tW at h⊢
 split
 ·simp_all
 ·rename_i e hs
  rw[hs] at h
  simp only at h⊢
  split at h<;>first|exact h.elim|skip
  rename_i he
  split at h<;>first|exact h.elim|skip
  ·rename_i hd
   split at h<;>first|exact h.elim|skip
   rename_i xs hx
   rw[Bf hx hg];omega
  omega
 simp_all
def GU:bA→Bool
 |.own _=>true
 |.part _ _ _ _=>true
 |_=>false
theorem YM (l:List bA):rr (.agg l)=l.any GU:=by
 rfl
theorem Is {a:bA}:∀{k:AK} {Kr:k.T→Prop},cZ g a k Kr→(GU a=true→cn g g')→cZ g' a k Kr:=by
 intro k Kr h hg
 cases k<;>unfold cZ at h⊢<;>first|omega|skip
 ·simp only at h⊢
  split at h<;>first|omega|omega|skip
  ·rename_i q
   have hg:=hg rfl
   try simp only
   split at h<;>first|exact h.elim|skip
   rename_i ho
   rw[kQ hg ho];omega
  ·rename_i q _ _ _
   have hg:=hg rfl
   try simp only
   split at h<;>first|exact h.elim|skip
   rename_i ho
   rw[kQ hg ho];omega
 ·simp only at h⊢
  split at h<;>first|omega|omega|skip
  ·rename_i q
   have hg:=hg rfl
   try simp only
   split at h<;>first|exact h.elim|skip
   ·rename_i ho
    rw[kQ hg ho];omega
   ·rename_i ho
    rcases nX hg ho with h1|h1<;>rw[h1]<;>exact h
  ·rename_i q _ _ _
   have hg:=hg rfl
   try simp only
   split at h<;>first|exact h.elim|skip
   ·rename_i ho
    rw[kQ hg ho];omega
   ·rename_i ho
    rcases nX hg ho with h1|h1<;>rw[h1]<;>exact h
theorem KS {a:bA}:∀{k:K1} {Kr gm:k.T→Prop},rP a k Kr→(∀x,Kr x→gm x)→rP a k gm:=by
 intro k Kr gm h hk
 cases k<;>unfold rP at h⊢<;>simp only at h⊢<;>repeat' grind
 all_goals first|exact h.elim|exact hk _ h
theorem KT {a:bA}:∀{k:AK} {Kr gm:k.T→Prop},cZ g a k Kr→(∀x,Kr x→gm x)→cZ g a k gm:=by
 intro k Kr gm h hk
 cases k<;>unfold cZ at h⊢<;>simp only at h⊢<;>repeat' (split at h<;>first|grind|grind|exact⟨h.1,h.2.1,hk _ h.2.2⟩|skip)
 all_goals first|exact h.elim|exact hk _ h|exact KS h hk|simp_all
theorem qu:∀{k:AK} {l:List bA} {Kr gm:k.T→List bA→Prop},jU g k l Kr→(l.any GU=true→cn g g')→(∀x r,(r.any GU=true→l.any GU=true)→Kr x r→gm x r)→jU g' k l gm:=by
 have one:∀{k:AK} {a:bA} {r:List bA} {Kr gm:k.T→List bA→Prop},cZ g a k (fun x=>Kr x r)→((a::r).any GU=true→cn g g')→(∀x r',(r'.any GU=true→(a::r).any GU=true)→Kr x r'→gm x r')→cZ g' a k (fun x=>gm x r):=fun{k a r Kr gm} h hg hk=>by
  have h1:=Is (Kr:=fun x=>Kr x r) h fun ha=>hg (by grind)
  exact KT h1 fun x hx=>hk x r (fun hr=>by grind) hx
 intro k
 induction k with
 |nil=>intro l Kr gm h hg hk;exact hk _ _ id h
 |cons a b Jh Ji=>
  intro l Kr gm h hg hk
  exact Jh h hg fun x r hr hx=>Ji hx (fun h'=>hg (hr h')) fun y r' mw hy=>hk _ _ (fun h'=>hr (mw h')) hy
 |one k=>intro l Kr gm h hg hk;cases l with|nil=>exact h.elim|cons a r=>exact one (k:=.one k) (Kr:=Kr) (gm:=gm) h hg hk
 |byte=>intro l Kr gm h hg hk;cases l with|nil=>exact h.elim|cons a r=>exact one (k:=.byte) (Kr:=Kr) (gm:=gm) h hg hk
 |ref=>intro l Kr gm h hg hk;cases l with|nil=>exact h.elim|cons a r=>exact one (k:=.ref) (Kr:=Kr) (gm:=gm) h hg hk
 |row e=>intro l Kr gm h hg hk;cases l with|nil=>exact h.elim|cons a r=>exact one (k:=.row e) (Kr:=Kr) (gm:=gm) h hg hk
 |bQ e=>intro l Kr gm h hg hk;cases l with|nil=>exact h.elim|cons a r=>exact one (k:=.bQ e) (Kr:=Kr) (gm:=gm) h hg hk
 |fn f=>intro l Kr gm h hg hk;cases l with|nil=>exact h.elim|cons a r=>exact one (k:=.fn f) (Kr:=Kr) (gm:=gm) h hg hk
 |arr e t=>intro l Kr gm h hg hk;exact h.elim
 |mp e=>intro l Kr gm h hg hk;exact h.elim
 |own e t=>intro l Kr gm h hg hk;exact h.elim
theorem Cp {ag:Bool} {a:AV} {cs:List bA} (h:jo ag a=some cs) (hr:cs.any GU=true):rr a=true:=by
 unfold jo at h
 split at h
 ·split at h<;>first|(cases h;done)|skip
  injection h with h
  subst h
  rw[YM];omega
 ·grind
 ·grind
 ·split at h<;>first|(cases h;done)|skip
  injection h with h
  subst h
  rename_i a _ _ _
  simp at hr
  cases a<;>simp[GU] at hr<;>rfl
 simp_all
theorem zF {ρ:Operand→AV} {ag:Bool} {k:AK}:∀{ps:List (Nat×Operand)} {i:Nat} {Kr gm:List k.T→Prop},u0 g ρ ag k i ps Kr→((ps.any fun p=>rr (ρ p.2))=true→cn g g')→(∀x,Kr x→gm x)→u0 g' ρ ag k i ps gm
 |[],i,Kr,gm,h,_,hk=>hk _ h
 |(j,x)::r,i,Kr,gm,h,hg,hk=>by
  unfold u0 at h⊢
  split at h<;>first|exact h.elim|skip
  rename_i GO
  rw[if_pos GO]
  split at h<;>first|omega|skip
  rename_i cs gU
  try simp only[gU]
  refine qu h (fun hr=>hg (by simp[Cp gU hr])) fun y rest _ hy=>?_
  split at hy<;>first|exact hy.elim|skip
  exact zF hy (fun hr=>hg (by simp_all)) fun ys=>hk _
theorem Iu {t:TypeId} {n:Nat} {ps:List (Nat×Operand)} {ρ:Operand→AV} {Kr:(k:AK)→List k.T→Prop} (h:oL cx g t n ps ρ Kr) (hg:(ps.any fun p=>rr (ρ p.2))=true→cn g g'):oL cx g' t n ps ρ Kr:=by
 unfold oL at h⊢
 split at h<;>first|omega|skip
 rename_i h1;try simp only[h1]
 split at h<;>first|omega|skip
 rename_i h2;try simp only[h2]
 split at h<;>first|omega|skip
 rename_i h3;try simp only[h3]
 split at h<;>first|exact h.elim|skip
 rename_i h4;rw[if_pos h4]
 exact zF h hg fun _=>id
theorem wg:∀{ps:List (Bool×AK)} {l:List AV} {Kr gm:HT ps→Prop},mE g ps l Kr→(l.any rr=true→cn g g')→(∀x,Kr x→gm x)→mE g' ps l gm
 |[],[],Kr,gm,h,_,hk=>hk _ h
 |[],_::_,_,_,h,_,_=>h.elim
 |_::_,[],_,_,h,_,_=>h.elim
 |p::r,a::l,Kr,gm,h,hg,hk=>by
  unfold mE at h⊢
  simp only at h⊢
  split at h<;>first|omega|skip
  rename_i cs gU
  try simp only[gU]
  refine qu h (fun hr=>hg (by simp[Cp gU hr])) fun y rest _ hy=>?_
  split at hy<;>first|exact hy.elim|skip
  exact wg hy (fun hr=>hg (by simp_all)) fun ys=>hk _
end
theorem EI {cx:Cx} {gB gB':Nat→jm} {g g':Nat→cw} {H H':HP} {t:TypeId} {a:AV} {K:AV→Prop} (h:nw cx gB g H t a K)
 (hb:∀i j,a=.v (.bx i j)→gB i=.no∨gB' i=gB i) (hg:(∃k z i j,a=.v (.o4 k z i j))→cn g g') (hh:((∃m k j,a=.v (.op m k j))∨∃e p j,a=.v (.tT e p j))→H'=H):nw cx gB' g' H' t a K:=by
 unfold nw at h⊢
 split at h<;>first|omega|skip
 rename_i h1;try simp only[h1]
 split at h<;>first|exact h.elim|exact h|skip
 ·grind
 ·rename_i k z i j
  have hg:=hg ⟨k,z,i,j,rfl⟩
  split at h<;>first|exact h.elim|skip
  ·rename_i ho
   rcases nX hg ho with h1|h1<;>rw[h1]<;>exact h
  ·rename_i ho
   rw[kQ hg ho];omega
 all_goals simp_all
theorem Iv {cx:Cx} {o:Oper} {ρ mU:Operand→AV} {gB gB':Nat→jm} {g g':Nat→cw} {H H':HP} {K:AV→Prop} (h:pX cx o ρ mU gB g H K)
 (hb:∀i∈(kq cx o ρ).b,gB i=.no∨gB' i=gB i) (hg:(kq cx o ρ).o=true→cn g g') (hh:(kq cx o ρ).h=true→H'=H):pX cx o ρ mU gB' g' H' K:=by
 obtain⟨dst,op,type,pos,after,guard⟩:=o
 cases op<;>simp only[kq] at hb hg hh<;>simp only[pX] at h⊢<;>first|omega|skip
 case indexAddr t x i=>
  split at h<;>first|exact h.elim|skip
  rename_i h1;try simp only[h1]
  split at h<;>first|exact h.elim|skip
  rename_i h2;try simp only[h2]
  exact Ip h hg
 case convert s d x=>exact Ir h hg
 case slice t x lo hi mx=>
  cases mx with
  |some m=>omega
  |none=>
   simp only at h⊢
   split at h<;>first|exact h.elim|skip
   rename_i h1;try simp only[h1]
   split at h<;>first|exact h.elim|skip
   rename_i h2;try simp only[h2]
   exact Iq h hg
 case load t a=>
  refine EI h (fun i j ha=>hb i (by simp_all)) (fun⟨k,z,i,j,ha⟩=>hg (by grind)) fun ha=>hh (by grind)
 case buildSlice t n ps=>exact Iu h hg
 case call c=>
  split at h
  ·rename_i hc
   try simp only[hc]
   split at h<;>first|exact h.elim|skip
   rename_i x hx
   try simp only[hx]
   split at h<;>first|exact h.elim|skip
   rename_i t ht
   try simp only[ht]
   split at h<;>first|exact h.elim|skip
   ·rename_i e hu
    exact Io h fun hr=>hg (by simp_all)
   omega
  ·omega
  ·rename_i hc
   split at h<;>first|omega|skip
   ·rename_i f s hs
    simp only[hs] at hh⊢
    refine wg h (fun hr=>hg (by simp_all)) fun xs hx=>?_
    grind
theorem oy {cx:Cx} {o:Oper} {ρ ρ':Operand→AV} (h:∀x∈o.op.operands,ρ x=ρ' x):kq cx o ρ=kq cx o ρ':=by
 obtain⟨dst,op,type,pos,after,guard⟩:=o
 cases op<;>simp only[kq]<;>first|rfl|skip
 case load t a=>rw[h a (by simp[Op.operands])]
 case indexAddr t x i=>rw[h x (by simp[Op.operands])]
 case slice t x lo hi mx=>rw[h x (by simp[Op.operands])]
 case convert s d x=>rw[h x (by simp[Op.operands])]
 case buildSlice t n ps=>
  have:(ps.toList.any fun p=>rr (ρ p.2))=ps.toList.any fun p=>rr (ρ' p.2):=by
   have:∀p∈ps.toList,rr (ρ p.2)=rr (ρ' p.2):=fun p hp=>by rw[h p.2 (by simp only[Op.operands];grind)]
   grind
  grind
 case call c=>
  have:(c.args.toList.any fun x=>rr (ρ x))=c.args.toList.any fun x=>rr (ρ' x):=by
   have:∀x∈c.args.toList,rr (ρ x)=rr (ρ' x):=fun x hx=>by rw[h x (by simp only[Op.operands,Call.operands];simp_all)]
   grind
  grind
theorem KU {g:Nat→cw} {k:AK} {l:List bA} {Kr gm:k.T→List bA→Prop} (h:jU g k l Kr) (hk:∀x r,Kr x r→gm x r):jU g k l gm:=qu h (fun _=>cn.refl _) fun x r _=>hk x r
theorem sB {g:Nat→cw} {e:AK} {a:AV} {Kr gm:List e.T→Prop} (h:tY g e a Kr) (hk:∀x,Kr x→gm x):tY g e a gm:=by
 unfold tY at h⊢
 repeat' (split at h<;>first|grind|grind|skip)
 all_goals simp_all
theorem O_ {cx:Cx} {d:Option Tmp} {t:TypeId} {l c:AV} {B:BL} {O:OL} {H:HP} {K:AV→BL→OL→HP→Prop} (h:ny cx d t l c B O H K):ny cx d t l c B O H fun a B' O' H'=>K a B' O' H'∧B'=B∧H'=H:=by
 unfold ny at h⊢
 simp_all
theorem Iw {cx:Cx} {d:Option Tmp} {t:TypeId} {a b:AV} {B:BL} {O:OL} {H:HP} {K:AV→BL→OL→HP→Prop} (h:iW cx d t a b B O H K):iW cx d t a b B O H fun a B' O' H'=>K a B' O' H'∧B'=B∧H'=H:=by
 unfold iW at h⊢
 simp_all
theorem Ix {cx:Cx} {d:Option Tmp} {t:TypeId} {l c:AV} {B:BL} {O:OL} {H:HP} {K K':AV→BL→OL→HP→Prop} (h:ny cx d t l c B O H K) (hk:∀a B O H,K a B O H→K' a B O H):ny cx d t l c B O H K':=by
 unfold ny at h⊢
 split at h<;>first|omega|skip
 split at h<;>first|omega|skip
 split at h<;>first|exact h.elim|skip
 split at h<;>first|exact h.elim|skip
 split at h<;>first|exact h.elim|skip
 rename_i h3;try rw[if_pos h3]
 split at h<;>first|exact h.elim|skip
 refine KU h fun x r hx=>?_
 split at hx<;>first|exact hx.elim|skip
 obtain⟨h1,h2,h3,h4,h5⟩:=hx
 exact⟨h1,h2,h3,h4,hk _ _ _ _ h5⟩
theorem Bg {cx:Cx} {d:Option Tmp} {t:TypeId} {a b:AV} {B:BL} {O:OL} {H:HP} {K K':AV→BL→OL→HP→Prop} (h:iW cx d t a b B O H K) (hk:∀a B O H,K a B O H→K' a B O H):iW cx d t a b B O H K':=by
 unfold iW at h⊢
 split at h<;>first|omega|skip
 split at h<;>first|omega|skip
 split at h<;>first|exact h.elim|skip
 split at h<;>first|exact h.elim|skip
 split at h<;>first|exact h.elim|skip
 rename_i h3;try rw[if_pos h3]
 split at h<;>first|exact h.elim|skip
 ·split at h<;>first|exact h.elim|skip
  split at h<;>first|exact h.elim|skip
  rename_i h4;try rw[if_pos h4]
  split at h<;>first|exact h.elim|skip
  exact sB h fun ys hy=>⟨hy.1,hk _ _ _ _ hy.2⟩
 ·exact sB h fun ys hy=>⟨hy.1,hk _ _ _ _ hy.2⟩
 ·exact⟨h.1,sB h.2 fun ys hy=>⟨hy.1,hk _ _ _ _ hy.2⟩⟩
theorem KV {cx:Cx} {t:TypeId} {a x:AV} {B:BL} {O:OL} {H:HP} {K:BL→OL→HP→Prop} (fx:(match a with|.v (.op _ _ _)=>true|.v (.tT _ _ _)=>true|_=>false)=true) (h:kO cx t a x B O H K):kO cx t a x B O H fun B' O' H'=>K B' O' H'∧B'=B:=by
 unfold kO at h⊢
 split at h<;>first|omega|skip
 grind
theorem YN {cx:Cx} {o:Oper} {ρ:Operand→AV} {B:BL} {O:OL} {H:HP} {K:AV→BL→OL→HP→Prop} (fx:J' o ρ=true) (h:qE cx o ρ B O H K):qE cx o ρ B O H fun a B' O' H'=>K a B' O' H'∧(false=false→B'=B)∧(true=false→H'=H):=by
 obtain⟨dst,op,type,pos,after,guard⟩:=o
 cases op<;>simp only[J'] at fx<;>first|simp_all|skip
 case store t a x=>
  have h1:=KV fx h
  simp only[qE]
  simp_all
theorem KW {cx:Cx} {t:TypeId} {a x:AV} {B:BL} {O:OL} {H:HP} {K:BL→OL→HP→Prop} (fx:(match a with|.v (.bx _ _)=>true|_=>false)=true) (h:kO cx t a x B O H K):kO cx t a x B O H fun B' O' H'=>K B' O' H'∧H'=H:=by
 unfold kO at h⊢
 split at h<;>first|omega|skip
 grind
theorem YO {cx:Cx} {o:Oper} {ρ:Operand→AV} {B:BL} {O:OL} {H:HP} {K:AV→BL→OL→HP→Prop} (fx:Ka o ρ=true) (h:qE cx o ρ B O H K):qE cx o ρ B O H fun a B' O' H'=>K a B' O' H'∧(true=false→B'=B)∧(false=false→H'=H):=by
 obtain⟨dst,op,type,pos,after,guard⟩:=o
 cases op<;>simp only[Ka] at fx<;>first|simp_all|skip
 case store t a x=>
  have h1:=KW fx h
  simp only[qE]
  simp_all
theorem YP {cx:Cx} {o:Oper} {ρ:Operand→AV} {B:BL} {O:OL} {H:HP} {K:AV→BL→OL→HP→Prop} (h:qE cx o ρ B O H K):
 qE cx o ρ B O H fun a B' O' H'=>K a B' O' H'∧((FG cx o).b=false→B'=B)∧((FG cx o).h=false→H'=H):=by
 obtain⟨dst,op,type,pos,after,guard⟩:=o
 cases op<;>simp only[FG]<;>simp only[qE] at h⊢<;>first|exact h.elim|skip
 case store t a x=>simp_all
 case binOp op t x y yt=>
  simp_all
 case makeSlice t l c=>
  exact Ix (O_ h) fun a B' O' H' hk=>⟨hk.1,fun _=>hk.2.1,fun _=>hk.2.2⟩
 case box t x=>simp_all
 case makeMap t r=>
  grind
 case lookup t m k ok=>
  grind
 case mapEntry t m k=>simp_all
 case entryStore t m s x=>simp_all
 case mapUpdate t m k x=>simp_all
 case buildSlice t n ps=>
  simp_all
 case slice t x lo hi mx=>
  grind
 case call c=>
  split at h
  ·rename_i hc
   split at h<;>first|exact h.elim|skip
   split at h<;>first|exact h.elim|skip
   rename_i h4;try rw[if_pos h4]
   exact Bg (Iw h) fun a B' O' H' hk=>⟨hk.1,fun _=>hk.2.1,fun _=>hk.2.2⟩
  ·simp_all
  ·rename_i hc
   split at h<;>first|omega|skip
   rename_i f s hs
   obtain⟨x0,tq,_⟩:=Co hs
   simp_all
theorem DW {a b:Nat}:Nat.blt a b=true↔a<b:=by simp
theorem RG {a b:Nat}:Nat.blt a b=false↔¬a<b:=by
 cases h:Nat.blt a b with
 |true=>simp_all
 |false=>exact⟨fun _ e=>(by rw[DW.2 e] at h;grind),fun _=>rfl⟩
theorem mz {f:FA} {t:Nat} (h:t<f.length):cC f t=f.g t:=by
 have:Nat.blt t f.n=true:=DW.2 h
 unfold cC;grind
theorem lW (f:FA) {t:Nat} (h:f.length≤t):cC f t=.v .dead:=by
 have:Nat.blt t f.n=false:=RG.2 (Nat.not_lt.2 h)
 unfold cC;grind
theorem m_ (f:FA) {d:Nat} (a:AV) (h:f.length≤d):gE f d a=f:=by
 obtain⟨n,g⟩:=f
 have:Nat.blt d n=false:=RG.2 (Nat.not_lt.2 h)
 unfold gE;simp_all
theorem DX (f:FA) {d:Nat} (a:AV) (h:d<f.length):gE f d a=⟨f.n,fun t=>match Nat.beq d t with|true=>a|false=>f.g t⟩:=by
 obtain⟨n,g⟩:=f
 have:Nat.blt d n=true:=DW.2 h
 unfold gE;grind
theorem lX (f:FA) (d:Nat) (a:AV):(gE f d a).length=f.length:=by
 by_cases h:d<f.length
 ·rw[DX f a h];rfl
 ·rw[m_ f a (Nat.le_of_not_lt h)]
theorem ke (f:FA) (d:Nat) (a:AV) (t:Nat):cC (gE f d a) t=if d=t∧t<f.length then a else cC f t:=by
 by_cases ht:t<f.length
 ·rw[mz (by rw[lX];omega),mz ht]
  by_cases hd:d<f.length
  ·rw[DX f a hd]
   by_cases e:d=t
   ·simp_all
   ·have:Nat.beq d t=false:=by cases h:Nat.beq d t with|false=>rfl|true=>simp_all
    simp_all
  ·rw[m_ f a (Nat.le_of_not_lt hd),if_neg (fun h=>by omega)]
 ·rw[lW _ (by rw[lX];omega),lW _ (Nat.le_of_not_lt ht),if_neg (fun h=>ht h.2)]
theorem vu (f:FA) (d:Nat) {a:AV} (h:cC f d=a):gE f d a=f:=by
 by_cases hd:d<f.length
 ·rw[DX f a hd]
  rw[mz hd] at h
  obtain⟨n,g⟩:=f
  congr 1
  funext t
  split
  all_goals simp_all
 ·exact m_ f a (Nat.le_of_not_lt hd)
theorem yL (f:FA) (d:Option Tmp) (a:AV):(dX f d a).length=f.length:=by
 cases d with
 |none=>rfl
 |some t=>exact lX f t a
theorem TD (l:List Value) (d:Nat) (v:Value) (t:Nat):dM (jJ l d v) t=if d=t∧t<l.length then v else dM l t:=by
 rw[nY,nY,DY]
 grind
theorem TE (l:Fr) (d:Option Tmp) (v:Value):(iF l d v).length=l.length:=by
 cases d with
 |none=>rfl
 |some t=>exact Iy l t v
def rY (E:Env) (W:World) (D:Nat→Prop) (f:FA) (l:Fr):Prop:=f.length=l.length∧∀t,¬D t→aK E W (cC f t) (dM l t)
theorem rY.aL {E E':Env} {W W':World} {D:Nat→Prop} {f:FA} {l:Fr} (h:rY E W D f l) (hp:aU E W E' W'):rY E' W' D f l:=⟨h.1,fun t ht=>(h.2 t ht).aL hp⟩
theorem rY.put {E:Env} {W:World} {D D':Nat→Prop} {f:FA} {l:Fr} (h:rY E W D f l) {d:Option Tmp} {a:AV} {v:Value} (hv:aK E W a v) (hD:∀t,¬D' t→¬D t∨d=some t):rY E W D' (dX f d a) (iF l d v):=by
 refine⟨by rw[yL,TE];exact h.1,fun t ht=>?_⟩
 cases d with
 |none=>
  rcases hD t ht with h1|h1
  ·exact h.2 t h1
  simp_all
 |some d=>
  show aK E W (cC (gE f d a) t) (dM (jJ l d v) t)
  rw[ke,TD]
  by_cases h1:d=t∧t<f.length
  ·rw[if_pos h1,if_pos ⟨h1.1,by rw[←h.1];omega⟩];omega
  ·rw[if_neg h1,if_neg (fun h2=>h1 ⟨h2.1,by rw[h.1];omega⟩)]
   rcases hD t ht with h2|h2
   ·exact h.2 t h2
   ·injection h2 with h2
    have:¬t<f.length:=fun h3=>h1 ⟨h2,h3⟩
    rw[lW f (by omega)];trivial
def dq (W0:World) (w0:Mk) (s:St) (l:Fr) (W:World):Prop:=∃E,aQ W0 w0 (fun _=>False) E s.B s.O s.H W∧rY E W (fun _=>False) s.f l
section
variable {cx:Cx} {W0:World} {w0:Mk} {X:Nat→Prop} {E:Env} {B:BL} {O:OL} {H:HP} {W W' gZ:World}
theorem rD (hm:aQ W0 w0 X E B O H W) {f:FA} {l:Fr} {x:Operand} (h:∀t,x=.tmp t→aK E W (cC f t) (dM l t)):aK E W (jE f (aB B) x) ((az l).eval x):=by
 rw[kf]
 cases x with
 |tmp t=>exact nU hm (h t rfl)
 |const v=>exact p6 v
 |global g=>rfl
 |func f=>exact⟨rfl,rfl⟩
theorem DZ (hm:aQ W0 w0 X E B O H W) {f:FA} {l:Fr} {x:Operand} (h:∀t,x=.tmp t→aK E W (cC f t) (dM l t)):aK E W ((fun x=>match x with|.tmp t=>cC f t|x=>jE f (aB B) x) x) ((az l).eval x):=by
 cases x with
 |tmp t=>rw[kf];exact h t rfl
 |const v=>exact rD hm h
 |global g=>rfl
 |func f=>exact rD hm h
theorem aQ.gn {X':Nat→Prop} (hm:aQ W0 w0 X E B O H W) (h:∀i,(∃nm cs,aB B i=.bx nm cs)→(X i↔X' i)):aQ W0 w0 X' E B O H W:=by
 refine⟨hm.wf,hm.since,fun i=>?_,hm.ow,hm.ob,hm.clean,hm.ba⟩
 have hb:=hm.bx i
 cases hi:aB B i with
 |no=>rw[hi] at hb;exact hb
 |closed n k=>rw[hi] at hb;exact hb
 |bx nm cs=>
  rw[hi] at hb
  have:=h i ⟨nm,cs,hi⟩
  exact⟨fun hx=>hb.1 (this.2 hx),fun hx=>hb.2 fun h=>hx (this.1 h)⟩
theorem agk {op:Op} {ρ:Operand→AV} {a:Act} {cs:List bA} (h:sS cx op ρ=some cs) (cL:∀x∈op.operands,aK E W (ρ x) (a.eval x)) (dst:Option Tmp) (type:TypeId) (pos:String) (after:Array Edge) (guard:Option (Nat×Bool)):
 ∃vs t,aX E W cs vs∧(execOp a.eval ⟨dst,op,type,pos,after,guard⟩).run cx.P W=.ok (.value (.pointer (some ⟨W.heap.size,0,none⟩))) (W.alloc (.cells ⟨vs⟩ t)):=by
 unfold sS at h
 split at h
 ·rename_i t
  obtain⟨i,z,hi,hz,hr⟩:=tp (E:=E) (W:=W) h
  exact⟨_,t,hr,by simp[execOp,Instr.alloc,zeroValue,j9 hi,hz,newVar,newRow]⟩
 ·rename_i t x
  split at h<;>first|(cases h;done)|skip
  split at h<;>first|(cases h;done)|skip
  rename_i l hl
  split at h<;>first|(cases h;done)|skip
  injection h with h
  subst h
  exact⟨_,t,nE hl (cL x (by simp[Op.operands])),by rfl⟩
 simp_all
theorem Cr {o:Oper} {ρ:Operand→AV} {a:Act} {d:Nat} {cs:List bA} (hm:aQ W0 w0 X E B O H W) (hX:X d) (hd:o.dst=some d) (hb:aB B d=.bx none cs) (h:sS cx o.op ρ=some cs) (cL:∀x∈o.op.operands,aK E W (ρ x) (a.eval x)):
 fg cx.P o a W fun v W'=>∃E',aK E' W' (.v (.bx d 0)) v∧aQ W0 w0 (fun i=>X i∧i≠d) E' B O H W'∧aU E W E' W'∧W.heap.size≤W'.heap.size:=by
 obtain⟨dst,op,type,pos,after,guard⟩:=o
 obtain⟨vs,t,hr,d'⟩:=agk (cx:=cx) (a:=a) h cL dst type pos after guard
 obtain⟨h1,h2,h3⟩:=YJ hm hX hb hr t
 exact aN d' ⟨_,h3,h1,h2,by simp⟩
theorem Iz {o:Oper} {ρ mU:Operand→AV} {a:Act} {K:AV→BL→OL→Prop} (hm:aQ W0 w0 X E B O H W) (hX:∀d,aB B d=.no→¬X d) (hp:AU cx o=true) (h:wM cx o ρ mU B O H K) (cL:∀x∈o.op.operands,aK E W (ρ x) (a.eval x)) (OJ:∀x∈o.op.operands,aK E W (mU x) (a.eval x)) (Gy:∀v,a.eval (.const v)=v):
 fg cx.P o a W (vj W0 w0 X E B O H W fun a B O H'=>K a B O∧H'=H):=by
 unfold wM at h
 split at h
 ·split at h<;>first|simp_all|skip
  rename_i d hd
  split at h<;>first|exact h.elim|skip
  rename_i dz
  split at h<;>first|exact h.elim|skip
  rename_i cs gU
  have m1:=GF hm dz cs
  have qI:aB (ln B d (.bx none cs)) d=.bx none cs:=by rw[e9,if_pos rfl]
  refine(Cr (cx:=cx) m1 (.inr rfl) hd qI gU cL).mono fun v W' ⟨E',h1,h2,h3,h4⟩=>?_
  refine⟨_,_,_,H,E',⟨h,rfl⟩,h1,h2.gn fun i _=>⟨fun hx=>hx.1.resolve_right hx.2,fun hx=>⟨.inl hx,fun e=>?_⟩⟩,h3,h4,fun i hi=>?_,fun i n k=>?_⟩
  ·simp_all
  ·rw[e9,if_neg]
   grind
  ·rw[e9]
   grind
 ·rename_i hal
  have ve:J3 cx o=true:=by
   unfold AU at hp
   simp_all
  obtain⟨E1,m1,p1⟩:=vi (cx:=cx) hm o ρ
  refine(qt m1 ve h (fun x hx=>(cL x hx).aL p1) (fun x hx=>(OJ x hx).aL p1) Gy).mono fun v W' ⟨av,E',h1,h2,h3,h4,h5⟩=>?_
  exact⟨av,B,_,H,E',⟨h1,rfl⟩,h2,h3,p1.trans h4 (Nat.le_refl _),h5,fun _ _=>rfl,aD.refl _⟩
def want (ops:Array Oper) (o:Oper) (f:FA):Option Bool:=
 match o.guard with
 |none=>some true
 |some g=>match ops[g.1]? with
  |none=>none
  |some oj=>match oj.dst with
   |none=>none
   |some d=>match cC f d with
    |.v (.c .bool b)=>some (b==g.2)
    |.v .jB=>some false
    |_=>none
theorem kG {ops:Array Oper} {o:Oper} {f:FA} {yes no:FA→Prop} (h:tZ ops o f yes no):(want ops o f=some true∧yes f)∨(want ops o f=some false∧no f):=by
 unfold tZ at h
 unfold want
 split at h
 ·simp_all
 ·rename_i g hg
  split at h<;>first|simp_all|skip
  rename_i oj hj
  split at h<;>first|simp_all|skip
  rename_i d hd
  split at h
  ·rename_i b hb
   obtain⟨j,wnt⟩:=g
   cases b<;>cases wnt<;>simp only[af] at h<;>rw[vu f d hb] at h
   all_goals simp_all
  all_goals simp_all
theorem sC {ops:Array Oper} {o:Oper} {f:FA} {l:Fr} {b:Bool} (h:want ops o f=some b) (hg:∀g oj d,o.guard=some g→ops[g.1]?=some oj→oj.dst=some d→aK E W (cC f d) (dM l d)):Region.wanted o (yielded ops (az l).tmps)=b:=by
 unfold want at h
 split at h
 ·rename_i v5;injection h with h;subst h;simp[Region.wanted,v5]
 ·rename_i g v5
  split at h<;>first|(cases h;done)|skip
  rename_i oj hj
  split at h<;>first|(cases h;done)|skip
  rename_i d hd
  have hv:=hg g oj d v5 hj hd
  have hy:=qv ops l g.1 hj hd
  split at h<;>first|(cases h;done)|skip
  ·rename_i x hx
   rw[hx] at hv
   have hv:dM l d=.bool x:=hv.1
   rw[hv] at hy
   injection h with h
   subst h
   simp[Region.wanted,v5,hy]
  ·rename_i hx
   rw[hx] at hv
   have hv:dM l d=undef:=hv
   rw[hv] at hy
   injection h with h
   subst h
   simp[Region.wanted,v5,hy,undef]
theorem zG {ops:Array Oper} {o:Oper} {s:St} {l:Fr} {K:St→Prop} {next:Act→World→Prop} {Q:Exit→Act→World→Prop} (hs:dq W0 w0 s l W) (h:J6 cx ops o s K) (hk:∀s' l' W',dq W0 w0 s' l' W'→K s'→next (az l') W'):
 if Region.wanted o (yielded ops (az l).tmps) then o.wp cx.P (az l) W next Q else next ((az l).put o.dst undef) W:=by
 obtain⟨E,hm,hf⟩:=hs
 have all:∀t,aK E W (cC s.f t) (dM l t):=fun t=>hf.2 t id
 have jB:want ops o s.f=some false→K ⟨dX s.f o.dst (.v .jB),s.B,s.O,s.H⟩→if Region.wanted o (yielded ops (az l).tmps) then o.wp cx.P (az l) W next Q else next ((az l).put o.dst undef) W:=fun hw bW=>by
  rw[sC hw fun _ _ d _ _ _=>all d,if_neg Bool.false_ne_true,fq]
  exact hk ⟨dX s.f o.dst (.v .jB),s.B,s.O,s.H⟩ _ _ ⟨E,hm,hf.put (a:=.v .jB) (v:=undef) rfl fun t ht=>.inl ht⟩ bW
 have yes:∀{K':AV→BL→OL→HP→Prop},want ops o s.f=some true→(∀a B O H,K' a B O H→K ⟨dX s.f o.dst a,B,O,H⟩)→fg cx.P o (az l) W (vj W0 w0 (fun _=>False) E s.B s.O s.H W K')→if Region.wanted o (yielded ops (az l).tmps) then o.wp cx.P (az l) W next Q else next ((az l).put o.dst undef) W:=fun{K'} hw bW hg=>by
  rw[sC hw fun _ _ d _ _ _=>all d,if_pos rfl]
  refine hg next Q fun v W' ⟨av,B',O',H',E',h1,h2,h3,h4,h5,h6,h7⟩=>?_
  rw[fq]
  exact hk _ _ _ ⟨E',h3,(hf.aL h4).put h2 fun t ht=>.inl ht⟩ (bW _ _ _ _ h1)
 unfold J6 at h
 split at h
 ·rename_i hp
  rw[u5] at h
  rcases kG h with⟨hw,h⟩|⟨hw,h⟩
  ·exact yes hw (fun a B O H h=>by simp_all) (Iz hm (fun _ _=>id) hp h (fun x _=>rD hm fun t _=>all t) (fun x _=>DZ hm fun t _=>all t) fun _=>rfl)
  simp_all
 ·rw[Gv] at h
  rcases kG h with⟨hw,h⟩|⟨hw,h⟩
  ·exact yes hw (fun a B O H h=>h) (zD hm h fun x _=>rD hm fun t _=>all t)
  simp_all
theorem qw {ops:Array Oper} {K:St→Prop} {Q:Exit→Act→World→Prop} (hk:∀s l W,dq W0 w0 s l W→K s→Q .normal (az l) W):
 ∀(os:List Oper) (s:St) (l:Fr) (W:World),dq W0 w0 s l W→J7 cx ops K os s→wpList cx.P ops Q os (az l) W
 |[],s,l,W,hs,h=>wpList_nil (hk s l W hs h)
 |o::rest,s,l,W,hs,h=>by
  unfold wpList
  have:=zG (Q:=Q) (next:=wpList cx.P ops Q rest) hs h fun s' l' W' jl h'=>qw hk rest s' l' W' jl h'
  grind
end
def SS {α:Type} (F:(α→Prop)→Prop):Prop:=∀K K',F K→(∀a,K a→F (fun a'=>a'=a)→K' a)→F K'
theorem bC {α:Type} (a:α):SS (fun K:α→Prop=>K a):=fun K K' h hk=>hk a h rfl
theorem aE {α:Type}:SS (fun _:α→Prop=>False):=fun _ _ h _=>h
theorem c6 {α:Type} {p:Prop} {F:(α→Prop)→Prop} (h:SS F):SS (fun K=>p∧F K):=fun K K' ⟨hp,hf⟩ hk=>⟨hp,h K K' hf fun a ha GR=>hk a ha ⟨hp,GR⟩⟩
theorem mF {α β:Type} {F:β→(α→Prop)→Prop} (h:∀x,SS (F x)):SS (fun K=>∃x,F x K):=fun K K' ⟨x,hf⟩ hk=>⟨x,h x K K' hf fun a ha GR=>hk a ha ⟨x,GR⟩⟩
theorem agl {α:Type} {p:Prop} {F:(α→Prop)→Prop} (h:SS F):SS (fun K=>p→F K):=fun K K' hf hk hp=>h K K' (hf hp) fun a ha GR=>hk a ha fun _=>GR
theorem agm {α:Type} {b:Bool} {F G:(α→Prop)→Prop} (h:SS F) (k:SS G):SS (fun K=>af b (F K) (G K)):=by
 cases b
 ·exact k
 ·exact h
theorem SS.mono {α:Type} {F:(α→Prop)→Prop} (h:SS F) {K K':α→Prop} (hf:F K) (hk:∀a,K a→K' a):F K':=h K K' hf fun a ha _=>hk a ha
theorem eQ {α β:Type} {G:(β→Prop)→Prop} {F:β→(α→Prop)→Prop} (h:SS G) (k:∀x,SS (F x)):SS (fun K=>G fun x=>F x K):=fun K K' hg hk=>
 h _ _ hg fun x hx hgx=>k x K K' hx fun a ha GR=>hk a ha (h.mono hgx fun y hy=>by simp_all)
theorem Pa (op:BinOp) (k:IntKind) (a b:Int):SS (xZ op k a b):=by
 unfold xZ
 cases op<;>first|exact bC _|exact c6 (bC _)|exact aE
theorem Pb (op:BinOp) (a b:ByteArray):SS (x_ op a b):=by
 unfold x_
 cases op<;>first|exact bC _|exact aE
theorem Pc (op:BinOp) (k:FloatKind) (a b:Nat):SS (ya op k a b):=by
 unfold ya
 cases op<;>first|exact bC _|exact aE
theorem Jk (op:BinOp) (b:Bool):SS (Jl op b):=by
 unfold Jl
 cases op<;>first|exact bC _|exact aE
theorem YQ (P:Program) (op:BinOp) (t:TypeId) (x y:Operand) (vx vy:Value):SS (Pd P op t x y vx vy):=by
 unfold Pd
 split<;>(repeat' split)<;>first|exact aE|exact Jk _ _|exact Pa _ _ _ _|exact Pb _ _ _|exact Pc _ _ _ _|exact c6 (Jk _ _)|exact mF fun b=>c6 (Jk _ _)
theorem TF (P:Program) (s d:TypeId) (v:Value):SS (EJ P s d v):=by
 unfold EJ
 (repeat' split)<;>first|exact aE|exact bC _
theorem TG (P:Program) (op:Op) (ρ:Operand→Value) (h:(match op with|.binOp _ _ _ _ _=>true|.unOp _ _ _=>true|.makeInterface _ _=>true|.makeFunc _ _ _=>true|.convert _ _ _=>true|_=>false)=true):SS (jq P op ρ):=by
 cases op<;>simp only at h<;>first|simp_all|skip
 all_goals unfold jq<;>try simp only
 ·exact YQ _ _ _ _ _ _ _
 ·rename_i uo _ _
  cases uo<;>simp only<;>(repeat' split)<;>first|exact aE|exact bC _
 ·exact TF _ _ _ _
 ·(repeat' split)<;>first|exact aE|exact bC _
 ·exact bC _
theorem xm {cx:Cx} {op:Op} {ρ:Operand→AV} (h:(match op with|.binOp _ _ _ _ _=>true|.unOp _ _ _=>true|.makeInterface _ _=>true|.makeFunc _ _ _=>true|.convert _ _ _=>true|_=>false)=true):SS (rS cx op ρ):=by
 unfold rS
 split
 ·exact eQ (TG _ _ _ h) fun v=>bC _
 ·exact aE
theorem TH (g:Nat→cw) (a:AV):SS (lenOf g a):=by
 unfold lenOf
 (repeat' split)<;>first|exact aE|exact bC _|exact agl (bC _)
theorem agn {α:Type} (xs:List α) (i:Int):SS (bT xs i):=mF fun x=>c6 (c6 (bC _))
theorem ago (i:Int) (n:Nat):SS (cS i n):=c6 (c6 (bC _))
theorem YR (s:Sl) (m:Int) (n:Nat):SS (dF s m n):=c6 (c6 (mF fun p=>c6 (bC _)))
theorem TJ (g:Nat→cw) (ek:Option AK) (n:Nat) (a i:AV):SS (idxOf g ek n a i):=by
 unfold idxOf
 (repeat' split)<;>first|exact aE|exact eQ (YR _ _ _) fun x=>bC _|exact eQ (agn _ _) fun x=>bC _|exact eQ (ago _ _) fun x=>bC _
theorem agp {β:Type} {n:Nat} {l h:Int} {F:Nat→Nat→(β→Prop)→Prop} (k:∀a b,SS (F a b)):SS (fun K=>fe n l h fun a b=>F a b K):=c6 (c6 (c6 (k _ _)))
theorem TK (g:Nat→cw) (n:Nat) (a:AV) (lo hi:Option AV):SS (tV g n a lo hi):=by
 unfold tV
 (repeat' split)<;>first|exact aE|exact c6 (c6 (c6 (bC _)))|exact agp fun a b=>bC _
theorem YS (cx:Cx) (s:TypeId) (n:Nat) (a:AV):SS (fun K=>Om cx s n K a):=by
 unfold Om
 (repeat' split)<;>first|exact aE|exact bC _
theorem TM (cx:Cx) (s:TypeId) (f:Nat) (a:AV):SS (Eu cx s f a):=by
 unfold Eu
 (repeat' split)<;>first|exact aE|exact YS _ _ _ _
theorem agq (op:BinOp) (b:Bool):SS (On op b):=by
 unfold On
 cases op<;>first|exact bC _|exact aE
theorem TN (cx:Cx) (op:BinOp) (t:TypeId) (x y:Operand) (yt:TypeId) (ρ:Operand→AV):SS (Ev cx op t x y yt ρ):=by
 unfold Ev
 (repeat' split)<;>first|exact aE|exact agq _ _|exact xm rfl
theorem TO (cx:Cx) (g:Nat→cw) (s d:TypeId) (x:Operand) (ρ mU:Operand→AV):SS (tW cx g s d x ρ mU):=by
 unfold tW
 (repeat' split)<;>first|exact aE|exact bC _|exact c6 (bC _)|exact xm rfl
theorem TP (cx:Cx) (t:TypeId) (ps:List (Nat×Operand)) (ρ:Operand→AV):SS (Ex cx t ps ρ):=by
 unfold Ex
 (repeat' split)<;>first|exact aE|exact bC _
theorem KX (cx:Cx) (t:TypeId) (f:Nat) (a:AV):SS (sR cx t f a):=by
 unfold sR
 (repeat' split)<;>first|exact aE|exact bC _
theorem Ct (ag:Bool) (n:Nat) (cs:List bA) (j:Nat):SS (LH ag n cs j):=by
 unfold LH
 (repeat' split)<;>first|exact aE|exact bC _
theorem agr {α:Type} (xs:List α) (i:Nat):SS (gN xs i):=mF fun x=>c6 (bC _)
theorem ags (e:AK) (p:Addr) (H:HP):SS (jg e p H):=mF fun _=>mF fun _=>mF fun _=>mF fun _=>mF fun x=>c6 (c6 (c6 (bC _)))
theorem Pe (cx:Cx) (gB:Nat→jm) (g:Nat→cw) (H:HP) (t:TypeId) (a:AV):SS (nw cx gB g H t a):=by
 unfold nw
 (repeat' split)<;>first|exact aE|exact eQ (ags _ _ _) (fun x=>Ct _ _ _ _)|exact Ct _ _ _ _|exact eQ (agr _ _) fun x=>Ct _ _ _ _|exact mF fun x=>c6 (Ct _ _ _ _)
theorem TQ (a:bA):∀k:K1,SS (rP a k):=by
 intro k
 cases k<;>unfold rP<;>simp only<;>(repeat' split)<;>first|exact aE|exact bC _
theorem nf (g:Nat→cw) (a:bA):∀k:AK,SS (cZ g a k):=by
 intro k
 cases k<;>unfold cZ<;>simp only<;>(repeat' split)<;>first|exact aE|exact bC _|exact TQ _ _|exact c6 (c6 (bC _))
def SS2 {α β:Type} (F:(α→β→Prop)→Prop):Prop:=SS fun K:α×β→Prop=>F fun x y=>K (x,y)
theorem tv {α β γ:Type} {G:(α→β→Prop)→Prop} {F:α→β→(γ→Prop)→Prop} (h:SS2 G) (k:∀x y,SS (F x y)):SS (fun K=>G fun x y=>F x y K):=
 eQ (G:=fun K:α×β→Prop=>G fun x y=>K (x,y)) (F:=fun p=>F p.1 p.2) h fun p=>k _ _
theorem GV (g:Nat→cw):∀(k:AK) (l:List bA),SS2 (jU g k l):=by
 intro k
 induction k with
 |nil=>intro l;exact bC _
 |cons a b Jh Ji=>
  intro l
  exact tv (F:=fun x l' (K:_→Prop)=>jU g b l' fun y BH=>K ((x,y),BH)) (Jh l) fun x l'=>tv (F:=fun y BH (K:_→Prop)=>K ((x,y),BH)) (Ji l') fun y BH=>bC _
 |one k=>intro l;cases l with|nil=>exact aE|cons a r=>exact eQ (F:=fun x (K:_→Prop)=>K (x,r)) (nf g a (.one k)) fun x=>bC _
 |byte=>intro l;cases l with|nil=>exact aE|cons a r=>exact eQ (F:=fun x (K:_→Prop)=>K (x,r)) (nf g a .byte) fun x=>bC _
 |ref=>intro l;cases l with|nil=>exact aE|cons a r=>exact eQ (F:=fun x (K:_→Prop)=>K (x,r)) (nf g a .ref) fun x=>bC _
 |row e=>intro l;cases l with|nil=>exact aE|cons a r=>exact eQ (F:=fun x (K:_→Prop)=>K (x,r)) (nf g a (.row e)) fun x=>bC _
 |bQ e=>intro l;cases l with|nil=>exact aE|cons a r=>exact eQ (F:=fun x (K:_→Prop)=>K (x,r)) (nf g a (.bQ e)) fun x=>bC _
 |fn f=>intro l;cases l with|nil=>exact aE|cons a r=>exact eQ (F:=fun x (K:_→Prop)=>K (x,r)) (nf g a (.fn f)) fun x=>bC _
 |arr e t=>intro l;exact aE
 |mp e=>intro l;exact aE
 |own e t=>intro l;exact aE
theorem LY (g:Nat→cw) (ρ:Operand→AV) (ag:Bool) (k:AK):∀(ps:List (Nat×Operand)) (i:Nat),SS (u0 g ρ ag k i ps)
 |[],i=>bC _
 |(j,x)::r,i=>by
  show SS fun K=>u0 g ρ ag k i ((j,x)::r) K
  unfold u0
  split
  ·split
   ·exact aE
   ·refine tv (F:=fun y rest (K:_→Prop)=>match rest with|[]=>u0 g ρ ag k (i+1) r fun ys=>K (y::ys)|_::_=>False) (GV g _ _) fun y rest=>?_
    split
    ·exact eQ (F:=fun ys (K:_→Prop)=>K (y::ys)) (LY g ρ ag k r (i+1)) fun ys=>bC _
    ·exact aE
  ·exact aE
theorem TR (cx:Cx) (g:Nat→cw) (t:TypeId) (n:Nat) (ps:List (Nat×Operand)) (ρ:Operand→AV) (f:(k:AK)→List k.T→AV):SS (fun K=>oL cx g t n ps ρ fun k xs=>K (f k xs)):=by
 unfold oL
 (repeat' split)<;>first|exact aE|exact eQ (LY _ _ _ _ _ _) fun x=>bC _
theorem GW (g:Nat→cw):∀(ps:List (Bool×AK)) (l:List AV),SS (mE g ps l)
 |[],[]=>bC _
 |[],_::_=>aE
 |_::_,[]=>aE
 |p::r,a::l=>by
  show SS fun K=>mE g (p::r) (a::l) K
  unfold mE
  simp only
  split
  ·exact aE
  ·refine tv (F:=fun x rest (K:_→Prop)=>match rest with|[]=>mE g r l fun y=>K (x,y)|_::_=>False) (GV g _ _) fun x rest=>?_
   split
   ·exact eQ (F:=fun y (K:_→Prop)=>K (x,y)) (GW g r l) fun y=>bC _
   ·exact aE
theorem yM (cx:Cx) (o:Oper) (ρ mU:Operand→AV) (gB:Nat→jm) (g:Nat→cw) (H:HP):SS (pX cx o ρ mU gB g H):=by
 obtain⟨dst,op,type,pos,after,guard⟩:=o
 unfold pX
 cases op<;>simp only<;>first|exact aE|exact bC _|exact xm rfl|exact TM _ _ _ _|exact TN _ _ _ _ _ _ _|exact TO _ _ _ _ _ _ _|exact TP _ _ _ _|exact KX _ _ _ _|exact Pe _ _ _ _ _ _|exact TR _ _ _ _ _ _ Vc|skip
 case pick c a b=>
  split
  ·exact agm (bC _) (bC _)
  ·exact aE
 case nilCheck x=>
  (repeat' split)<;>first|exact aE|exact bC _|exact mF fun n=>c6 (bC _)
 case indexAddr t x i=>
  (repeat' split)<;>first|exact aE|exact TJ _ _ _ _ _
 case makeFunc f a b=>
  unfold QC
  (repeat' split)<;>first|exact aE|exact bC _|exact xm rfl
 case extract x i=>
  (repeat' split)<;>first|exact aE|exact bC _
 case slice t x lo hi mx=>
  cases mx with
  |some m=>exact aE
  |none=>
   simp only
   (repeat' split)<;>first|exact aE|exact TK _ _ _ _ _
 case call c=>
  (repeat' split)<;>first|exact aE|exact bC _|exact TH _ _|skip
  all_goals refine eQ (GW _ _ _) fun xs=>?_
  all_goals first|exact aE|exact mF fun r=>c6 (bC _)|(split<;>first|exact aE|exact mF fun r=>c6 (bC _))
theorem LZ {P:Program} {o:Oper} {a:Act} {W:World} {R:Value→World→Prop} (h:fg P o a W R):∃v W',R v W':=by
 have:=h (fun _ _=>∃v W',R v W') (fun _ _ _=>False) fun v W' hr=>⟨v,W',hr⟩
 unfold Oper.wp at this
 generalize (execOp a.eval o).run P W=r at this
 cases r with
 |ok n w'=>
  cases n<;>simp only[Oper.upon] at this
  case value u=>omega
  case skip=>omega
  case defer d=>omega
  case enter f args=>
   obtain⟨e,w',fr,h1,_⟩:=this []
   cases e with
   |returned u=>omega
   |panicked c=>simp_all
   |outgrown=>obtain⟨_,_,h1⟩:=h1;simp_all
  case row row args=>
   obtain⟨v,w',h1,_⟩:=this (Frame.enter P 0 #[] .normal) []
   omega
 |halt x w'=>
  cases x<;>simp only[Oper.upon] at this
section
variable {cx:Cx} {ops:Array Oper} {W0:World} {w0:Mk}
def eE (LA LR:Array Bool) (p:Nat):Prop:=LA.getD p false=true∧LR.getD p false=false
def PD (ops:Array Oper) (LA LR:Array Bool) (t:Nat):Prop:=∃p o,eE LA LR p∧ops[p]?=some o∧o.dst=some t
def PX (ops:Array Oper) (LA LR:Array Bool) (f:FA) (i:Nat):Prop:=∃p o,eE LA LR p∧ops[p]?=some o∧o.dst=some i∧u4 o.op=true∧want ops o f=some true
def ev0 (s:St) (x:Operand):AV:=match x with|.tmp t=>cC s.f t|x=>jE s.f (aB s.B) x
def Pf (cx:Cx) (ops:Array Oper) (s:St) (o:Oper):Prop:=
 (want ops o s.f=some false∧dX s.f o.dst (.v .jB)=s.f)∨
 (want ops o s.f=some true∧∃ρ mU:Operand→AV,(∀x∈o.op.operands,ρ x=jE s.f (aB s.B) x∧mU x=ev0 s x)∧
  ((u4 o.op=true∧∃d cs,o.dst=some d∧aB s.B d=.bx none cs∧sS cx o.op ρ=some cs∧dX s.f o.dst (.v (.bx d 0))=s.f)∨
   (u4 o.op=false∧J3 cx o=true∧pX cx o ρ mU (aB s.B) (aw s.O) s.H fun a=>dX s.f o.dst a=s.f)))
structure Inv (cx:Cx) (ops:Array Oper) (Z:Nat→Bool) (W0:World) (w0:Mk) (LA LR:Array Bool) (s:St) (l:Fr) (W:World):Prop where
 rE:LA.size=ops.size
 pH:LR.size=ops.size
 sub:∀j,LR.getD j false=true→LA.getD j false=true
 Pg:kg ops LA
 clR:kg ops LR
 rel:∃E,aQ W0 w0 (PX ops LA LR s.f) E s.B s.O s.H W∧rY E W (PD ops LA LR) s.f l
 prom:∀p o,eE LA LR p→ops[p]?=some o→Pf cx ops s o
 nz:∀p,eE LA LR p→Z p=false
inductive RH (ops:Array Oper):Nat→Nat→Prop where
 |one {j:Nat} {o:Oper} {e:Edge} (h:ops[j]?=some o) (he:e∈o.after) (hb:Region.binds .any e=true):RH ops j e.on
 |more {j i:Nat} {o:Oper} {e:Edge} (h:ops[j]?=some o) (he:e∈o.after) (hb:Region.binds .any e=true) (hr:RH ops e.on i):RH ops j i
theorem KY {LR:Array Bool} (hc:kg ops LR) {j i:Nat} (h:RH ops j i):∀{o:Oper},ops[j]?=some o→(∀e∈o.after,Region.binds .any e=true→LR.getD e.on false=true)→LR.getD i false=true:=by
 induction h with
 |one h he hb=>
  simp_all
 |more h he hb hr ih=>
  intro o' ho bF
  rw[h] at ho
  injection ho with ho
  subst ho
  have h1:=bF _ he hb
  cases hr with
  |one h2 he2 hb2=>exact hc _ _ h2 h1 _ he2 hb2
  |more h2 he2 hb2 hr2=>exact ih h2 fun e' RI ir=>hc _ _ h2 h1 e' RI ir
theorem L1 (hp:rV ops=true):∀(n j:Nat) {i:Nat},j<n→j<ops.size→i<ops.size→pre ops j i=true→RH ops j i
 |0,_,_,h,_,_,_=>absurd h (Nat.not_lt_zero _)
 |n+1,j,i,hj,hjs,his,h=>by
  have h1:=List.all_eq_true.1 hp j (by simp_all)
  have ho:ops[j]?=some ops[j]:=Array.getElem?_eq_getElem hjs
  rw[ho] at h1
  simp only at h1
  have h2:=List.all_eq_true.1 h1 i (by simp_all)
  rw[h] at h2
  simp only[Bool.not_true,Bool.false_or] at h2
  obtain⟨e,he,hb⟩:=Array.any_eq_true'.1 h2
  simp only[Bool.and_eq_true,decide_eq_true_eq,Bool.or_eq_true,beq_iff_eq] at hb
  obtain⟨⟨h3,h4⟩,h5⟩:=hb
  rcases h5 with h5|h5
  ·rw[←h5];exact .one ho he h3
  ·exact .more ho he h3 (L1 hp n e.on (by omega) (by omega) his h5)
def Calm (cx:Cx) (ops:Array Oper) (om:Nat) (LA LR:Array Bool) (s:St):Prop:=∀p o j oj,eE LA LR p→ops[p]?=some o→ops[j]?=some oj→LA.getD j true=false→
 AU cx oj=true∨RH ops j p∨Av (kq cx o (jE s.f (aB s.B))) (BQ cx om j oj)=false
structure zH (ops:Array Oper) (Z:Nat→Bool):Prop where
 Ph:∀(i:Nat) (oi:Oper),ops[i]?=some oi→∀e∈oi.after,Region.binds .any e=true→e.on<i
 self:∀(i:Nat) (oi:Oper),ops[i]?=some oi→∀d,oi.dst=some d→d∉oi.looksAt ops
 look:∀(i j:Nat) (oi oj:Oper),ops[i]?=some oi→ops[j]?=some oj→j≠i→Z j=false→(∃e∈oi.after,Region.binds .any e=true∧e.on=j)∨∀d,oj.dst=some d→d∉oi.looksAt ops∧oi.dst≠some d
theorem agu (h:QG ops=true):zH ops (fun _=>false):=by
 have go:∀i oi,ops[i]?=some oi→(oi.after.toList.all fun e=> !Region.binds .any e||decide (e.on<i))=true∧(match oi.dst with|some d=> !(oi.looksAt ops).contains d|none=>true)=true∧((List.range ops.size).all fun j=>j==i||(match ops[j]? with
  |none=>true
  |some oj=>(oi.after.any fun e=>Region.binds .any e&&e.on==j)||I7 ops oi oj))=true:=fun i oi hi=>by
  have:=List.all_eq_true.1 h i (by grind)
  grind
 refine⟨fun i oi hi e he hb=>?_,fun i oi hi d hd=>?_,fun i j oi oj hi hj bb _=>?_⟩
 ·grind
 ·grind
 ·have:=List.all_eq_true.1 (go i oi hi).2.2 j (by grind)
  rw[hj] at this
  simp only[Bool.or_eq_true,beq_iff_eq,bb,false_or] at this
  rcases this with h1|h1
  ·grind
  ·refine .inr fun d hd=>?_
   unfold I7 at h1
   simp_all
theorem zH.dst {Z:Nat→Bool} (hw:zH ops Z) {i j:Nat} {oi oj:Oper} {d:Nat} (hi:ops[i]?=some oi) (hj:ops[j]?=some oj) (bb:i≠j) (hzi:Z i=false) (hzj:Z j=false) (h1:oi.dst=some d) (h2:oj.dst=some d):False:=by
 rcases hw.look i j oi oj hi hj (Ne.symm bb) hzj with⟨e,he,hb,heq⟩|h
 ·rcases hw.look j i oj oi hj hi bb hzi with⟨e',RI,ir,aDQ⟩|h
  ·have:=hw.Ph i oi hi e he hb
   have:=hw.Ph j oj hj e' RI ir
   omega
  simp_all
 simp_all
theorem iv {Z:Nat→Bool} (hw:zH ops Z) {L:Array Bool} (ed:L.size=ops.size) (hr:Region.ready .any ops L=[]):∀j,j<ops.size→L.getD j false=true:=by
 intro j
 induction j using Nat.strongRecOn with
 |ind j ih=>
  intro hj
  cases h:L.getD j false with
  |true=>rfl
  |false=>
   have ho:ops[j]?=some ops[j]:=Array.getElem?_eq_getElem hj
   have:j∈Region.ready .any ops L:=mem_ready.2 ⟨by
    simp_all,_,ho,fun e he hb=>ih e.on (hw.Ph j _ ho e he hb) (Nat.lt_trans (hw.Ph j _ ho e he hb) hj)⟩
   simp_all
theorem wh {B B':BL} (h:aD B B') (a:bA):ou (aB B') a=ou (aB B) a:=by
 unfold ou
 split
 ·rename_i i j
  cases hb:aB B i with
  |closed n k=>rw[(h i n k).2 hb]
  |no=>
   cases ir:aB B' i with
   |closed n k=>rw[(h i n k).1 ir] at hb;grind
   |no=>rfl
   |bx _ _=>rfl
  |bx nm cs=>
   cases ir:aB B' i with
   |closed n k=>rw[(h i n k).1 ir] at hb;grind
   |no=>rfl
   |bx _ _=>rfl
 ·rfl
 rfl
theorem IA {B B':BL} (h:aD B B') (a:AV):pj (aB B') a=pj (aB B) a:=by
 unfold pj
 split
 ·rw[wh h]
 ·congr 1
  exact List.map_congr_left fun a _=>wh h a
 rfl
theorem vv {o:Oper} {t:Tmp} (h:Operand.tmp t∈o.op.operands):t∈o.looksAt ops:=by
 unfold Oper.looksAt
 exact List.mem_append_left _ (List.mem_filterMap.2 ⟨.tmp t,by simp_all,rfl⟩)
theorem wi {o:Oper} {g:Nat×Bool} {oj:Oper} {d:Nat} (h1:o.guard=some g) (h2:ops[g.1]?=some oj) (h3:oj.dst=some d):d∈o.looksAt ops:=by
 unfold Oper.looksAt
 simp_all
theorem tw {f:FA} {d:Option Tmp} {a:AV} {t:Nat} (h:d≠some t):cC (dX f d a) t=cC f t:=by
 cases d with
 |none=>rfl
 |some d=>
  show cC (gE f d a) t=_
  rw[ke,if_neg]
  simp_all
theorem nZ {o oj:Oper} {s s':St} {a:AV} (hl:∀d,oj.dst=some d→d∉o.looksAt ops) (hf:s'.f=dX s.f oj.dst a) (hc:aD s.B s'.B):∀x∈o.op.operands,jE s'.f (aB s'.B) x=jE s.f (aB s.B) x∧ev0 s' x=ev0 s x:=fun x hx=>by
 have tmp:∀t,x=.tmp t→cC s'.f t=cC s.f t:=fun t ht=>by
  subst ht
  rw[hf,tw]
  intro e
  exact hl t e (vv hx)
 cases x with
 |tmp t=>exact⟨by show pj _ _=pj _ _;rw[tmp t rfl,IA hc],tmp t rfl⟩
 |const v=>exact⟨rfl,rfl⟩
 |global v=>exact⟨rfl,rfl⟩
 |func v=>exact⟨rfl,rfl⟩
theorem jK {o oj:Oper} {f:FA} {a:AV} (hl:∀d,oj.dst=some d→d∉o.looksAt ops):want ops o (dX f oj.dst a)=want ops o f:=by
 unfold want
 cases hg:o.guard with
 |none=>rfl
 |some g=>
  simp only
  cases hj:ops[g.1]? with
  |none=>rfl
  |some ok=>
   simp only
   cases hd:ok.dst with
   |none=>rfl
   |some d=>
    simp only
    rw[tw]
    intro e
    exact hl d e (wi hg hj hd)
theorem yN {f f':FA} {d:Option Tmp} {a:AV} (h:dX f d a=f) (hl:f'.length=f.length) (hg:∀t,d=some t→cC f' t=cC f t):dX f' d a=f':=by
 cases d with
 |none=>rfl
 |some t=>
  show gE f' t a=f'
  by_cases ht:t<f.length
  ·refine vu f' t ?_
   rw[hg t rfl,←h]
   show cC (gE f t a) t=a
   rw[ke,if_pos ⟨rfl,ht⟩]
  ·exact m_ f' a (by simp_all)
theorem vw {o oj:Oper} {s s':St} {a:AV} (h:Pf cx ops s o) (hl:∀d,oj.dst=some d→d∉o.looksAt ops∧o.dst≠some d) (hf:s'.f=dX s.f oj.dst a) (hc:aD s.B s'.B)
 (GX:∀d cs,want ops o s.f=some true→u4 o.op=true→o.dst=some d→aB s.B d=.bx none cs→aB s'.B d=.bx none cs)
 (ve:u4 o.op=false→(∀i∈(kq cx o (jE s.f (aB s.B))).b,aB s.B i=.no∨aB s'.B i=aB s.B i)∧((kq cx o (jE s.f (aB s.B))).o=true→cn (aw s.O) (aw s'.O))∧((kq cx o (jE s.f (aB s.B))).h=true→s'.H=s.H)):Pf cx ops s' o:=by
 have GY:∀d,oj.dst=some d→d∉o.looksAt ops:=fun d hd=>(hl d hd).1
 have hlen:s'.f.length=s.f.length:=by rw[hf,yL]
 have qI:∀t,o.dst=some t→cC s'.f t=cC s.f t:=fun t ht=>by
  rw[hf,tw]
  grind
 have hw:want ops o s'.f=want ops o s.f:=by rw[hf];exact jK GY
 have WA:=nZ GY hf hc
 unfold Pf at h⊢
 rw[hw]
 rcases h with⟨h1,h2⟩|⟨h1,ρ,mU,h2,h3⟩
 ·exact .inl ⟨h1,yN h2 hlen qI⟩
 ·refine .inr ⟨h1,ρ,mU,fun x hx=>⟨(h2 x hx).1.trans (WA x hx).1.symm,(h2 x hx).2.trans (WA x hx).2.symm⟩,?_⟩
  rcases h3 with⟨h3,d,cs,h4,h5,h6,h7⟩|⟨h3,h4,h5⟩
  ·exact .inl ⟨h3,d,cs,h4,GX d cs h1 h3 h4 h5,h6,yN h7 hlen qI⟩
  ·obtain⟨r1,r2,r3⟩:=ve h3
   have hrr:kq cx o ρ=kq cx o (jE s.f (aB s.B)):=oy fun x hx=>(h2 x hx).1
   exact .inr ⟨h3,h4,(yM _ _ _ _ _ _ _).mono (Iv h5 (by simp_all) (by simp_all) (by simp_all)) fun a ha=>yN ha hlen qI⟩
end
section
variable {cx:Cx} {ops:Array Oper} {Z:Nat→Bool} {W0:World} {w0:Mk} {LA LR:Array Bool} {s:St} {l:Fr} {W:World}
theorem n_ {p:Nat} {L:Array Bool} (h:L.getD p false=true):p<L.size:=by
 grind
theorem dN {L:Array Bool} {j:Nat} (h:j<L.size):(L.getD j true=false)↔(L.getD j false=false):=by
 simp_all
theorem sD (hw:zH ops Z) (hz:∀p,eE LA LR p→Z p=false) {j:Nat} {o:Oper} (hj:j∈Region.ready .any ops LR) (ho:ops[j]?=some o) {t:Nat} (ht:t∈o.looksAt ops):¬PD ops LA LR t:=by
 rintro⟨q,oq,hq,yb,hdq⟩
 obtain⟨_,o',nG,bF⟩:=mem_ready.1 hj
 rw[ho] at nG
 injection nG with nG
 subst nG
 by_cases L2:q=j
 ·subst L2
  rw[ho] at yb
  injection yb with yb
  subst yb
  exact hw.self _ _ ho t hdq ht
 ·rcases hw.look j q o oq ho yb L2 (hz q hq) with⟨e,he,hb,heq⟩|h
  ·have:=bF e he hb
   rw[heq,hq.2] at this;simp_all
  simp_all
theorem yO (hw:zH ops Z) (hz:∀p,eE LA LR p→Z p=false) {X:Nat→Prop} {E:Env} (hm:aQ W0 w0 X E s.B s.O s.H W) (hf:rY E W (PD ops LA LR) s.f l) {j:Nat} {o:Oper} (hj:j∈Region.ready .any ops LR) (ho:ops[j]?=some o):
 (∀x∈o.op.operands,aK E W (jE s.f (aB s.B) x) ((az l).eval x)∧aK E W (ev0 s x) ((az l).eval x))∧∀b,want ops o s.f=some b→Region.wanted o (yielded ops (az l).tmps)=b:=by
 refine⟨fun x hx=>⟨rD hm fun t ht=>?_,DZ (x:=x) hm fun t ht=>?_⟩,fun b hb=>sC hb fun g oj d hg zI hd=>hf.2 d (sD hw hz hj ho (wi hg zI hd))⟩
 ·subst ht;exact hf.2 t (sD hw hz hj ho (vv hx))
 ·subst ht;exact hf.2 t (sD hw hz hj ho (vv hx))
theorem gg {j p:Nat} (h:eE LA (LR.setIfInBounds j true) p):eE LA LR p∧(j<LR.size→p≠j):=by
 obtain⟨h1,h2⟩:=h
 refine⟨⟨h1,?_⟩,fun hj e=>?_⟩
 ·cases hp:LR.getD p false with
  |false=>rfl
  |true=>rw[getD_set_true hp] at h2;omega
 simp_all
theorem qL {j p:Nat} (h:eE LA LR p) (bb:p≠j):eE LA (LR.setIfInBounds j true) p:=⟨h.1,by rw[getD_set_ne false (Ne.symm bb)];exact h.2⟩
theorem Cu (hw:zH ops Z) (inv:Inv cx ops Z W0 w0 LA LR s l W) {j:Nat} {o:Oper} (hj:j∈Region.ready .any ops LR) (hp:eE LA LR j) (ho:ops[j]?=some o):
 (Region.wanted o (yielded ops (az l).tmps)=false∧Inv cx ops Z W0 w0 LA (LR.setIfInBounds j true) s (iF l o.dst undef) W)∨
 (Region.wanted o (yielded ops (az l).tmps)=true∧fg cx.P o (az l) W fun v W'=>Inv cx ops Z W0 w0 LA (LR.setIfInBounds j true) s (iF l o.dst v) W'):=by
 obtain⟨E,hm,hf⟩:=inv.rel
 obtain⟨WA,uj⟩:=yO hw inv.nz hm hf hj ho
 have A_:j<LR.size:=by rw[inv.pH];grind
 have mk:∀{E':Env} {l':Fr} {W':World},aQ W0 w0 (PX ops LA (LR.setIfInBounds j true) s.f) E' s.B s.O s.H W'→rY E' W' (PD ops LA (LR.setIfInBounds j true)) s.f l'→Inv cx ops Z W0 w0 LA (LR.setIfInBounds j true) s l' W':=fun{E' l' W'} h1 h2=>
  ⟨inv.rE,by simpa using inv.pH,fun q hq=>by
   by_cases L2:q=j
   ·subst L2;exact hp.1
   ·rw[getD_set_ne false (Ne.symm L2)] at hq;exact inv.sub q hq,inv.Pg,ft inv.clR hj,⟨E',h1,h2⟩,fun p op kM fH=>inv.prom p op (gg kM).1 fH,fun p kM=>inv.nz p (gg kM).1⟩
 have hD:∀t,¬PD ops LA (LR.setIfInBounds j true) t→¬PD ops LA LR t∨o.dst=some t:=fun t ht=>by
  by_cases hd:o.dst=some t
  ·simp_all
  ·refine .inl fun⟨q,oq,hq,yb,hdq⟩=>ht ⟨q,oq,qL hq fun e=>?_,yb,hdq⟩
   simp_all
 have hXs:(u4 o.op=true→want ops o s.f≠some true)→∀i,PX ops LA LR s.f i↔PX ops LA (LR.setIfInBounds j true) s.f i:=fun hn i=>by
  constructor
  ·rintro⟨p,op,h1,h2,h3,h4,h5⟩
   refine⟨p,op,qL h1 fun e=>?_,h2,h3,h4,h5⟩
   simp_all
  ·rintro⟨p,op,h1,h2,h3,h4,h5⟩
   exact⟨p,op,(gg h1).1,h2,h3,h4,h5⟩
 rcases inv.prom j o hp ho with⟨h1,h2⟩|⟨h1,ρ,mU,h2,h3⟩
 ·refine .inl ⟨uj false h1,mk (hm.gn fun i _=>hXs (fun _=>by simp_all) i) ?_⟩
  have:=hf.put (a:=.v .jB) (v:=undef) (d:=o.dst) rfl hD
  simp_all
 ·refine .inr ⟨uj true h1,?_⟩
  rcases h3 with⟨h3,d,cs,h4,h5,h6,h7⟩|⟨h3,h4,h5⟩
  ·refine(Cr (cx:=cx) hm ⟨j,o,hp,ho,h4,h3,h1⟩ h4 h5 h6 fun x hx=>by simp_all).mono fun v W' ⟨E',r1,r2,r3,r4⟩=>mk (r2.gn fun i _=>?_) ?_
   ·constructor
    ·rintro⟨⟨p,op,g1,g2,g3,g4,g5⟩,bb⟩
     refine⟨p,op,qL g1 fun e=>?_,g2,g3,g4,g5⟩
     simp_all
    ·rintro⟨p,op,g1,g2,g3,g4,g5⟩
     obtain⟨g6,g7⟩:=gg g1
     refine⟨⟨p,op,g6,g2,g3,g4,g5⟩,fun e=>?_⟩
     subst e
     exact hw.dst g2 ho (g7 A_) (inv.nz _ g6) (inv.nz _ hp) g3 h4
   ·have:=(hf.aL r3).put (d:=o.dst) r1 hD
    simp_all
  ·refine(qt (cx:=cx) hm h4 h5 (fun x hx=>by simp_all) (fun x hx=>by simp_all) fun _=>rfl).mono fun v W' ⟨av,E',r1,r2,r3,r4,r5⟩=>mk (r3.gn fun i _=>hXs (fun h=>by simp_all) i) ?_
   have:=(hf.aL r4).put (d:=o.dst) r2 hD
   simp_all
theorem D0 (hw:zH ops Z):∀(n k:Nat) {LR:Array Bool} {l:Fr} {W:World},ops.size - k≤n→Inv cx ops Z W0 w0 LA LR s l W→(∀p,p<k→¬eE LA LR p)→∃l' W',dq W0 w0 s l' W'
 |0,k,LR,l,W,hn,inv,hk=>by
  have none:∀p,¬eE LA LR p:=fun p hp=>hk p (by have:=n_ hp.1;have:=inv.rE;omega) hp
  obtain⟨E,hm,hf⟩:=inv.rel
  exact⟨l,W,E,hm.gn fun i _=>⟨fun⟨p,op,h,_⟩=>none p h,fun h=>h.elim⟩,hf.1,fun t _=>hf.2 t fun⟨q,oq,h,_⟩=>none q h⟩
 |n+1,k,LR,l,W,hn,inv,hk=>by
  by_cases hp:eE LA LR k
  ·have pN:k<ops.size:=by have:=n_ hp.1;have:=inv.rE;omega
   have ho:ops[k]?=some ops[k]:=Array.getElem?_eq_getElem pN
   have hj:k∈Region.ready .any ops LR:=mem_ready.2 ⟨(dN (by rw[inv.pH];omega)).2 hp.2,_,ho,fun e he hb=>by
    have h1:=hw.Ph k _ ho e he hb
    have h2:=inv.Pg k _ ho hp.1 e he hb
    cases h:LR.getD e.on false with
    |true=>rfl
    |false=>exact absurd ⟨h2,h⟩ (hk _ h1)⟩
   have next:∀{l':Fr} {W':World},Inv cx ops Z W0 w0 LA (LR.setIfInBounds k true) s l' W'→∃l' W',dq W0 w0 s l' W':=fun{l' W'} po=>D0 hw n (k+1) (by omega) po fun p hpk kM=>by
    obtain⟨h1,h2⟩:=gg kM
    have:=h2 (by rw[inv.pH];omega)
    grind
   rcases Cu hw inv hj hp ho with⟨_,h⟩|⟨_,h⟩
   ·grind
   ·obtain⟨v,W',h⟩:=LZ h
    grind
  ·exact D0 hw n (k+1) (by omega) inv fun p hpk=>by
    grind
theorem lH {i p:Nat} (h:eE (LA.setIfInBounds i true) LR p) (bb:p≠i):eE LA LR p:=⟨by rw[←getD_set_ne false (Ne.symm bb)];exact h.1,h.2⟩
theorem vz {i p:Nat} (h:eE LA LR p):eE (LA.setIfInBounds i true) LR p:=⟨getD_set_true h.1,h.2⟩
theorem zJ (hw:zH ops Z) (Pg:kg ops LA) {i p:Nat} (hzi:Z i=false) {o op:Oper} (hi:LA.getD i false=false) (hp:LA.getD p false=true) (ho:ops[i]?=some o) (fH:ops[p]?=some op):∀d,o.dst=some d→d∉op.looksAt ops∧op.dst≠some d:=by
 have bb:i≠p:=fun e=>by simp_all
 rcases hw.look p i op o fH ho bb hzi with⟨e,he,hb,heq⟩|h
 ·have:=Pg p op fH hp e he hb
  simp_all
 omega
theorem vA (hw:zH ops Z) (inv:Inv cx ops Z W0 w0 LA LR s l W) {i:Nat} {o:Oper} {K':St→Prop} (hzi:Z i=false) (hi:i∈Region.ready .any ops LA) (ho:ops[i]?=some o) (hp:AU cx o=true) (h:t_ cx ops o s K'):
 ∃s',K' s'∧Inv cx ops Z W0 w0 (LA.setIfInBounds i true) LR s' l W∧∀p op,ops[p]?=some op→(p=i∨eE LA LR p)→kq cx op (jE s'.f (aB s'.B))=kq cx op (jE s.f (aB s.B)):=by
 obtain⟨E,hm,hf⟩:=inv.rel
 have hiA:i<LA.size:=by rw[inv.rE];grind
 have hun:LA.getD i false=false:=(dN hiA).1 (mem_ready.1 hi).1
 have atH:LR.getD i false=false:=by
  cases h:LR.getD i false with
  |false=>rfl
  |true=>rw[inv.sub i h] at hun;omega
 have yc:eE (LA.setIfInBounds i true) LR i:=⟨by simp_all,atH⟩
 have mG:∀d,o.dst=some d→d∉o.looksAt ops:=hw.self i o ho
 have mH:∀p op,eE LA LR p→ops[p]?=some op→∀d,o.dst=some d→d∉op.looksAt ops∧op.dst≠some d:=fun p op kM fH=>zJ hw inv.Pg hzi hun kM.1 ho fH
 have fin:∀{s':St} {a:AV} {E':Env},s'.f=dX s.f o.dst a→aD s.B s'.B→s'.H=s.H→cn (aw s.O) (aw s'.O)→(∀q,aB s.B q=.no∨aB s'.B q=aB s.B q)→K' s'→
  aQ W0 w0 (PX ops (LA.setIfInBounds i true) LR s'.f) E' s'.B s'.O s'.H W→aU E W E' W→Pf cx ops s' o→∃s',K' s'∧Inv cx ops Z W0 w0 (LA.setIfInBounds i true) LR s' l W∧∀p op,ops[p]?=some op→(p=i∨eE LA LR p)→kq cx op (jE s'.f (aB s'.B))=kq cx op (jE s.f (aB s.B)):=fun{s' a E'} e1 e2 e3 e4 e5 hk rz ji hpr=>by
  refine⟨s',hk,⟨by simpa using inv.rE,inv.pH,fun q hq=>getD_set_true (inv.sub q hq),ft inv.Pg hi,inv.clR,⟨E',rz,?_⟩,fun p op kM fH=>?_,fun p kM=>by
   by_cases hpe:p=i
   ·simp_all
   ·exact inv.nz p (lH kM hpe)⟩,fun p op fH kM=>oy fun x hx=>?_⟩
  ·refine⟨by rw[e1,yL];exact hf.1,fun t ht=>?_⟩
   rw[e1,tw]
   ·exact(hf.2 t fun⟨q,oq,h1,h2,h3⟩=>ht ⟨q,oq,vz h1,h2,h3⟩).aL ji
   ·exact fun e=>ht ⟨i,o,yc,ho,e⟩
  ·by_cases hpe:p=i
   ·simp_all
   ·have xn:=lH kM hpe
    exact vw (inv.prom p op xn fH) (mH p op xn fH) e1 e2 (fun d cs _ _ _ hb=>by
     grind) fun _=>⟨fun q _=>e5 q,fun _=>e4,fun _=>e3⟩
  ·rcases kM with rfl|kM
   ·rw[ho] at fH
    injection fH with fH
    subst fH
    exact(nZ mG e1 e2 x hx).1
   ·exact(nZ (fun d hd=>(mH p op kM fH d hd).1) e1 e2 x hx).1
 have wk:∀{a:AV} p op,(p=i∨eE LA LR p)→ops[p]?=some op→want ops op (dX s.f o.dst a)=want ops op s.f:=fun{a} p op kM fH=>by
  rcases kM with rfl|kM
  ·rw[ho] at fH
   injection fH with fH
   subst fH
   exact jK mG
  ·exact jK fun d hd=>(mH p op kM fH d hd).1
 have px:∀{a:AV} (q:Nat),PX ops (LA.setIfInBounds i true) LR (dX s.f o.dst a) q↔PX ops LA LR s.f q∨(o.dst=some q∧u4 o.op=true∧want ops o s.f=some true):=fun{a} q=>by
  constructor
  ·rintro⟨p,op,h1,h2,h3,h4,h5⟩
   by_cases hpe:p=i
   ·grind
   ·have RJ:=lH h1 hpe
    rw[wk p op (.inr RJ) h2] at h5
    exact .inl ⟨p,op,RJ,h2,h3,h4,h5⟩
  ·rintro(⟨p,op,h1,h2,h3,h4,h5⟩|⟨h3,h4,h5⟩)
   ·exact⟨p,op,vz h1,h2,h3,h4,by grind⟩
   ·exact⟨i,o,yc,ho,h3,h4,by grind⟩
 have akM:∀(a:AV),dX (dX s.f o.dst a) o.dst a=dX s.f o.dst a:=fun a=>by
  cases o.dst with
  |none=>rfl
  |some d=>
   show gE (gE s.f d a) d a=gE s.f d a
   by_cases hd:d<s.f.length
   ·exact vu _ _ (by rw[ke,if_pos ⟨rfl,hd⟩])
   ·rw[m_ s.f a (Nat.le_of_not_lt hd),m_ s.f a (Nat.le_of_not_lt hd)]
 rw[u5] at h
 rcases kG h with⟨Pj,h⟩|⟨Pj,h⟩
 ·unfold wM at h
  split at h
  ·rename_i hal
   split at h<;>first|exact h.elim|skip
   rename_i d hd
   split at h<;>first|exact h.elim|skip
   rename_i dz
   split at h<;>first|exact h.elim|skip
   rename_i cs gU
   have cl:aD s.B (ln s.B d (.bx none cs)):=fun q n k=>by
    rw[e9]
    grind
   refine fin (a:=.v (.bx d 0)) (E':=E) (s':=⟨dX s.f o.dst (.v (.bx d 0)),ln s.B d (.bx none cs),s.O,s.H⟩) rfl cl rfl (cn.refl _) (fun q=>?_) h ((GF hm dz cs).gn fun q _=>?_) (aU.refl _ _) ?_
   ·show aB s.B q=.no∨aB (ln s.B d (.bx none cs)) q=_
    rw[e9]
    grind
   ·grind
   ·refine .inr ⟨by grind,jE s.f (aB s.B),ev0 s,fun x hx=>?_,.inl ⟨hal,d,cs,hd,by rw[e9,if_pos rfl],gU,akM _⟩⟩
    have:=nZ (s:=s) (s':=⟨dX s.f o.dst (.v (.bx d 0)),ln s.B d (.bx none cs),s.O,s.H⟩) mG rfl cl x hx
    simp_all
  ·rename_i hal
   have hal:u4 o.op=false:=hal
   have ve:J3 cx o=true:=by
    unfold AU at hp
    simp_all
   have h':=yM _ _ _ _ _ _ _ _ _ h fun a ha GR=>(⟨ha,GR⟩:_∧_)
   obtain⟨l',W',E1,m1,f1⟩:=D0 hw ops.size 0 (by omega) inv fun p hp=>absurd hp (Nat.not_lt_zero _)
   obtain⟨E2,m2,p2⟩:=vi (cx:=cx) m1 o (jE s.f (aB s.B))
   have f2:=f1.aL p2
   obtain⟨v,gZ,av,E3,⟨hk,zr⟩,_⟩:=LZ (qt (a:=az l') m2 ve h' (fun x hx=>rD m2 fun t _=>f2.2 t id) (fun x hx=>DZ m2 fun t _=>f2.2 t id) fun _=>rfl)
   obtain⟨E4,m4,p4⟩:=vi (cx:=cx) hm o (jE s.f (aB s.B))
   refine fin (a:=av) (E':=E4) (s':=⟨dX s.f o.dst av,s.B,rT cx o (jE s.f (aB s.B)) s.O,s.H⟩) rfl (aD.refl _) rfl (TC _ _ _ _) (fun q=>.inr rfl) hk (m4.gn fun q _=>?_) p4 ?_
   ·simp_all
   ·refine .inr ⟨by grind,jE s.f (aB s.B),ev0 s,fun x hx=>?_,.inr ⟨hal,ve,(yM _ _ _ _ _ _ _).mono zr fun a ha=>by simp_all⟩⟩
    have:=nZ (s:=s) (s':=⟨dX s.f o.dst av,s.B,rT cx o (jE s.f (aB s.B)) s.O,s.H⟩) mG rfl (aD.refl _) x hx
    simp_all
 ·refine fin (a:=.v .jB) (E':=E) (s':=⟨dX s.f o.dst (.v .jB),s.B,s.O,s.H⟩) rfl (aD.refl _) rfl (cn.refl _) (fun q=>.inr rfl) h (hm.gn fun q _=>?_) (aU.refl _ _) (.inl ⟨by grind,akM _⟩)
  simp_all
end
section
variable {cx:Cx} {ops:Array Oper} {Z:Nat→Bool} {W0:World} {w0:Mk} {LA LR:Array Bool} {s:St} {l:Fr} {W:World} {om:Nat}
theorem fD {j p:Nat} (hj:LA.getD j false=false) (ed:j<LR.size):eE (LA.setIfInBounds j true) (LR.setIfInBounds j true) p↔eE LA LR p:=by
 constructor
 ·intro h
  obtain⟨h1,h2⟩:=gg h
  exact lH h1 (h2 ed)
 ·intro h
  exact vz (qL h fun e=>by subst e;have:=h.1;simp_all)
theorem vB {s':St} {j:Nat} (h:Calm cx ops om LA LR s) (hj:LA.getD j false=false) (ed:j<LR.size) (ve:∀p op,eE LA LR p→ops[p]?=some op→kq cx op (jE s'.f (aB s'.B))=kq cx op (jE s.f (aB s.B))):Calm cx ops om (LA.setIfInBounds j true) (LR.setIfInBounds j true) s':=fun p o q oq hp ho hq hu=>by
 have ji:=(fD hj ed).1 hp
 rw[ve p o ji ho]
 refine h p o q oq ji ho hq ?_
 cases L2:LA.getD q true with
 |false=>rfl
 |true=>
  by_cases hqe:j=q
  all_goals simp_all
theorem tb0 (j:Nat):bg 0 j=false:=by
 unfold bg
 have:Nat.shiftRight 0 j=0:=Nat.zero_shiftRight j
 rw[this];rfl
theorem amA (cx:Cx) (j:Nat) (o:Oper):BQ cx 0 j o=FG cx o:=by unfold BQ;rw[tb0,tb0]
theorem amB (cx:Cx) (om j:Nat) (o:Oper):(BQ cx om j o).o=true:=by
 unfold BQ
 cases bg om j with
 |true=>rfl
 |false=>
  cases bg om (j+64) with
  |true=>rfl
  |false=>unfold FG;grind
theorem GZ (hw:zH ops Z) (inv:Inv cx ops Z W0 w0 LA LR s l W) (calm:Calm cx ops om LA LR s) {j:Nat} {o:Oper} {K':St→Prop} (hzj:Z j=false) (hj:j∈Region.ready .any ops LR) (uk:LA.getD j false=false) (ho:ops[j]?=some o) (hnp:AU cx o=false) (fx:bg om j=true→J' o (jE s.f (aB s.B))=true) (GX:bg om (j+64)=true→Ka o (jE s.f (aB s.B))=true) (h:Oq cx ops o s K'):
 (Region.wanted o (yielded ops (az l).tmps)=false∧∃s',K' s'∧Inv cx ops Z W0 w0 (LA.setIfInBounds j true) (LR.setIfInBounds j true) s' (iF l o.dst undef) W∧Calm cx ops om (LA.setIfInBounds j true) (LR.setIfInBounds j true) s')∨
 (Region.wanted o (yielded ops (az l).tmps)=true∧fg cx.P o (az l) W fun v W'=>∃s',K' s'∧Inv cx ops Z W0 w0 (LA.setIfInBounds j true) (LR.setIfInBounds j true) s' (iF l o.dst v) W'∧Calm cx ops om (LA.setIfInBounds j true) (LR.setIfInBounds j true) s'):=by
 obtain⟨E,hm,hf⟩:=inv.rel
 obtain⟨WA,uj⟩:=yO hw inv.nz hm hf hj ho
 have A_:j<LR.size:=by rw[inv.pH];grind
 have hjA:j<LA.size:=by rw[inv.rE];grind
 have bF:∀e∈o.after,Region.binds .any e=true→LR.getD e.on false=true:=by
  obtain⟨_,o',nG,bF⟩:=mem_ready.1 hj
  simp_all
 have WB:j∈Region.ready .any ops LA:=mem_ready.2 ⟨(dN hjA).2 uk,o,ho,fun e he hb=>inv.sub _ (bF e he hb)⟩
 have mH:∀p op,eE LA LR p→ops[p]?=some op→∀d,o.dst=some d→d∉op.looksAt ops∧op.dst≠some d:=fun p op kM fH=>zJ hw inv.Pg hzj uk kM.1 ho fH
 have agx:∀p op,eE LA LR p→ops[p]?=some op→Av (kq cx op (jE s.f (aB s.B))) (BQ cx om j o)=false:=fun p op kM fH=>by
  rcases calm p op j o kM fH ho ((dN hjA).2 uk) with h|h|h
  ·simp_all
  ·have:=KY inv.clR h ho bF
   rw[kM.2] at this;simp_all
  omega
 have px:∀{a:AV} (q:Nat),PX ops (LA.setIfInBounds j true) (LR.setIfInBounds j true) (dX s.f o.dst a) q↔PX ops LA LR s.f q:=fun{a} q=>by
  constructor
  ·rintro⟨p,op,h1,h2,h3,h4,h5⟩
   have RJ:=(fD uk A_).1 h1
   rw[jK fun d hd=>(mH p op RJ h2 d hd).1] at h5
   exact⟨p,op,RJ,h2,h3,h4,h5⟩
  ·rintro⟨p,op,h1,h2,h3,h4,h5⟩
   exact⟨p,op,(fD uk A_).2 h1,h2,h3,h4,by rw[jK fun d hd=>(mH p op h1 h2 d hd).1];omega⟩
 have fin:∀{s':St} {a:AV} {v:Value} {E':Env} {W':World},s'.f=dX s.f o.dst a→aD s.B s'.B→(∀q,PX ops LA LR s.f q→aB s'.B q=aB s.B q)→((BQ cx om j o).b=false→s'.B=s.B)→((BQ cx om j o).o=false→s'.O=s.O)→((BQ cx om j o).h=false→s'.H=s.H)→
  aQ W0 w0 (PX ops LA LR s.f) E' s'.B s'.O s'.H W'→aU E W E' W'→aK E' W' a v→Inv cx ops Z W0 w0 (LA.setIfInBounds j true) (LR.setIfInBounds j true) s' (iF l o.dst v) W'∧Calm cx ops om (LA.setIfInBounds j true) (LR.setIfInBounds j true) s':=fun{s' a v E' W'} e1 e2 e3 e4 e5 e6 rz ji hv=>by
  refine⟨⟨by simpa using inv.rE,by simpa using inv.pH,fun q hq=>?_,ft inv.Pg WB,ft inv.clR hj,⟨E',rz.gn fun q _=>by simp_all,?_⟩,fun p op kM fH=>?_,fun p kM=>inv.nz p ((fD uk A_).1 kM)⟩,vB calm uk A_ fun p op kM fH=>oy fun x hx=>(nZ (fun d hd=>(mH p op kM fH d hd).1) e1 e2 x hx).1⟩
  ·by_cases L2:j=q
   ·simp_all
   ·rw[getD_set_ne false L2] at hq
    exact getD_set_true (inv.sub q hq)
  ·rw[e1]
   exact(hf.aL ji).put hv fun t ht=>.inl fun⟨q,oq,h1,h2,h3⟩=>ht ⟨q,oq,(fD uk A_).2 h1,h2,h3⟩
  ·have xn:=(fD uk A_).1 kM
   have hc:=agx p op xn fH
   unfold Av at hc
   simp only[Bool.or_eq_false_iff,Bool.and_eq_false_iff] at hc
   refine vw (inv.prom p op xn fH) (mH p op xn fH) e1 e2 (fun d cs h1 h2 h3 hb=>by rw[e3 d ⟨p,op,xn,fH,h3,h2,h1⟩];omega) fun _=>⟨fun q hq=>?_,fun hro=>?_,fun hrh=>?_⟩
   ·grind
   ·rcases hc.1.2 with h|h
    ·rw[e5 h];exact cn.refl _
    simp_all
   simp_all
 rw[Gv] at h
 rcases kG h with⟨Pj,h⟩|⟨Pj,h⟩
 ·have h':qE cx o (jE s.f (aB s.B)) s.B s.O s.H fun a B' O' H'=>K' ⟨dX s.f o.dst a,B',O',H'⟩∧((BQ cx om j o).b=false→B'=s.B)∧((BQ cx om j o).h=false→H'=s.H):=by
   unfold BQ
   cases hom:bg om j with
   |false=>
    cases hbm:bg om (j+64) with
    |false=>exact YP h
    |true=>exact YO (GX hbm) h
   |true=>exact YN (fx hom) h
  refine .inr ⟨uj true Pj,(zD (cx:=cx) hm h' fun x hx=>(WA x hx).1).mono fun v W' ⟨av,B',O',H',E',⟨hk,r1,r2⟩,h2,h3,h4,h5,h6,h7⟩=>⟨_,hk,?_⟩⟩
  exact fin (a:=av) (E':=E') rfl h7 h6 r1 (fun hwo=>by rw[amB] at hwo;grind) r2 h3 h4 h2
 ·exact .inl ⟨uj false Pj,_,h,fin (s':=⟨dX s.f o.dst (.v .jB),s.B,s.O,s.H⟩) (a:=.v .jB) (v:=undef) (E':=E) (W':=W) rfl (aD.refl _) (fun _ _=>rfl) (fun _=>rfl) (fun _=>rfl) (fun _=>rfl) hm (aU.refl _ _) rfl⟩
def left (ops:Array Oper) (LR:Array Bool):Nat:=(List.range ops.size).countP fun j=> !LR.getD j false
theorem pO {j:Nat} (hj:j<ops.size) (ed:LR.size=ops.size) (hu:LR.getD j false=false):left ops (LR.setIfInBounds j true)+1=left ops LR:=by
 unfold left
 have:∀(l:List Nat),l.Nodup→(j∈l→(l.countP fun q=> !(LR.setIfInBounds j true).getD q false)+1=l.countP fun q=> !LR.getD q false)∧(j∉l→(l.countP fun q=> !(LR.setIfInBounds j true).getD q false)=l.countP fun q=> !LR.getD q false):=by
  intro l
  induction l with
  |nil=>simp
  |cons a l ih=>
   intro eF
   rw[List.nodup_cons] at eF
   obtain⟨i1,i2⟩:=ih eF.2
   refine⟨fun h=>?_,fun h=>?_⟩
   ·simp only[List.countP_cons]
    by_cases ha:j=a
    ·simp_all
    ·have h2:j∈l:=by
      simp_all
     rw[getD_set_ne false ha,←i1 h2]
     omega
   ·simp only[List.mem_cons,not_or] at h
    simp only[List.countP_cons]
    simp_all
 grind
theorem Cv (ed:LR.size=ops.size) (h:left ops LR=0):∀j,j<ops.size→LR.getD j false=true:=fun j hj=>by
 unfold left at h
 simp_all
theorem nI (ed:LR.size=ops.size) (h:∀j,j<ops.size→LR.getD j false=true):Region.ready .any ops LR=[]:=by
 cases hr:Region.ready .any ops LR with
 |nil=>rfl
 |cons j js=>
  have hj:j∈Region.ready .any ops LR:=by simp_all
  obtain⟨h1,o,ho,_⟩:=mem_ready.1 hj
  grind
theorem sU (hw:zH ops Z) (inv:Inv cx ops Z W0 w0 LA LR s l W) {j:Nat} {o:Oper} {Q:Exit→Act→World→Prop} {K:Act→World→Prop} (hj:j∈Region.ready .any ops LR) (hp:eE LA LR j) (ho:ops[j]?=some o) (hk:∀l' W',Inv cx ops Z W0 w0 LA (LR.setIfInBounds j true) s l' W'→K (az l') W'):wpOp cx.P ops Q j K (az l) W:=by
 unfold wpOp
 rw[ho]
 simp only
 rcases Cu hw inv hj hp ho with⟨h1,h2⟩|⟨h1,h2⟩
 ·rw[if_neg (by simp_all),fq]
  simp_all
 ·rw[if_pos h1]
  exact .inl (h2 K Q fun v W' h=>by rw[fq];simp_all)
theorem KZ (hw:zH ops (fun _=>false)) (hpo:rV ops=true) {K:St→Prop} {Q:Exit→Act→World→Prop} (hk:∀s l W,dq W0 w0 s l W→K s→Q .normal (az l) W):
 ∀(m n:Nat) (LA LR:Array Bool) (s:St) (l:Fr) (W:World),Inv cx ops (fun _=>false) W0 w0 LA LR s l W→Calm cx ops 0 LA LR s→left ops LR≤m→ua cx ops K n LA s→wpAny cx.P .any ops Q m LR (az l) W:=by
 intro m
 induction m with
 |zero=>
  intro n LA LR s l W inv calm hl h
  have bF:=Cv inv.pH (Nat.le_zero.1 hl)
  have hrA:=nI inv.rE fun j hj=>inv.sub j (bF j hj)
  have none:∀p,¬eE LA LR p:=fun p hp=>by
   have:=bF p (by have:=n_ hp.1;have:=inv.rE;omega)
   rw[hp.2] at this;simp_all
  refine⟨nI inv.pH bF,?_⟩
  have hK:K s:=by cases n<;>(unfold ua at h;simp_all)
  obtain⟨E,hm,hf⟩:=inv.rel
  exact hk s l W ⟨E,hm.gn fun i _=>⟨fun⟨p,op,h,_⟩=>none p h,fun h=>h.elim⟩,hf.1,fun t _=>hf.2 t fun⟨q,oq,h,_⟩=>none q h⟩ hK
 |succ m ihm=>
  intro n
  induction n with
  |zero=>
   intro LA LR s l W inv calm hl h
   have h':=h
   unfold ua at h
   split at h<;>first|exact h.elim|skip
   rename_i hrA
   have wQ:=iv hw inv.rE hrA
   refine⟨fun Pk=>?_,fun j hj=>?_⟩
   ·have bF:=iv hw inv.pH Pk
    have none:∀p,¬eE LA LR p:=fun p hp=>by
     have:=bF p (by have:=n_ hp.1;have:=inv.rE;omega)
     rw[hp.2] at this;simp_all
    obtain⟨E,hm,hf⟩:=inv.rel
    exact hk s l W ⟨E,hm.gn fun i _=>⟨fun⟨p,op,h,_⟩=>none p h,fun h=>h.elim⟩,hf.1,fun t _=>hf.2 t fun⟨q,oq,h,_⟩=>none q h⟩ h
   ·obtain⟨hu,o,ho,_⟩:=mem_ready.1 hj
    have aY:=b9 ho
    have kZ:LR.getD j false=false:=(dN (by grind)).1 hu
    have hp:eE LA LR j:=⟨wQ j aY,kZ⟩
    exact sU hw inv hj hp ho fun l' W' po=>ihm 0 LA _ s l' W' po (fun p op q oq h1 h2 h3 h4=>calm p op q oq (gg h1).1 h2 h3 h4) (by have:=pO aY inv.pH kZ;omega) h'
  |succ n ihn=>
   intro LA LR s l W inv calm hl h
   have h':=h
   have atI:∀j∈Region.ready .any ops LR,LA.getD j false=true→wpOp cx.P ops Q j (wpAny cx.P .any ops Q m (LR.setIfInBounds j true)) (az l) W:=fun j hj hA=>by
    obtain⟨hu,o,ho,_⟩:=mem_ready.1 hj
    have aY:=b9 ho
    have kZ:LR.getD j false=false:=(dN (by grind)).1 hu
    exact sU hw inv hj ⟨hA,kZ⟩ ho fun l' W' po=>ihm (n+1) LA _ s l' W' po (fun p op q oq h1 h2 h3 h4=>calm p op q oq (gg h1).1 h2 h3 h4) (by have:=pO aY inv.pH kZ;omega) h'
   unfold ua at h
   split at h
   ·rename_i hrA
    have wQ:=iv hw inv.rE hrA
    refine⟨fun Pk=>?_,fun j hj=>atI j hj (wQ j (by obtain⟨_,o,ho,_⟩:=mem_ready.1 hj;grind))⟩
    have bF:=iv hw inv.pH Pk
    have none:∀p,¬eE LA LR p:=fun p hp=>by
     have:=bF p (by have:=n_ hp.1;have:=inv.rE;omega)
     rw[hp.2] at this;simp_all
    obtain⟨E,hm,hf⟩:=inv.rel
    exact hk s l W ⟨E,hm.gn fun i _=>⟨fun⟨p,op,h,_⟩=>none p h,fun h=>h.elim⟩,hf.1,fun t _=>hf.2 t fun⟨q,oq,h,_⟩=>none q h⟩ h
   ·rename_i r rs hr
    split at h
    ·rename_i i hi
     split at h<;>first|exact h.elim|skip
     rename_i o ho
     have Cw:i∈Region.ready .any ops LA:=by grind
     have yd:BO cx ops LA i s=true:=List.find?_some (p:=fun i=>BO cx ops LA i s) hi
     unfold BO at yd
     rw[ho] at yd
     simp only[Bool.and_eq_true] at yd
     obtain⟨s',jl,po,ve⟩:=vA hw inv rfl Cw ho yd.1 h
     refine ihn _ LR s' l W po (fun p op q oq hp fH hq hu=>?_) hl jl
     have huq:LA.getD q true=false∧q≠i:=by
      refine⟨?_,fun e=>?_⟩
      ·cases RK:LA.getD q true with
       |false=>rfl
       |true=>
        by_cases EK:i=q
        all_goals simp_all
      simp_all
     by_cases yc:p=i
     ·subst yc
      rw[ve p op fH (.inl rfl)]
      rw[ho] at fH
      injection fH with fH
      subst fH
      have:=List.all_eq_true.1 yd.2 q (by grind)
      rw[hq] at this
      simp only[Bool.or_eq_true,beq_iff_eq,huq.2,huq.1,false_or,Bool.false_eq_true,Bool.not_eq_true'] at this
      rcases this with(h|h)|h
      ·simp_all
      ·exact .inr (.inl (L1 hpo (q+1) q (Nat.lt_succ_self q) (b9 hq) (b9 ho) h))
      ·exact .inr (.inr (by rw[amA];omega))
     ·have ji:=lH hp yc
      rw[ve p op fH (.inr ji)]
      exact calm p op q oq ji fH hq huq.1
    ·refine⟨fun Pk=>?_,fun j hj=>?_⟩
     ·have bF:=iv hw inv.pH Pk
      have:=nI inv.rE fun j hj=>inv.sub j (bF j hj)
      simp_all
     ·cases hA:LA.getD j false with
      |true=>simp_all
      |false=>
       obtain⟨hu,o,ho,bF⟩:=mem_ready.1 hj
       have aY:=b9 ho
       have kZ:LR.getD j false=false:=(dN (by grind)).1 hu
       have WB:j∈Region.ready .any ops LA:=mem_ready.2 ⟨(dN (by rw[inv.rE];omega)).2 hA,o,ho,fun e he hb=>inv.sub _ (bF e he hb)⟩
       have akQ:=WB
       rw[hr] at akQ
       have h:=sE h j akQ
       rw[ho] at h
       simp only at h
       have EL:left ops (LR.setIfInBounds j true)≤m:=by have:=pO aY inv.pH kZ;omega
       unfold J6 at h
       split at h
       ·rename_i hp
        obtain⟨s',jl,po,ve⟩:=vA hw inv rfl WB ho hp h
        refine sU hw po hj ⟨by simp[Array.getD,show j<LA.size by rw[inv.rE];omega],kZ⟩ ho fun l' W' amC=>ihm n _ _ s' l' W' amC (vB calm hA (by grind) fun p op hp fH=>ve p op fH (.inr hp)) EL jl
       ·rename_i hp
        unfold wpOp
        rw[ho]
        simp only
        rcases GZ hw inv calm rfl hj hA ho hp (fun ht=>by rw[tb0] at ht;grind) (fun ht=>by rw[tb0] at ht;grind) h with⟨h1,s',h2,h3,h4⟩|⟨h1,h2⟩
        ·rw[if_neg (by simp_all),fq]
         grind
        ·rw[if_pos h1]
         exact .inl (h2 _ Q fun v W' ⟨s',g2,g3,g4⟩=>by rw[fq];grind)
end
theorem hZ (m i:Nat):bg m i=m.testBit i:=by
 unfold bg Nat.testBit
 show Nat.beq ((m>>>i)&&&1) 1=_
 rw[Nat.and_comm]
 rcases Nat.mod_two_eq_zero_or_one (m>>>i) with h|h
 ·rw[Nat.one_and_eq_mod_two,h];rfl
 simp_all
theorem iX (a b i:Nat):bg (Nat.lor a b) i=(bg a i||bg b i):=by
 rw[hZ,hZ,hZ];simp
theorem qM (a b i:Nat):bg (Nat.land a b) i=(bg a i&&bg b i):=by
 rw[hZ,hZ,hZ];simp
theorem pP (n i:Nat):bg (Nat.pow 2 n) i=decide (n=i):=by
 rw[hZ]
 show(2^n).testBit i=_
 grind
theorem jL (i:Nat):bg 0 i=false:=by rw[hZ];simp
theorem beq_true {a b:Nat} (h:Nat.beq a b=true):a=b:=Nat.eq_of_beq_eq_true h
theorem nJ {a b:Nat} (h:Nat.beq (Nat.land a b) 0=true) {i:Nat} (h1:bg a i=true) (h2:bg b i=true):False:=by
 have:=qM a b i
 rw[beq_true h,jL,h1,h2] at this
 simp_all
theorem TS {a b:Nat} (h:Nat.beq (Nat.land a b) a=true) {i:Nat} (h1:bg a i=true):bg b i=true:=by
 have:=qM a b i
 simp_all
theorem Pl {a b:Nat} (h:Nat.beq (Nat.land a b) b=true) {i:Nat} (h1:bg b i=true):bg a i=true:=by
 have:=qM a b i
 simp_all
theorem vC:∀(l:List Edge) (m i:Nat),bg (ru l m) i=true↔bg m i=true∨∃e∈l,Region.binds .any e=true∧e.on=i
 |[],m,i=>by simp[ru]
 |e::r,m,i=>by
  unfold ru
  split
  ·rename_i hb
   rw[vC r,iX,pP]
   grind
  ·rename_i hb
   rw[vC r]
   simp_all
theorem Cy:∀(l:List Tmp) (m i:Nat),bg (ub l m) i=true↔bg m i=true∨i∈l
 |[],m,i=>by simp[ub]
 |t::r,m,i=>by
  unfold ub
  rw[Cy r,iX,pP]
  grind
theorem Pm (o:Oper) (i:Nat):bg (J8 o) i=true↔o.dst=some i:=by
 unfold J8
 split
 ·rename_i d hd
  rw[pP];grind
 ·rename_i hd
  rw[jL];grind
structure Pn (cx:Cx) (ops:Array Oper) (o:Oper) (t:fO):Prop where
 em:∀i,bg t.em i=true↔∃e∈o.after,Region.binds .any e=true∧e.on=i
 ef:AU cx o= !t.ef
 lk:∀i,bg t.lk i=true↔i∈o.looksAt ops
 ds:∀i,bg t.ds i=true↔o.dst=some i
theorem agy {cx:Cx} {ops:Array Oper} {o:Oper} {t:fO} (h:J9 cx ops o t=true):Pn cx ops o t:=by
 unfold J9 at h
 simp only[Bool.and_eq_true] at h
 obtain⟨⟨⟨h1,h2⟩,h3⟩,h4⟩:=h
 refine⟨fun i=>?_,?_,fun i=>?_,fun i=>?_⟩
 ·rw[←beq_true h1,vC,jL];simp
 ·grind
 ·rw[←beq_true h3,Cy,jL];simp
 ·rw[←beq_true h4,Pm]
theorem G0:∀(l:List fO) (i:Nat),Vh l i=l[i]?
 |[],_=>rfl
 |_::_,0=>rfl
 |_::r,n+1=>by simp only[Vh,G0 r n,List.getElem?_cons_succ]
theorem RL {cx:Cx} {ops:Array Oper}:∀{os:List Oper} {tb:List fO},Aw cx ops os tb=true→os.length=tb.length∧∀(i:Nat) o t,os[i]?=some o→tb[i]?=some t→Pn cx ops o t
 |[],[],_=>⟨rfl,fun i o t h=>by simp⟩
 |[],_::_,h=>by cases h
 |_::_,[],h=>by cases h
 |o::r,t::ts,h=>by
  have h:(J9 cx ops o t&&Aw cx ops r ts)=true:=h
  rw[Bool.and_eq_true] at h
  obtain⟨h1,h2⟩:=RL h.2
  refine⟨by grind,fun i o' t' ho ht=>?_⟩
  cases i with
  |zero=>simp at ho ht;subst ho ht;exact agy h.1
  |succ i=>grind
section
variable {cx:Cx} {ops:Array Oper} {tb:List fO}
structure Cz (cx:Cx) (ops:Array Oper) (tb:List fO):Prop where
 len:ops.size=tb.length
 ent:∀(i:Nat) o t,ops[i]?=some o→tb[i]?=some t→Pn cx ops o t
theorem YT (h:Aw cx ops ops.toList tb=true):Cz cx ops tb:=by
 obtain⟨h1,h2⟩:=RL h
 exact⟨by omega,fun i o t ho ht=>h2 i o t (by simp_all) ht⟩
theorem Cz.get (h:Cz cx ops tb) {i:Nat} {o:Oper} (ho:ops[i]?=some o):∃t,tb[i]?=some t∧Pn cx ops o t:=by
 have aY:=b9 ho
 have ht:tb[i]?=some (tb[i]'(by rw[←h.len];omega)):=List.getElem?_eq_getElem _
 exact⟨_,ht,h.ent i o _ ho ht⟩
theorem Cz.op (h:Cz cx ops tb) {i:Nat} {t:fO} (ht:tb[i]?=some t):∃o,ops[i]?=some o∧Pn cx ops o t:=by
 have aY:=(List.getElem?_eq_some_iff.1 ht).1
 have ho:ops[i]?=some (ops[i]'(by rw[h.len];omega)):=Array.getElem?_eq_getElem _
 exact⟨_,ho,h.ent i _ t ho ht⟩
theorem L3 {zm:Nat} {t:fO} {i:Nat}:∀{l:List fO} {j0:Nat},Ey zm t i l j0=true→∀(k:Nat) u,l[k]?=some u→i≠j0+k→bg zm (j0+k)=false→bg t.em (j0+k)=true∨∀d,bg u.ds d=true→bg t.lk d=false∧bg t.ds d=false
 |[],_,_,k,u,hu,_,_=>by simp_all
 |v::r,j0,h,k,u,hu,bb,hz=>by
  unfold Ey at h
  rw[Bool.and_eq_true] at h
  cases k with
  |zero=>
   simp at hu
   subst hu
   simp only[Bool.or_eq_true] at h
   rcases h.1 with((h1|h1)|h1)|h1
   ·simp_all
   ·simp_all
   ·simp_all
   ·refine .inr fun d hd=>?_
    constructor
    ·cases hl:bg t.lk d with
     |false=>rfl
     |true=>exact(nJ h1 (i:=d) (by rw[iX,hl];rfl) hd).elim
    ·cases hl:bg t.ds d with
     |false=>rfl
     |true=>exact(nJ h1 (i:=d) (by rw[iX,hl];simp) hd).elim
  |succ k=>
   have:=L3 h.2 k u (by simp_all) (by omega) (by grind)
   grind
theorem um {zm:Nat} {all:List fO}:∀{l:List fO} {i0:Nat},Rt zm all l i0=true→∀(k:Nat) t,l[k]?=some t→t.em<2^(i0+k)∧(∀d,bg t.lk d=true→bg t.ds d=true→False)∧Ey zm t (i0+k) all 0=true
 |[],_,_,k,t,ht=>by simp_all
 |u::r,i0,h,k,t,ht=>by
  unfold Rt at h
  simp only[Bool.and_eq_true] at h
  obtain⟨⟨⟨h1,h2⟩,h3⟩,h4⟩:=h
  cases k with
  |zero=>
   simp at ht
   subst ht
   refine⟨?_,fun d a b=>nJ h2 a b,h3⟩
   simp_all
  |succ k=>
   have:=um h4 k t (by simp_all)
   grind
theorem vD {m n i:Nat} (h:m<2^n) (hb:bg m i=true):i<n:=by
 rw[hZ] at hb
 rcases Nat.lt_or_ge i n with h1|h1
 ·omega
 ·have:=Nat.testBit_lt_two_pow (Nat.lt_of_lt_of_le h (Nat.pow_le_pow_right (by omega) h1))
  simp_all
theorem YU {zm:Nat} (ht:Cz cx ops tb) (h:Rt zm tb tb 0=true):zH ops (bg zm):=by
 refine⟨fun i oi hi e he hb=>?_,fun i oi hi d hd hl=>?_,fun i j oi oj hi hj bb hz=>?_⟩
 ·obtain⟨t,h1,h2⟩:=ht.get hi
  obtain⟨h3,_,_⟩:=um h i t h1
  rw[Nat.zero_add] at h3
  exact vD h3 ((h2.em e.on).2 ⟨e,he,hb,rfl⟩)
 ·obtain⟨t,h1,h2⟩:=ht.get hi
  obtain⟨_,h3,_⟩:=um h i t h1
  exact h3 d ((h2.lk d).2 hl) ((h2.ds d).2 hd)
 ·obtain⟨t,h1,h2⟩:=ht.get hi
  obtain⟨u,h3,h4⟩:=ht.get hj
  obtain⟨_,_,h5⟩:=um h i t h1
  rw[Nat.zero_add] at h5
  have:=L3 h5 j u h3 (by omega) (by simp_all)
  rw[Nat.zero_add] at this
  rcases this with h6|h6
  ·exact .inl ((h2.em j).1 h6)
  ·refine .inr fun d hd=>?_
   obtain⟨h7,h8⟩:=h6 d ((h4.ds d).2 hd)
   refine⟨fun hm=>?_,fun hm=>?_⟩
   ·rw[(h2.lk d).2 hm] at h7;grind
   ·rw[(h2.ds d).2 hm] at h8;grind
theorem D3 {em:Nat}:∀{l:List fO} {i0 m k:Nat},bg (J_ em l i0 m) k=true→bg m k=true∨∃(j:Nat) (t:fO),l[j]?=some t∧bg em (i0+j)=true∧(k=i0+j∨bg t.an k=true)
 |[],_,m,k,h=>.inl h
 |t::r,i0,m,k,h=>by
  have sh:(∃(j:Nat) (t:fO),r[j]?=some t∧bg em (i0+1+j)=true∧(k=i0+1+j∨bg t.an k=true))→∃(j:Nat) (t':fO),(t::r)[j]?=some t'∧bg em (i0+j)=true∧(k=i0+j∨bg t'.an k=true):=fun⟨j,u,h1,h2,h3⟩=>
   ⟨j+1,u,by simp_all,by grind,by grind⟩
  unfold J_ at h
  split at h
  ·rename_i hb
   rcases D3 h with h1|h1
   ·rw[iX,iX,pP] at h1
    simp only[Bool.or_eq_true,decide_eq_true_eq] at h1
    rcases h1 with h1|h1|h1
    ·simp_all
    ·exact .inr ⟨0,t,rfl,hb,.inl h1.symm⟩
    ·exact .inr ⟨0,t,rfl,hb,.inr h1⟩
   simp_all
  ·rcases D3 h with h1|h1
   all_goals simp_all
theorem G1 {all:List fO}:∀{l:List fO},wO all l=true→∀t∈l,∀k,bg t.an k=true→bg (J_ t.em all 0 0) k=true
 |[],_,t,ht=>by simp_all
 |u::r,h,t,ht=>by
  unfold wO at h
  rw[Bool.and_eq_true] at h
  rcases List.mem_cons.1 ht with rfl|ht
  ·intro k hk
   have h1:=h.1
   split at h1
   ·rename_i h0;rw[h0,jL] at hk;grind
   ·rename_i n hn;exact Pl h1 hk
  ·exact G1 h.2 t ht
theorem L4 {zm:Nat} (ht:Cz cx ops tb) (hw:Rt zm tb tb 0=true) (ha:wO tb tb=true):∀(n j:Nat) {t:fO} {k:Nat},j<n→tb[j]?=some t→bg t.an k=true→RH ops j k
 |0,_,_,_,h,_,_=>absurd h (Nat.not_lt_zero _)
 |n+1,j,t,k,hj,h,hk=>by
  have h1:=G1 ha t (List.mem_of_getElem? h) k hk
  rcases D3 h1 with h2|⟨q,u,h2,h3,h4⟩
  ·rw[jL] at h2;grind
  ·rw[Nat.zero_add] at h3 h4
   obtain⟨o,ho,he⟩:=ht.op h
   obtain⟨e,Jj,hb,heq⟩:=(he.em q).1 h3
   rcases h4 with rfl|h4
   ·rw[←heq];exact .one ho Jj hb
   ·refine .more ho Jj hb ?_
    rw[heq]
    have aY:=(um hw j t h).1
    rw[Nat.zero_add] at aY
    have:=vD aY h3
    exact L4 ht hw ha n q (by omega) h2 h4
theorem CA {i:Nat} {es:List Nat} {done:Nat}:∀{l:List fO} {j0:Nat},tj i es done l j0=true→∀(k:Nat) t,l[k]?=some t→t.ef=false∨bg done (j0+k)=true∨bg t.an i=true∨Ot (j0+k) es=true
 |[],_,_,k,t,ht=>by simp_all
 |u::r,j0,h,k,t,ht=>by
  unfold tj at h
  rw[Bool.and_eq_true] at h
  cases k with
  |zero=>
   grind
  |succ k=>
   have:=CA h.2 k t (by simp_all)
   grind
theorem G2 {i done:Nat}:∀{l:List fO} {j0:Nat},pY i done l j0=true→∀(k:Nat) t,l[k]?=some t→i=j0+k∨bg done (j0+k)=true∨∃q,bg t.em q=true∧bg done q=false
 |[],_,_,k,t,ht=>by simp_all
 |u::r,j0,h,k,t,ht=>by
  unfold pY at h
  rw[Bool.and_eq_true] at h
  cases k with
  |zero=>
   simp at ht
   subst ht
   simp only[Bool.or_eq_true] at h
   rcases h.1 with(h1|h1)|h1
   ·simp_all
   ·simp_all
   ·refine .inr (.inr ?_)
    by_cases hc:∃q,bg u.em q=true∧bg done q=false
    ·omega
    ·exfalso
     have:Nat.land u.em done=u.em:=by
      refine Nat.eq_of_testBit_eq fun q=>?_
      rw[←hZ,←hZ,qM]
      simp_all
     simp_all
  |succ k=>
   have:=G2 h.2 k t (by simp_all)
   grind
theorem G3 {t:fO} {done:Nat}:∀{l:List fO} {j0:Nat},xh t done l j0=true→∀(k:Nat) u,l[k]?=some u→bg done (j0+k)=false∨bg t.em (j0+k)=true∨∀d,bg t.ds d=true→bg u.lk d=false∧bg u.ds d=false
 |[],_,_,k,u,hu=>by simp_all
 |v::r,j0,h,k,u,hu=>by
  unfold xh at h
  rw[Bool.and_eq_true] at h
  cases k with
  |zero=>
   simp at hu
   subst hu
   simp only[Bool.or_eq_true,Bool.not_eq_true'] at h
   rcases h.1 with(h1|h1)|h1
   ·simp_all
   ·simp_all
   ·refine .inr (.inr fun d hd=>⟨?_,?_⟩)
    ·cases hl:bg v.lk d with
     |false=>rfl
     |true=>exact(nJ h1 (i:=d) (by rw[iX,hl];rfl) hd).elim
    ·cases hl:bg v.ds d with
     |false=>rfl
     |true=>exact(nJ h1 (i:=d) (by rw[iX,hl];simp) hd).elim
  |succ k=>
   have:=G3 h.2 k u (by simp_all)
   grind
theorem G4 {n:Nat}:∀{l:List Nat},Ot n l=true→n∈l
 |[],h=>by cases h
 |m::r,h=>by
  unfold Ot at h
  rw[Bool.or_eq_true] at h
  rcases h with h|h
  ·simp_all
  ·exact List.mem_cons_of_mem _ (G4 h)
def acS (cx:Cx) (ops:Array Oper) (Z:Nat→Bool):List I8→Array Bool→Prop
 |[],LA=>∀j,j<ops.size→LA.getD j false=true
 |p::r,LA=>(∃o,ops[p.i]?=some o∧(p.k=0→AU cx o=true)∧(p.k=1→AU cx o=false)∧(1<p.k→∀q oq,ops[q]?=some oq→LA.getD q false=true→(∃e∈o.after,Region.binds .any e=true∧e.on=q)∨∀d,o.dst=some d→d∉oq.looksAt ops∧oq.dst≠some d))∧p.i∈Region.ready .any ops LA∧(p.k<2→Z p.i=false)∧
  (p.k=0→∀j oj,ops[j]?=some oj→LA.getD j true=false→j≠p.i→AU cx oj=true∨RH ops j p.i∨j∈p.es)∧
  (0<p.k→∀j∈Region.ready .any ops LA,j=p.i)∧acS cx ops Z r (LA.setIfInBounds p.i true)
theorem TT {n d:Nat} (h:d+1=2^n) {j:Nat} (hj:j<n):bg d j=true:=by
 rw[hZ,show d=2^n - 1 from by omega,Nat.testBit_two_pow_sub_one]
 simp_all
theorem L5 {zm:Nat} (ht:Cz cx ops tb) (hw:Rt zm tb tb 0=true) (ha:wO tb tb=true):∀(l:List I8) (done:Nat) (LA:Array Bool),LA.size=ops.size→(∀j,j<ops.size→(bg done j=true↔LA.getD j false=true))→Ax zm tb l done=true→acS cx ops (bg zm) l LA
 |[],done,LA,hs,hd,h=>fun j hj=>by
  unfold Ax at h
  exact(hd j hj).1 (TT (beq_true h) (by rw[←ht.len];omega))
 |⟨pi,pk,pes⟩::r,done,LA,hs,hd,h=>by
  unfold Ax at h
  split at h<;>first|(cases h;done)|skip
  rename_i t hn
  rw[G0] at hn
  simp only[Bool.and_eq_true,Bool.not_eq_true'] at h
  obtain⟨⟨⟨h1,h2⟩,h3⟩,h4⟩:=h
  obtain⟨o,ho,he⟩:=ht.op hn
  have aY:=b9 ho
  have hf:LA.getD pi false=false:=by
   simp_all
  have uq:pi∈Region.ready .any ops LA:=mem_ready.2 ⟨(dN (by simp_all)).2 hf,o,ho,fun e Jj hb=>by
   have h5:=(he.em e.on).2 ⟨e,Jj,hb,rfl⟩
   have h6:=(um hw _ t hn).1
   rw[Nat.zero_add] at h6
   have h7:=vD h6 h5
   exact(hd _ (by omega)).1 (TS h2 h5)⟩
  have alone:pY pi done tb 0=true→∀j∈Region.ready .any ops LA,j=pi:=fun h3 j hj=>by
   obtain⟨hu,oj,zI,bF⟩:=mem_ready.1 hj
   obtain⟨u,hu1,RM⟩:=ht.get zI
   have:=G2 h3 j u hu1
   rw[Nat.zero_add] at this
   have hjs:=b9 zI
   rcases this with h5|h5|⟨q,h5,h6⟩
   ·omega
   ·simp_all
   ·obtain⟨e,Jj,hb,heq⟩:=(RM.em q).1 h5
    grind
  have rest:=L5 ht hw ha r (Nat.lor done (Nat.pow 2 pi)) (LA.setIfInBounds pi true) (by simp_all) (fun j hj=>by
   rw[iX,pP]
   by_cases G5:pi=j
   all_goals simp_all) h4
  split at h3<;>first|(cases h3;done)|skip
  ·rename_i e1
   simp only[Bool.and_eq_true,Bool.not_eq_true'] at h3
   refine⟨⟨o,ho,fun _=>(by rw[he.ef,e1];rfl),fun h=>(by grind),fun h=>(by grind)⟩,uq,fun _=>h3.1,fun _ j oj hj hu bb=>?_,fun h=>(by grind),rest⟩
   obtain⟨u,hu1,RM⟩:=ht.get hj
   have:=CA h3.2 j u hu1
   rw[Nat.zero_add] at this
   rcases this with h5|h5|h5|h5
   ·exact .inl (by rw[RM.ef,h5];rfl)
   ·grind
   ·exact .inr (.inl (L4 ht hw ha (j+1) j (Nat.lt_succ_self j) hu1 h5))
   ·exact .inr (.inr (G4 h5))
  ·rename_i e1
   simp only[Bool.and_eq_true,Bool.not_eq_true'] at h3
   exact⟨⟨o,ho,fun h=>(by grind),fun _=>(by rw[he.ef,e1];rfl),fun h=>(by grind)⟩,uq,fun _=>h3.1,fun h=>(by grind),fun _=>alone h3.2,rest⟩
  ·simp only[Bool.and_eq_true] at h3
   refine⟨⟨o,ho,fun h=>(by grind),fun h=>(by grind),fun _ q oq hq hl=>?_⟩,uq,fun h=>(by grind),fun h=>(by grind),fun _=>alone h3.1,rest⟩
   have h5:=(hd q (b9 hq)).2 hl
   obtain⟨u,hu1,RM⟩:=ht.get hq
   have:=G3 h3.2 q u hu1
   rw[Nat.zero_add] at this
   rcases this with h6|h6|h6
   ·simp_all
   ·exact .inl ((he.em q).1 h6)
   ·refine .inr fun d hdd=>?_
    obtain⟨h7,h8⟩:=h6 d ((he.ds d).2 hdd)
    exact⟨fun hm=>(by rw[(RM.lk d).2 hm] at h7;grind),fun hm=>(by rw[(RM.ds d).2 hm] at h8;grind)⟩
theorem G6 {om:Nat} {rd:Rd}:∀{l:List Nat},tm cx ops om rd l=false→∀j∈l,∀oj,ops[j]?=some oj→Av rd (BQ cx om j oj)=false
 |[],_,j,hj=>by simp_all
 |k::r,h,j,hj=>by
  unfold tm at h
  rw[Bool.or_eq_false_iff] at h
  rcases List.mem_cons.1 hj with rfl|hj
  ·grind
  ·exact G6 h.2 j hj
end
section
variable {cx:Cx} {ops:Array Oper} {W0:World} {w0:Mk}
theorem agz {P:Program} {ρ:Operand→Value} {op:Op} (h:Vi op=true) (dst:Option Tmp) (type:TypeId) (pos:String) (after:Array Edge) (guard:Option (Nat×Bool)):∃x,x∈op.operands∧(∀(cx:Cx) (o:Oper) (r r0:Operand→AV) (B:BL) (O:OL) (H:HP) (K:AV→BL→OL→Prop),o.op=op→wM cx o r r0 B O H K→K (r x) B O)∧∀W,(execOp ρ ⟨dst,op,type,pos,after,guard⟩).run P W=.ok (.value (ρ x)) W:=by
 cases op<;>simp only[Vi] at h<;>first|(cases h;done)|skip
 all_goals
  rename_i x
  refine⟨x,by simp[Op.operands],fun cx o r r0 B O H K ho hk=>?_,fun W=>rfl⟩
  unfold wM at hk
  rw[ho] at hk
  simp only[u4] at hk
  unfold pX rT at hk
  simp_all
theorem Po {om:Nat} {Z:Nat→Bool} {LA LR:Array Bool} {s:St} {l:Fr} {W:World} (hw:zH ops Z) (inv:Inv cx ops Z W0 w0 LA LR s l W) (calm:Calm cx ops om LA LR s) {j:Nat} {o:Oper} {K':St→Prop} (hj:j∈Region.ready .any ops LR) (uk:LA.getD j false=false) (ho:ops[j]?=some o) (RN:Vi o.op=true)
 (mH:∀p op,eE LA LR p→ops[p]?=some op→∀d,o.dst=some d→d∉op.looksAt ops∧op.dst≠some d) (h:t_ cx ops o s K'):
 (Region.wanted o (yielded ops (az l).tmps)=false∧∃s',K' s'∧Inv cx ops Z W0 w0 (LA.setIfInBounds j true) (LR.setIfInBounds j true) s' (iF l o.dst undef) W∧Calm cx ops om (LA.setIfInBounds j true) (LR.setIfInBounds j true) s')∨
 (Region.wanted o (yielded ops (az l).tmps)=true∧fg cx.P o (az l) W fun v W'=>∃s',K' s'∧Inv cx ops Z W0 w0 (LA.setIfInBounds j true) (LR.setIfInBounds j true) s' (iF l o.dst v) W'∧Calm cx ops om (LA.setIfInBounds j true) (LR.setIfInBounds j true) s'):=by
 obtain⟨E,hm,hf⟩:=inv.rel
 obtain⟨WA,uj⟩:=yO hw inv.nz hm hf hj ho
 have A_:j<LR.size:=by rw[inv.pH];grind
 have hjA:j<LA.size:=by rw[inv.rE];grind
 have bF:∀e∈o.after,Region.binds .any e=true→LR.getD e.on false=true:=by
  obtain⟨_,o',nG,bF⟩:=mem_ready.1 hj
  simp_all
 have WB:j∈Region.ready .any ops LA:=mem_ready.2 ⟨(dN hjA).2 uk,o,ho,fun e he hb=>inv.sub _ (bF e he hb)⟩
 have px:∀{a:AV} (q:Nat),PX ops (LA.setIfInBounds j true) (LR.setIfInBounds j true) (dX s.f o.dst a) q↔PX ops LA LR s.f q:=fun{a} q=>by
  constructor
  ·rintro⟨p,op,h1,h2,h3,h4,h5⟩
   have RJ:=(fD uk A_).1 h1
   rw[jK fun d hd=>(mH p op RJ h2 d hd).1] at h5
   exact⟨p,op,RJ,h2,h3,h4,h5⟩
  ·rintro⟨p,op,h1,h2,h3,h4,h5⟩
   exact⟨p,op,(fD uk A_).2 h1,h2,h3,h4,by rw[jK fun d hd=>(mH p op h1 h2 d hd).1];omega⟩
 have fin:∀{a:AV} {v:Value},aK E W a v→Inv cx ops Z W0 w0 (LA.setIfInBounds j true) (LR.setIfInBounds j true) ⟨dX s.f o.dst a,s.B,s.O,s.H⟩ (iF l o.dst v) W∧Calm cx ops om (LA.setIfInBounds j true) (LR.setIfInBounds j true) ⟨dX s.f o.dst a,s.B,s.O,s.H⟩:=fun{a v} hv=>by
  refine⟨⟨by simpa using inv.rE,by simpa using inv.pH,fun q hq=>?_,ft inv.Pg WB,ft inv.clR hj,⟨E,hm.gn fun q _=>by grind,?_⟩,fun p op kM fH=>?_,fun p kM=>inv.nz p ((fD uk A_).1 kM)⟩,vB calm uk A_ fun p op kM fH=>oy fun x hx=>(nZ (s':=⟨dX s.f o.dst a,s.B,s.O,s.H⟩) (fun d hd=>(mH p op kM fH d hd).1) rfl (aD.refl _) x hx).1⟩
  ·by_cases L2:j=q
   ·simp_all
   ·rw[getD_set_ne false L2] at hq
    exact getD_set_true (inv.sub q hq)
  ·exact hf.put hv fun t ht=>.inl fun⟨q,oq,h1,h2,h3⟩=>ht ⟨q,oq,(fD uk A_).2 h1,h2,h3⟩
  ·have xn:=(fD uk A_).1 kM
   exact vw (s':=⟨dX s.f o.dst a,s.B,s.O,s.H⟩) (inv.prom p op xn fH) (mH p op xn fH) rfl (aD.refl _) (fun d cs h1 h2 h3 hb=>hb) fun _=>⟨fun q hq=>.inr rfl,fun hro=>cn.refl _,fun hrh=>rfl⟩
 rw[u5] at h
 obtain⟨dst,op,type,pos,after,guard⟩:=o
 obtain⟨x,hx,yd,d'⟩:=agz (P:=cx.P) (ρ:=(az l).eval) RN dst type pos after guard
 rcases kG h with⟨Pj,h⟩|⟨Pj,h⟩
 ·refine .inr ⟨uj true Pj,aN (d' W) ⟨_,yd _ _ _ _ _ _ _ _ rfl h,fin (WA x hx).1⟩⟩
 ·exact .inl ⟨uj false Pj,_,h,fin (a:=.v .jB) (v:=undef) rfl⟩
theorem Pp {om:Nat} {Z:Nat→Bool} (hw:zH ops Z) {K:St→Prop} {Q:Exit→Act→World→Prop} (hk:∀s l W,dq W0 w0 s l W→K s→Q .normal (az l) W):
 ∀(m:Nat) (ls:List I8) (LA LR:Array Bool) (s:St) (l:Fr) (W:World),Inv cx ops Z W0 w0 LA LR s l W→Calm cx ops om LA LR s→acS cx ops Z ls LA→left ops LR≤m→FH cx ops om K ls s→wpAny cx.P .any ops Q m LR (az l) W:=by
 intro m
 induction m with
 |zero=>
  intro ls LA LR s l W inv calm fH hl h
  have bF:=Cv inv.pH (Nat.le_zero.1 hl)
  have wQ:∀j,j<ops.size→LA.getD j false=true:=fun j hj=>inv.sub j (bF j hj)
  have none:∀p,¬eE LA LR p:=fun p hp=>by
   have:=bF p (by have:=n_ hp.1;have:=inv.rE;omega)
   rw[hp.2] at this;simp_all
  refine⟨nI inv.pH bF,?_⟩
  have hK:K s:=by
   cases ls with
   |nil=>exact h
   |cons p r=>
    obtain⟨⟨o,ho,_⟩,hr,_⟩:=fH
    rw[nI inv.rE wQ] at hr
    grind
  obtain⟨E,hm,hf⟩:=inv.rel
  exact hk s l W ⟨E,hm.gn fun i _=>⟨fun⟨p,_,h,_⟩=>none p h,fun h=>h.elim⟩,hf.1,fun t _=>hf.2 t fun⟨q,oq,h,_⟩=>none q h⟩ hK
 |succ m ihm=>
  intro ls
  induction ls with
  |nil=>
   intro LA LR s l W inv calm fH hl h
   have wQ:∀j,j<ops.size→LA.getD j false=true:=fH
   refine⟨fun Pk=>?_,fun j hj=>?_⟩
   ·have bF:=iv hw inv.pH Pk
    have none:∀p,¬eE LA LR p:=fun p hp=>by
     have:=bF p (by have:=n_ hp.1;have:=inv.rE;omega)
     rw[hp.2] at this;simp_all
    obtain⟨E,hm,hf⟩:=inv.rel
    exact hk s l W ⟨E,hm.gn fun i _=>⟨fun⟨p,_,h,_⟩=>none p h,fun h=>h.elim⟩,hf.1,fun t _=>hf.2 t fun⟨q,oq,h,_⟩=>none q h⟩ h
   ·obtain⟨hu,o,ho,_⟩:=mem_ready.1 hj
    have aY:=b9 ho
    have kZ:LR.getD j false=false:=(dN (by grind)).1 hu
    have hp:eE LA LR j:=⟨wQ j aY,kZ⟩
    exact sU hw inv hj hp ho fun l' W' po=>ihm [] LA _ s l' W' po (fun p op q oq h1 h2 h3 h4=>calm p op q oq (gg h1).1 h2 h3 h4) fH (by have:=pO aY inv.pH kZ;omega) h
  |cons p r ihl=>
   intro LA LR s l W inv calm fH hl h
   have atJ:=fH
   obtain⟨⟨o,ho,hk0,zK,G7⟩,uq,hz,h1,h2,h3⟩:=fH
   have aY:=b9 ho
   have h':=h
   have uk:LA.getD p.i false=false:=(dN (by rw[inv.rE];omega)).1 (mem_ready.1 uq).1
   have ready:0<p.k→(∀hj:p.i∈Region.ready .any ops LR,LR.getD p.i false=false→left ops (LR.setIfInBounds p.i true)≤m→wpOp cx.P ops Q p.i (wpAny cx.P .any ops Q m (LR.setIfInBounds p.i true)) (az l) W)→wpAny cx.P .any ops Q (m+1) LR (az l) W:=fun hpk hdo=>by
    refine⟨fun Pk=>?_,fun j hj=>?_⟩
    ·have:=inv.sub _ (iv hw inv.pH Pk p.i aY)
     simp_all
    ·obtain⟨hu,oj,zI,bF⟩:=mem_ready.1 hj
     have atK:=b9 zI
     have kZ:LR.getD j false=false:=(dN (by grind)).1 hu
     have EL:left ops (LR.setIfInBounds j true)≤m:=by have:=pO atK inv.pH kZ;omega
     cases hA:LA.getD j false with
     |true=>exact sU hw inv hj ⟨hA,kZ⟩ zI fun l' W' po=>ihm (p::r) LA _ s l' W' po (fun p op q oq h1 h2 h3 h4=>calm p op q oq (gg h1).1 h2 h3 h4) atJ EL h'
     |false=>
      have WB:j∈Region.ready .any ops LA:=mem_ready.2 ⟨(dN (by rw[inv.rE];omega)).2 hA,oj,zI,fun e he hb=>inv.sub _ (bF e he hb)⟩
      simp_all
   unfold FH at h
   rw[ho] at h
   simp only at h
   split at h
   ·rename_i hef
    split at h<;>first|exact h.elim|skip
    rename_i kT
    obtain⟨s',jl,po,ve⟩:=vA hw inv (hz (by omega)) uq ho (hk0 hef) h
    refine ihl _ LR s' l W po (fun q oq j oj hq yb hj hu=>?_) h3 hl jl
    have huj:LA.getD j true=false∧j≠p.i:=by
     refine⟨?_,fun e=>?_⟩
     ·cases hj':LA.getD j true with
      |false=>rfl
      |true=>
       by_cases G5:p.i=j
       all_goals simp_all
     simp_all
    by_cases EK:q=p.i
    ·subst EK
     rw[ve _ oq yb (.inl rfl)]
     rw[ho] at yb
     injection yb with yb
     subst yb
     rcases h1 hef j oj hj huj.1 huj.2 with h4|h4|h4
     ·simp_all
     ·simp_all
     ·exact .inr (.inr (G6 kT j h4 oj hj))
    ·have RK:=lH hq EK
     rw[ve q oq yb (.inr RK)]
     exact calm q oq j oj RK yb hj huj.1
   ·rename_i hef
    split at h<;>first|exact h.elim|skip
    rename_i aDR
    refine ready (by omega) fun hj kZ EL=>?_
    unfold wpOp
    rw[ho]
    simp only
    rcases GZ hw inv calm (hz (by omega)) hj uk ho (zK hef) (fun ht=>by simp_all) (fun ht=>by simp_all) h with⟨h4,s',h5,h6,h7⟩|⟨h4,h5⟩
    ·rw[if_neg (by simp_all),fq]
     grind
    ·rw[if_pos h4]
     exact .inl (h5 _ Q fun v W' ⟨s',g2,g3,g4⟩=>by rw[fq];grind)
   ·rename_i n hef
    refine ready (by omega) fun hj kZ EL=>?_
    split at h<;>first|exact h.elim|skip
    rename_i RN
    unfold wpOp
    rw[ho]
    simp only
    rcases Po hw inv calm hj uk ho RN (fun q oq hq yb=>by
     rcases G7 (by omega) q oq yb hq.1 with⟨e,he,hb,heq⟩|h
     ·obtain⟨_,o',nG,bF⟩:=mem_ready.1 hj
      rw[ho] at nG
      injection nG with nG
      subst nG
      have:=bF e he hb
      rw[heq,hq.2] at this;grind
     omega) h with⟨h4,s',h5,h6,h7⟩|⟨h4,h5⟩
    ·rw[if_neg (by grind),fq]
     grind
    ·rw[if_pos h4]
     exact .inl (h5 _ Q fun v W' ⟨s',g2,g3,g4⟩=>by rw[fq];grind)
end
section
variable {W0:World} {w0:Mk} {X:Nat→Prop} {E E':Env} {B:BL} {O:OL} {H:HP} {W:World}
structure oQ (t:Nat) (E:Env) (E':Env):Prop where
 im:∀b,E.w b=none→E'.w b=none
 ex:∀b,E.w b=some .ext→E'.w b=some .ext
 bx:∀i,E.va i=true→E'.va i=true∧E'.aC i=E.aC i
 ow:∀k,k/64≠t→E.vo k=true→E'.vo k=true∧E'.bo k=E.bo k
 ba:E'.base=E.base
theorem oQ.aG {t:Nat} (h:oQ t E E'):mb (aG E.w) (aG E'.w) W W:=fun b hb _=>⟨h.im b hb,bl.of rfl⟩
theorem oQ.rd {t:Nat} (h:oQ t E E'):mb (Gs E.w) (Gs E'.w) W W:=fun b hb _=>⟨hb.imp (h.im b) (h.ex b),bl.of rfl⟩
theorem bc.kill {t:Nat} (h:oQ t E E') {a:bA} {v:Value} (hv:bc E W a v):bc E' W (ud t a) v:=by
 cases a with
 |c k x=>exact hv
 |ref x=>exact hv
 |row e xs=>
  obtain⟨g,h0,s,hs,hr⟩:=hv
  exact⟨g,h0,s,hs,hr.aG h.aG h0 fun _ _ hd=>hd.aG h.aG g⟩
 |bQ e xs=>
  obtain⟨g,h0,s,hs,hr⟩:=hv
  exact⟨g,h0,s,hs,hr.aG h.rd h0 fun _ _ hd=>hd.aG h.aG g⟩
 |jA=>exact hv
 |bx i j=>
  obtain⟨h1,h2⟩:=hv
  obtain⟨h3,h4⟩:=h.bx i h1
  exact⟨h3,by simp_all⟩
 |op n k j=>exact hv
 |own k=>
  show bc E' W (if k/64=t then .dead else .own k) v
  split
  ·trivial
  ·rename_i hk
   obtain⟨h1,h2⟩:=hv
   obtain⟨h3,h4⟩:=h.ow k hk h1
   exact⟨h3,by simp_all⟩
 |part k n off len=>
  show bc E' W (if k/64=t then .dead else .part k n off len) v
  split
  ·trivial
  ·rename_i hk
   obtain⟨h1,h2⟩:=hv
   obtain⟨h3,h4⟩:=h.ow k hk h1
   exact⟨h3,by simp_all⟩
 |o4 k n i j=>
  show bc E' W (if k/64=t then .dead else .o4 k n i j) v
  split
  ·trivial
  ·rename_i hk
   obtain⟨h1,h2⟩:=hv
   obtain⟨h3,h4⟩:=h.ow k hk h1
   exact⟨h3,by simp_all⟩
 |rp e x j=>
  obtain⟨g,h0,p,cs,hs,hw,hl,hc,hd⟩:=hv
  exact⟨g,h0,p,cs,hs,hw.imp (h.im _) (h.ex _),hl,hc,hd.aG h.aG g⟩
 |lit xs=>
  obtain⟨b,n,t,C,fz,hs,hb,hw,hh,hC,hn⟩:=hv
  exact⟨b,n,t,C,fz,hs,by rw[h.ba];omega,h.im b hw,hh,hC,hn⟩
 |mo g ns=>exact hv
 |tT e p j=>exact hv
 |jB=>exact hv
 |dead=>trivial
theorem aX.kill {t:Nat} (h:oQ t E E'):∀{l:List bA} {vs:List Value},aX E W l vs→aX E' W (l.map (ud t)) vs
 |[],[],_=>trivial
 |_::_,_::_,hv=>⟨hv.1.kill h,aX.kill h hv.2⟩
 |[],_::_,hv=>hv.elim
 |_::_,[],hv=>hv.elim
theorem eP.kill {t:Nat} (h:oQ t E E'):∀{l:List o5} {vs:List Value},eP E W l vs→eP E' W (l.map (aac t)) vs
 |[],[],_=>trivial
 |.s a::_,_::_,hv=>⟨bc.kill h hv.1,eP.kill h hv.2⟩
 |.g l::_,_::_,hv=>⟨by obtain⟨vs,e,hv⟩:=hv.1;exact⟨vs,e,hv.kill h⟩,eP.kill h hv.2⟩
 |[],_::_,hv=>hv.elim
 |_::_,[],hv=>hv.elim
theorem aK.kill {t:Nat} (h:oQ t E E') {a:AV} {v:Value} (hv:aK E W a v):aK E' W (ue t a) v:=by
 cases a with
 |v a=>exact bc.kill h hv
 |agg l=>obtain⟨vs,e,hv⟩:=hv;exact⟨vs,e,hv.kill h⟩
 |ma l=>obtain⟨vs,e,hv⟩:=hv;exact⟨vs,e,hv.kill h⟩
def aas (t:Nat):jm→jm
 |.bx nm cs=>.bx nm (cs.map (ud t))
 |b=>b
theorem CB (t:Nat):∀(B:BL) (i:Nat),aB (Ay t B) i=aas t (aB B i)
 |[],i=>rfl
 |(j,b)::r,i=>by
  cases b<;>simp only[Ay,aB]<;>split<;>first|rfl|exact CB t r i
theorem Pq (t:Nat):∀(f:FA) (i:Nat),cC (f.map (ue t)) i=ue t (cC f i):=fun f i=>by
 by_cases h:i<f.length
 ·rw[mz h,mz (f:=f.map (ue t)) h];rfl
 ·rw[lW f (Nat.le_of_not_lt h),lW (f.map (ue t)) (Nat.le_of_not_lt h)];rfl
def xo (w:Mk) (t n:Nat):Mk:=fun b=>match w b with
 |some (.ob m)=>if m=n then some (.lb t) else some (.ob m)
 |some (.oo m j)=>if m=n then some (.lo (t*64+j)) else some (.oo m j)
 |τ=>τ
theorem vE {w:Mk} {t n b:Nat}:xo w t n b=none↔w b=none:=by
 unfold xo
 grind
theorem mA {w:Mk} {t n b:Nat} {τ:Tag}:xo w t n b=some τ↔(w b=some τ∧τ≠.ob n∧∀j,τ≠.oo n j)∨(τ=.lb t∧w b=some (.ob n))∨∃j,τ=.lo (t*64+j)∧w b=some (.oo n j):=by
 unfold xo
 grind
theorem sF {t:Nat}:∀{k:AK} {j:Nat} {O:OL} {i:Nat},wP t k j O=true→j≤i→k.bh (i - j)=true→aw O (t*64+i)=.no∨aw O (t*64+i)=.gone
 |.own e _,j,O,i,h,h1,h2=>by
  simp[AK.bh] at h2
  have:i=j:=by omega
  subst this
  simp only[wP] at h
  grind
 |.cons a b,j,O,i,h,h1,h2=>by
  simp only[wP,Bool.and_eq_true] at h
  simp only[AK.bh] at h2
  split at h2
  ·exact sF h.1 h1 h2
  ·exact sF h.2 (by omega) (by grind)
 |.one _,_,_,_,_,_,h=>by simp[AK.bh] at h
 |.byte,_,_,_,_,_,h=>by simp[AK.bh] at h
 |.ref,_,_,_,_,_,h=>by simp[AK.bh] at h
 |.row _,_,_,_,_,_,h=>by simp[AK.bh] at h
 |.bQ _,_,_,_,_,_,h=>by simp[AK.bh] at h
 |.nil,_,_,_,_,_,h=>by simp[AK.bh] at h
theorem lp.kill {t i:Nat} {b:jm} (h:lp X E W i b) (hp:oQ t E E') (hs:∀c,E'.w c=some (.lb i)↔E.w c=some (.lb i)) (kC:E.va i=false→E'.va i=false):lp X E' W i (aas t b):=by
 have nt:(∀b,E.w b≠some (.lb i))→∀b,E'.w b≠some (.lb i):=fun h b e=>h b ((hs b).1 e)
 cases b with
 |no=>exact⟨nt h.1,kC h.2⟩
 |bx nm cells=>
  refine⟨fun x=>⟨nt (h.1 x).1,kC (h.1 x).2⟩,fun x=>?_⟩
  obtain⟨h1,h2,h3,vs,t',h4,h5⟩:=h.2 x
  obtain⟨h6,h7⟩:=hp.bx i h1
  refine⟨h6,fun b=>by simp_all,fun n hn=>by simp_all,vs,t',?_,h5.kill hp⟩
  simp_all
 |closed n k=>
  obtain⟨h1,h2,h3⟩:=h
  obtain⟨h6,h7⟩:=hp.bx i h1
  exact⟨h6,by omega,nt h3⟩
theorem gV.amD {t k:Nat} {b:cw} (h:gV E W k b) (hp:oQ t E E') (hs:∀c,E'.w c=some (.lo k)↔E.w c=some (.lo k)) (fP:E'.vo k=E.vo k) (hh:E'.bo k=E.bo k):gV E' W k b:=by
 have nt:(∀b,E.w b≠some (.lo k))→∀b,E'.w b≠some (.lo k):=fun h b e=>h b ((hs b).1 e)
 cases b with
 |no=>exact⟨nt h.1,by rw[fP];exact h.2⟩
 |own e t xs=>
  obtain⟨h1,g,h0,h2⟩:=h
  exact⟨by simp_all,g,h0,by rw[hh];exact h2.bk g hp.aG (fun _ _=>rfl) fun b=>hs b⟩
 |jC e xs=>
  obtain⟨h1,g,h0,h2,h3⟩:=h
  exact⟨by simp_all,g,h0,by rw[hh];exact h2.aG hp.aG h0 fun _ _ hd=>hd.aG hp.aG g,nt h3⟩
 |gone=>exact⟨by rw[fP];exact h.1,nt h.2⟩
theorem L6 {s:St} {l:Fr} {t n:Nat} {k:AK} {x:k.T} (hs:dq W0 w0 s l W) (cJ:wP t k 0 s.O=true) (hg:k.bd=true) (ed:k.sz≤32) (hb:aB s.B t=.no∨∃k',aB s.B t=.closed n k') (hx:s.H n=some ⟨k,x⟩) (hv:dM l t=.pointer (some ⟨n,0,none⟩)):
 dq W0 w0 (Vq t k n x s) l W:=by
 obtain⟨E,hm,hf⟩:=hs
 have fx:=hm.ob n
 rw[hx] at fx
 obtain⟨aDS,aDT,vs,ty,rX,Kh⟩:=fx.dat hg
 obtain⟨hd,dL,QJ⟩:=qG hg Kh
 have Gr:=hm.bx t
 have nlb:∀b,E.w b≠some (.lb t):=by
  rcases hb with h|⟨k',h⟩<;>rw[h] at Gr
  ·exact Gr.1
  ·exact Gr.2.2
 have ayu:E.va t=true→E.aC t=n:=fun kC=>by
  rcases hb with h|⟨k',h⟩<;>rw[h] at Gr
  ·rw[Gr.2] at kC;grind
  ·exact Gr.2.1
 let Ps:Nat→Bool:=fun q=>decide (t*64≤q)&&k.bh (q - t*64)
 have xr:∀q,Ps q=true↔t*64≤q∧k.bh (q - t*64)=true:=fun q=>by grind
 have arU:∀q,Ps q=true→q/64=t:=fun q hq=>by
  obtain⟨h1,h2⟩:=(xr q).1 hq
  have:=lV h2
  omega
 have nlo:∀q,Ps q=true→∀b,E.w b≠some (.lo q):=fun q hq=>by
  obtain⟨h1,h2⟩:=(xr q).1 hq
  have h3:=sF cJ (i:=q - t*64) (Nat.zero_le _) (by omega)
  rw[show t*64+(q - t*64)=q from by omega] at h3
  have:=hm.ow q
  rcases h3 with h3|h3<;>rw[h3] at this
  ·exact this.1
  ·exact this.2
 let E':Env:=⟨xo E.w t n,fun i=>if i=t then n else E.aC i,fun q=>if Ps q then hd (q - t*64) else E.bo q,fun i=>if i=t then true else E.va i,fun q=>if Ps q then true else E.vo q,E.base⟩
 have pk:oQ t E E':=⟨fun b hb=>vE.2 hb,fun b hb=>mA.2 (.inl ⟨hb,by simp,by simp⟩),fun i hi=>by
  grind,fun q hq fP=>by
  grind,rfl⟩
 have lbS:∀i,i≠t→∀c,E'.w c=some (.lb i)↔E.w c=some (.lb i):=fun i hi c=>by
  show xo E.w t n c=_↔_
  rw[mA]
  simp_all
 have loS:∀q,Ps q=false→∀c,E'.w c=some (.lo q)↔E.w c=some (.lo q):=fun q hq c=>by
  show xo E.w t n c=_↔_
  rw[mA]
  grind
 have loT:∀q,Ps q=true→∀c,E'.w c=some (.lo q)↔E.w c=some (.oo n (q - t*64)):=fun q hq c=>by
  obtain⟨h1,h2⟩:=(xr q).1 hq
  show xo E.w t n c=_↔_
  rw[mA]
  grind
 have zt:∀u:Tag,(∀i,u≠.lb i)→(∀i,u≠.lo i)→u≠.ob n→(∀j,u≠.oo n j)→kp E.w W E'.w W u u:=fun u h1 h2 h3 h4 b=>⟨by
  show xo E.w t n b=_↔_
  rw[mA]
  simp_all,fun _=>rfl⟩
 refine⟨E',⟨fun b hb=>vE.2 (hm.wf b hb),?_,fun i=>?_,fun q=>?_,fun m=>?_,fun b j=>⟨fun h=>(hm.clean b j).1 ((zt _ (by simp) (by simp) (by simp) (by simp) b).1.1 h),fun h=>(hm.clean b j).2 ((zt _ (by simp) (by simp) (by simp) (by simp) b).1.1 h)⟩,hm.ba⟩,?_,fun i _=>?_⟩
 ·have ew:=hm.since
  exact⟨ew.os,ew.tape,ew.output,ew.size,fun b hb h=>⟨vE.2 (ew.im b hb h).1,(ew.im b hb h).2⟩,fun b h=>⟨pk.ex b (ew.ext b h).1,(ew.ext b h).2⟩,fun b h=>ew.jn b ((zt .ext (by simp) (by simp) (by simp) (by simp) b).1.1 h)⟩
 ·show lp _ E' W i (aB (ln (Ay t s.B) t _) i)
  rw[e9]
  by_cases hi:t=i
  ·subst hi
   rw[if_pos rfl]
   have amE:E'.aC t=n:=if_pos rfl
   refine⟨fun h=>h.elim,fun _=>⟨if_pos rfl,fun b=>?_,fun m rz=>by simp_all,vs,ty,?_,QJ E' W (t*64) pk.aG fun q _ _ hq=>?_⟩⟩
   ·rw[amE]
    show xo E.w t n b=_↔_
    rw[mA]
    simp_all
   all_goals grind
  ·rw[if_neg hi,CB]
   exact(hm.bx i).kill pk (lbS i (fun e=>hi e.symm)) fun h=>by grind
 ·show gV E' W q (aw (k.lq (t*64) 0 x s.O) q)
  by_cases hq:Ps q=true
  ·obtain⟨h1,h2⟩:=(xr q).1 hq
   have h3:=nH (O:=s.O) (n:=q) (base:=t*64) (jX hg) dL (by omega) (by omega)
   unfold Ch at h3
   split at h3<;>first|exact h3.elim|skip
   rename_i e t' xs heq
   obtain⟨g1,g2,g3⟩:=h3
   rw[heq]
   have OZ:E'.bo q=hd (q - t*64):=if_pos hq
   refine⟨if_pos hq,g1,g2,?_⟩
   rw[OZ]
   exact g3.bk g1 pk.aG (fun _ _=>rfl) fun b=>loT q hq b
  ·have hq:Ps q=false:=by grind
   rw[iN]
   ·exact(hm.ow q).amD pk (loS q hq) (by grind) (by grind)
   grind
 ·show fj E'.w W m (if m=n then none else s.H m)
  by_cases Cl:m=n
  ·subst Cl
   rw[if_pos rfl]
   intro b
   constructor
   ·intro h
    rcases mA.1 h with⟨_,h,_⟩|⟨h,_⟩|⟨j,h,_⟩
    all_goals simp_all
   ·intro j h
    rcases mA.1 h with⟨_,_,h⟩|⟨h,_⟩|⟨j,h,_⟩
    all_goals simp_all
  ·rw[if_neg Cl]
   exact(hm.ob m).bk pk.aG (zt _ (by simp) (by simp) (fun e=>by simp_all) (by simp)) fun j=>zt _ (by simp) (by simp) (by simp) fun j' e=>by simp_all
 ·show(gE (s.f.map (ue t)) t _).length=_
  rw[lX];exact hf.1
 ·show aK E' W (cC (gE (s.f.map (ue t)) t (.v (.bx t 0))) i) (dM l i)
  rw[ke]
  split
  ·rename_i h
   rw[←h.1]
   exact⟨if_pos rfl,by grind⟩
  ·rw[Pq]
   exact(hf.2 i id).kill pk
theorem Pt {s:St} {l:Fr} {t:Nat} {k:AK} {K:St→Prop} (hs:dq W0 w0 s l W) (h:rU (.ze t k) s K):∃s',K s'∧dq W0 w0 s' l W:=by
 unfold rU at h
 simp only at h
 split at h<;>first|exact h.elim|skip
 rename_i hc
 simp only[Bool.and_eq_true,decide_eq_true_eq] at hc
 obtain⟨⟨c1,c2⟩,c3⟩:=hc
 obtain⟨E,hm,hf⟩:=hs
 have hv:=nU hm (hf.2 t id)
 have fin:∀{n:Nat},dM l t=.pointer (some ⟨n,0,none⟩)→Vp (aB s.B t) n (aJ k n s.H fun x=>K (Vq t k n x s))→∃s',K s'∧dq W0 w0 s' l W:=fun{n} hp h=>by
  unfold Vp at h
  split at h<;>first|exact h.elim|skip
  ·rename_i hb
   obtain⟨x,h1,h2⟩:=h
   exact⟨_,h2,L6 ⟨E,hm,hf⟩ c1 c2 c3 (.inl hb) h1 hp⟩
  ·rename_i m k' hb
   obtain⟨e,x,h1,h2⟩:=h
   subst e
   exact⟨_,h2,L6 ⟨E,hm,hf⟩ c1 c2 c3 (.inr ⟨k',hb⟩) h1 hp⟩
 split at h<;>first|exact h.elim|skip
 ·rename_i r hr
  rw[hr] at hv
  obtain⟨n,rfl,h⟩:=h
  exact fin hv h
 ·rename_i n k' hr
  rw[hr] at hv
  exact fin hv h
end
section
variable {W0:World} {w0:Mk} {X:Nat→Prop} {E E':Env} {B:BL} {O:OL} {H:HP} {W:World}
theorem bc.qC {k:Nat} {sl:Sl} (hp:aU E W E' W) (hs:sl=E.bo k) {a:bA} {v:Value} (hv:bc E W a v):bc E' W (BS k sl a) v:=by
 cases a with
 |own q=>
  show bc E' W (if q=k then .c .sl sl else .own q) v
  split
  ·rename_i e;subst e;subst hs;obtain⟨_,rfl⟩:=hv;exact⟨rfl,rfl⟩
  ·exact hv.aL hp
 |part q n off len=>
  show bc E' W (if q=k then .dead else .part q n off len) v
  split
  ·trivial
  ·exact hv.aL hp
 |o4 q n i j=>
  show bc E' W (if q=k then .dead else .o4 q n i j) v
  split
  ·trivial
  ·exact hv.aL hp
 |_=>exact hv.aL hp
theorem aX.qC {k:Nat} {sl:Sl} (hp:aU E W E' W) (hs:sl=E.bo k):∀{l:List bA} {vs:List Value},aX E W l vs→aX E' W (l.map (BS k sl)) vs
 |[],[],_=>trivial
 |_::_,_::_,hv=>⟨hv.1.qC hp hs,aX.qC hp hs hv.2⟩
 |[],_::_,hv=>hv.elim
 |_::_,[],hv=>hv.elim
theorem eP.qC {k:Nat} {sl:Sl} (hp:aU E W E' W) (hs:sl=E.bo k):∀{l:List o5} {vs:List Value},eP E W l vs→eP E' W (l.map (akA k sl)) vs
 |[],[],_=>trivial
 |.s a::_,_::_,hv=>⟨bc.qC hp hs hv.1,eP.qC hp hs hv.2⟩
 |.g l::_,_::_,hv=>⟨by obtain⟨vs,e,hv⟩:=hv.1;exact⟨vs,e,hv.qC hp hs⟩,eP.qC hp hs hv.2⟩
 |[],_::_,hv=>hv.elim
 |_::_,[],hv=>hv.elim
theorem aK.qC {k:Nat} {sl:Sl} (hp:aU E W E' W) (hs:sl=E.bo k) {a:AV} {v:Value} (hv:aK E W a v):aK E' W (FJ k sl a) v:=by
 cases a with
 |v a=>exact bc.qC hp hs hv
 |agg l=>obtain⟨vs,e,hv⟩:=hv;exact⟨vs,e,hv.qC hp hs⟩
 |ma l=>obtain⟨vs,e,hv⟩:=hv;exact⟨vs,e,hv.qC hp hs⟩
def atL (k:Nat) (sl:Sl):jm→jm
 |.bx nm cs=>.bx nm (cs.map (BS k sl))
 |b=>b
theorem G8 (k:Nat) (sl:Sl):∀(B:BL) (i:Nat),aB (Kf k sl B) i=atL k sl (aB B i)
 |[],i=>rfl
 |(j,b)::r,i=>by
  cases b<;>simp only[Kf,aB]<;>split<;>first|rfl|exact G8 k sl r i
theorem TU (k:Nat) (sl:Sl):∀(f:FA) (i:Nat),cC (f.map (FJ k sl)) i=FJ k sl (cC f i):=fun f i=>by
 by_cases h:i<f.length
 ·rw[mz h,mz (f:=f.map (FJ k sl)) h];rfl
 ·rw[lW f (Nat.le_of_not_lt h),lW (f.map (FJ k sl)) (Nat.le_of_not_lt h)];rfl
theorem CC {g:Nat→jm} {sl:Sl} {A:Prop} (hb:∀i n cs,g i=.bx (some n) cs→∀a,sl.a=some a→a.block≠n):∀{B:BL},nbB g sl A B→A
 |[],h=>h
 |(i,_)::r,h=>by
  unfold nbB at h
  split at h
  ·rename_i n cs he
   exact CC hb (B:=r) (h (hb i n cs he))
  ·exact CC hb (B:=r) h
theorem Pu {s:St} {l:Fr} {k:Nat} {K:St→Prop} (hs:dq W0 w0 s l W) (h:rU (.qC k) s K):∃s',K s'∧dq W0 w0 s' l W:=by
 unfold rU at h
 simp only at h
 split at h<;>first|exact h.elim|skip
 rename_i e t xs ho
 obtain⟨E,hm,hf⟩:=hs
 have hk:=hm.ow k
 rw[ho] at hk
 obtain⟨fP,hg,h0,dL⟩:=hk
 obtain⟨css,r1,r2,r3⟩:=dL.row
 have u7:=r3.cap
 have kv:=bX.acA r3
 have frame:∀{E':Env},aU E W E' W→rY E' W (fun _=>False) (s.f.map (FJ k (E.bo k))) l:=fun hp=>⟨hf.1,fun t ht=>by rw[TU];exact(hf.2 t ht).qC hp rfl⟩
 have box:∀{E':Env},aU E W E' W→(∀i,kp E.w W E'.w W (.lb i) (.lb i))→(∀i,E'.va i=E.va i)→∀i,lp (fun _=>False) E' W i (aB (Kf k (E.bo k) s.B) i):=fun{E'} hp hsm kC i=>by
  rw[G8]
  have hb:=hm.bx i
  have ir:=hb.bk hp (hsm i) (fun h=>by simp_all)
  cases AX:aB s.B i with
  |no=>rw[AX] at ir;exact ir
  |closed n k=>rw[AX] at ir;exact ir
  |bx nm cs=>
   rw[AX] at hb ir
   obtain⟨_,_,_,vs,ty,h4,h5⟩:=hb.2 id
   obtain⟨h1,h2,h3,Z5,ty',h6,_⟩:=ir.2 id
   refine⟨fun x=>x.elim,fun _=>⟨h1,h2,h3,vs,ty,?_,h5.qC hp rfl⟩⟩
   rw[(hp.bx i (hb.2 id).1).2];omega
 rcases r3.2 with⟨hv0,vp⟩|⟨g,cap,cur,hv,hB,Es,rest⟩
 ·
  have OZ:E.bo k=⟨none,0,0⟩:=by
   injection hv0 with e1 e2 e3
   cases hh:E.bo k;simp_all
  have ED:xs=[]:=List.eq_nil_of_length_eq_zero (by rw[←dL.len,OZ])
  have dz:∀b,E.w b≠some (.lo k):=fun b hb=>by
   have:=(dL.tag b).1 hb
   rw[OZ] at this;simp[aS] at this
  refine⟨_,CC (fun i n cs _ a ha=>by simp_all) (h (E.bo k) s.H ⟨dL.len,u7,kv,.inl ⟨OZ,ED,rfl⟩⟩),E,⟨hm.wf,hm.since,box (aU.refl _ _) (fun i b=>⟨Iff.rfl,fun _=>rfl⟩) (fun _=>rfl),fun q=>?_,hm.ob,hm.clean,hm.ba⟩,frame (aU.refl _ _)⟩
  show gV E W q (aw (dw s.O k .gone) q)
  rw[aW]
  by_cases hq:k=q
  ·subst hq;rw[if_pos rfl];exact⟨fP,dz⟩
  ·rw[if_neg hq];exact hm.ow q
 ·have dZ:(E.bo k).a=some ⟨g,0,none⟩:=by simp_all
  have xl:∀b,E.w b=some (.lo k)↔b=g:=fun b=>by rw[dL.tag b];simp[aS,dZ]
  have hHg:s.H g=none:=by
   cases hH:s.H g with
   |none=>rfl
   |some o=>
    have:=hm.ob g
    rw[hH] at this
    have h1:=(this.tag g).2 rfl
    grind
  have fx:=hm.ob g
  rw[hHg] at fx
  let E':Env:={E with w:=fun b=>if b=g then some (.ob g) else E.w b}
  have Pv:∀b,b≠g→E'.w b=E.w b:=fun b hb=>if_neg hb
  have w'g:E'.w g=some (.ob g):=if_pos rfl
  have same:∀u:Tag,u≠.lo k→u≠.ob g→kp E.w W E'.w W u u:=fun u h1 h2 b=>⟨by
   grind,fun _=>rfl⟩
  have wR:∀b,E.w b=none→E'.w b=none:=fun b hb=>by
   grind
  have pk:aU E W E' W:=⟨fun b hb _=>⟨wR b hb,bl.of rfl⟩,fun b hb=>⟨((same .ext (by simp) (by simp) b).1).2 hb,rfl⟩,fun i hi=>⟨hi,rfl⟩,fun i hi=>⟨hi,rfl⟩,rfl⟩
  have vZ:∀i n cs,aB s.B i=.bx (some n) cs→∀a,(E.bo k).a=some a→a.block≠n:=fun i n cs hi a ha he=>by
   have hb:=hm.bx i
   rw[hi] at hb
   obtain⟨_,h2,h3,_⟩:=hb.2 id
   rw[dZ] at ha
   injection ha with ha
   subst ha
   have h4:=(h2 n).2 (h3 n rfl).symm
   grind
  refine⟨_,CC vZ (h (E.bo k) (s.H.set g (.arr e t) (E.bo k,xs)) ⟨dL.len,u7,kv,.inr ⟨g,dZ,hHg,rfl⟩⟩),E',⟨fun b hb=>wR b (hm.wf b hb),?_,box pk (fun i=>same _ (by simp) (by simp)) (fun _=>rfl),fun q=>?_,fun n=>?_,fun b j=>⟨fun h=>(hm.clean b j).1 ((same _ (by simp) (by simp) b).1.1 h),fun h=>(hm.clean b j).2 ((same _ (by simp) (by simp) b).1.1 h)⟩,hm.ba⟩,frame pk⟩
  ·have ew:=hm.since
   exact⟨ew.os,ew.tape,ew.output,ew.size,fun b hb h=>⟨wR b (ew.im b hb h).1,(ew.im b hb h).2⟩,fun b h=>⟨(pk.ex b (ew.ext b h).1).1,(ew.ext b h).2⟩,fun b h=>ew.jn b ((same .ext (by simp) (by simp) b).1.1 h)⟩
  ·show gV E' W q (aw (dw s.O k .gone) q)
   rw[aW]
   by_cases hq:k=q
   ·subst hq
    rw[if_pos rfl]
    refine⟨fP,fun b hb=>?_⟩
    grind
   ·rw[if_neg hq]
    exact(hm.ow q).bk pk (same _ (fun e=>by simp_all) (by simp)) id
  ·show fj E'.w W n (if n=g then some ⟨.arr e t,(E.bo k,xs)⟩ else s.H n)
   by_cases hn:n=g
   ·rw[if_pos hn]
    subst hn
    refine .inr (.inl ⟨e,t,E.bo k,xs,rfl,hg,h0,dZ,dL.bk hg pk.im (fun _ _=>rfl) fun b=>?_,fun b j hb=>?_⟩)
    ·show E'.w b=_↔E.w b=_
     by_cases hb:b=n
     ·simp_all
     ·rw[Pv b hb,xl]
      exact⟨fun h=>absurd h (fx b).1,fun h=>absurd h hb⟩
    ·by_cases hbn:b=n
     ·simp_all
     ·rw[Pv b hbn] at hb;exact(fx b).2 j hb
   ·rw[if_neg hn]
    exact(hm.ob n).bk pk.im (same _ (by simp) (fun e=>by simp_all)) fun j=>same _ (by simp) (by simp)
theorem Pw {s:St} {l:Fr} {t:Nat} {K:St→Prop} (hs:dq W0 w0 s l W) (h:rU (.ZP t) s K):∃s',K s'∧dq W0 w0 s' l W:=by
 unfold rU at h
 simp only at h
 split at h<;>first|exact h.elim|skip
 rename_i r hr
 obtain⟨n,rfl,hk⟩:=h
 obtain⟨E,hm,hf⟩:=hs
 have hv:=nU hm (hf.2 t id)
 rw[hr] at hv
 refine⟨_,hk,E,hm,by show(gE _ _ _).length=_;rw[lX];exact hf.1,fun q hq=>?_⟩
 show aK E W (cC (gE s.f t _) q) _
 rw[ke]
 split
 ·rename_i hc;obtain⟨rfl,_⟩:=hc;exact hv
 ·exact hf.2 q hq
theorem G9 {k:Nat} {e:AK} {ty:Nat} {sl:Sl} {xs:List e.T} {H':HP} (hm:aQ W0 w0 (fun _=>False) E B O H W) (dz:aw O k=.no) (hg:e.bd=true) (h0:e.sz≠0) (hT:acy e ty sl H xs H'):
 ∃E',aQ W0 w0 (fun _=>False) E' B (dw O k (.own e ty xs)) H' W∧aU E W E' W∧E'.vo k=true∧E'.bo k=sl:=by
 have cP:=hm.ow k
 rw[dz] at cP
 rcases hT with⟨rfl,rfl,rfl⟩|⟨n,dZ,hH,rfl⟩
 ·let E':Env:={E with bo:=fun q=>if q=k then⟨none,0,0⟩ else E.bo q,vo:=fun q=>if q=k then true else E.vo q}
  have pk:aU E W E' W:=⟨fun b hb _=>⟨hb,bl.of rfl⟩,fun b hb=>⟨hb,rfl⟩,fun i hi=>⟨hi,rfl⟩,fun i hi=>by
   have:i≠k:=fun e=>by subst e;rw[cP.2] at hi;grind
   grind,rfl⟩
  have same:∀u:Tag,kp E.w W E'.w W u u:=fun u b=>⟨Iff.rfl,fun _=>rfl⟩
  refine⟨E',⟨hm.wf,hm.since,fun i=>(hm.bx i).bk pk (same _) id,fun q=>?_,fun n=>(hm.ob n).bk pk.im (same _) fun j=>same _,hm.clean,hm.ba⟩,pk,if_pos rfl,if_pos rfl⟩
  show gV E' W q (aw (dw O k _) q)
  rw[aW]
  by_cases hq:k=q
  ·subst hq
   rw[if_pos rfl]
   refine⟨if_pos rfl,hg,h0,?_⟩
   show fM _ _ _ _ _ (if _ then _ else _) _
   rw[if_pos rfl]
   exact fM.nil _ _ _ _ _ cP.1
  ·rw[if_neg hq]
   exact(hm.ow q).bk pk (same _) fun h=>by grind
 ·have fx:=hm.ob n
  rw[hH] at fx
  have ha:=fx.arr
  have xl:=fx.tag
  let E':Env:={E with w:=fun b=>if b=n then some (.lo k) else E.w b,bo:=fun q=>if q=k then sl else E.bo q,vo:=fun q=>if q=k then true else E.vo q}
  have Pv:∀b,b≠n→E'.w b=E.w b:=fun b hb=>if_neg hb
  have w'n:E'.w n=some (.lo k):=if_pos rfl
  have same:∀u:Tag,u≠.lo k→u≠.ob n→kp E.w W E'.w W u u:=fun u h1 h2 b=>⟨by
   grind,fun _=>rfl⟩
  have wR:∀b,E.w b=none→E'.w b=none:=fun b hb=>by
   grind
  have pk:aU E W E' W:=⟨fun b hb _=>⟨wR b hb,bl.of rfl⟩,fun b hb=>⟨((same .ext (by simp) (by simp) b).1).2 hb,rfl⟩,fun i hi=>⟨hi,rfl⟩,fun i hi=>by
   have:i≠k:=fun e=>by subst e;rw[cP.2] at hi;grind
   grind,rfl⟩
  refine⟨E',⟨fun b hb=>wR b (hm.wf b hb),?_,fun i=>(hm.bx i).bk pk (same _ (by simp) (by simp)) id,fun q=>?_,fun m=>?_,fun b j=>⟨fun h=>(hm.clean b j).1 ((same _ (by simp) (by simp) b).1.1 h),fun h=>(hm.clean b j).2 ((same _ (by simp) (by simp) b).1.1 h)⟩,hm.ba⟩,pk,if_pos rfl,if_pos rfl⟩
  ·have ew:=hm.since
   exact⟨ew.os,ew.tape,ew.output,ew.size,fun b hb h=>⟨wR b (ew.im b hb h).1,(ew.im b hb h).2⟩,fun b h=>⟨(pk.ex b (ew.ext b h).1).1,(ew.ext b h).2⟩,fun b h=>ew.jn b ((same .ext (by simp) (by simp) b).1.1 h)⟩
  ·show gV E' W q (aw (dw O k _) q)
   rw[aW]
   by_cases hq:k=q
   ·subst hq
    rw[if_pos rfl]
    refine⟨if_pos rfl,hg,h0,?_⟩
    show fM _ _ _ _ _ (if _ then _ else _) _
    rw[if_pos rfl]
    refine ha.own.bk hg pk.im (fun _ _=>rfl) fun b=>?_
    show E'.w b=_↔E.w b=_
    by_cases hb:b=n
    ·simp_all
    ·rw[Pv b hb,xl]
     exact⟨fun h=>absurd h (cP.1 b),fun h=>absurd h hb⟩
   ·rw[if_neg hq]
    exact(hm.ow q).bk pk (same _ (fun e=>by simp_all) (by simp)) fun h=>by grind
  ·show fj E'.w W m (if m=n then none else H m)
   by_cases Cl:m=n
   ·rw[if_pos Cl]
    subst Cl
    refine fun b=>⟨fun hb=>?_,fun j hb=>?_⟩
    ·grind
    ·by_cases hbn:b=m
     ·simp_all
     ·rw[Pv b hbn] at hb;exact ha.Z7 b j hb
   ·rw[if_neg Cl]
    exact(hm.ob m).bk pk.im (same _ (by simp) (fun e=>by simp_all)) fun j=>same _ (by simp) (by simp)
theorem Px {s:St} {l:Fr} {t:Nat} {e:AK} {ty:Nat} {K:St→Prop} (hs:dq W0 w0 s l W) (h:rU (.tak t e ty) s K):∃s',K s'∧dq W0 w0 s' l W:=by
 unfold rU at h
 simp only at h
 split at h<;>first|exact h.elim|skip
 rename_i sl zr dz hgr
 obtain⟨hg,h0⟩:=good_row hgr
 obtain⟨E,hm,hf⟩:=hs
 have hv:=nU hm (hf.2 t id)
 rw[zr] at hv
 have hv:dM l t=sl.val:=hv.1
 obtain⟨xs,H',hT,hk⟩:=h
 obtain⟨E',h1,h2,h3,h4⟩:=G9 hm dz hg h0 hT
 refine⟨_,hk,E',h1,by show(gE _ _ _).length=_;rw[lX];exact hf.1,fun q hq=>?_⟩
 show aK E' W (cC (gE s.f t _) q) _
 rw[ke]
 split
 ·rename_i hc;obtain⟨rfl,_⟩:=hc;exact⟨h3,by simp_all⟩
 ·exact(hf.2 q hq).aL h2
theorem Py {s:St} {l:Fr} {i j:Nat} {e:AK} {ty:Nat} {K:St→Prop} (hs:dq W0 w0 s l W) (h:rU (.ctk i j e ty) s K):∃s',K s'∧dq W0 w0 s' l W:=by
 unfold rU at h
 simp only at h
 split at h<;>first|exact h.elim|skip
 rename_i nm cs hb
 split at h<;>first|exact h.elim|skip
 rename_i sl hj dz hgr
 obtain⟨hg,h0⟩:=good_row hgr
 obtain⟨E,hm,hf⟩:=hs
 obtain⟨xs,H',hT,hk⟩:=h
 obtain⟨E',h1,h2,h3,h4⟩:=G9 hm dz hg h0 hT
 have AZ:rY E' W (fun _=>False) s.f l:=⟨hf.1,fun q hq=>(hf.2 q hq).aL h2⟩
 refine⟨_,hk,E',⟨h1.wf,h1.since,fun q=>?_,h1.ow,h1.ob,h1.clean,h1.ba⟩,AZ⟩
 show lp _ E' W q (aB (ln s.B i _) q)
 rw[e9]
 by_cases hq:i=q
 ·subst hq
  rw[if_pos rfl]
  have GX:=h1.bx i
  rw[hb] at GX
  obtain⟨a1,a2,a3,vs,t,a4,a5⟩:=GX.2 id
  obtain⟨v,hv,hr⟩:=a5.get hj
  have hr:v=sl.val:=hr.1
  refine⟨fun x=>x.elim,fun _=>⟨a1,a2,a3,vs,t,a4,?_⟩⟩
  have:=a5.set j (a:=.own (i*64+j)) (v:=v) ⟨h3,by simp_all⟩
  rwa [GN hv] at this
 ·rw[if_neg hq];exact h1.bx q
end
section
variable {W0:World} {w0:Mk} {X:Nat→Prop} {E E':Env} {B:BL} {O:OL} {H:HP} {W:World}
def CD (w:Mk) (i n:Nat) (c:Nat→Option Nat):Mk:=fun b=>match w b with
 |some (.lb q)=>if q=i then some (.ob n) else some (.lb q)
 |some (.lo q)=>(match c q with|some j=>some (.oo n j)|none=>some (.lo q))
 |τ=>τ
theorem qN {w:Mk} {i n b:Nat} {c:Nat→Option Nat}:CD w i n c b=none↔w b=none:=by
 unfold CD
 grind
theorem oa {w:Mk} {i n b:Nat} {c:Nat→Option Nat} {τ:Tag}:CD w i n c b=some τ↔(w b=some τ∧τ≠.lb i∧∀q,τ=.lo q→c q=none)∨(τ=.ob n∧w b=some (.lb i))∨∃q j,τ=.oo n j∧w b=some (.lo q)∧c q=some j:=by
 unfold CD
 grind
theorem YV {s:St} {l:Fr} {i:Nat} {nm:Option Nat} {cs:List bA} {k:AK} {Kr:k.T→List bA→OL→Prop} (hs:dq W0 w0 s l W) (hb:aB s.B i=.bx nm cs) (hg:k.bd=true) (h:FF s.O k (cs.map (ou (aB s.B))) Kr):
 ∃n x rest O',Kr x rest O'∧s.H n=none∧(∀m,nm=some m→m=n)∧(rest=[]→dq W0 w0 ⟨s.f,ln s.B i (.closed n k),O',s.H.set n k x⟩ l W):=by
 obtain⟨E,hm,hf⟩:=hs
 have EF:=hm.bx i
 rw[hb] at EF
 obtain⟨kC,xl,AY,vs,ty,rX,QJ⟩:=EF.2 id
 obtain⟨x,rest,O',O2,c2,E2,ws,us,e1,hk,m2,p2,hh,l2,b2,hc,hr,_,o2⟩:=ox (jX hg) hm (mS s.O) (j:=0) (fun q i hq=>(by grind)) (nC hm QJ) h
 have akR:=m2.bx i
 rw[hb] at akR
 obtain⟨atM,ayv,atN,_⟩:=akR.2 id
 have ZZ:s.H (E2.aC i)=none:=by
  cases hH:s.H (E2.aC i) with
  |none=>rfl
  |some o=>
   have:=m2.ob (E2.aC i)
   rw[hH] at this
   have h1:=(this.tag (E2.aC i)).2 rfl
   grind
 refine⟨E2.aC i,x,rest,O',hk,ZZ,fun m rz=>(atN m rz).symm,fun amF=>?_⟩
 subst amF
 have OE:us=[]:=by cases us with|nil=>rfl|cons _ _=>exact hr.elim
 subst OE
 rw[List.append_nil] at e1
 subst e1
 have Vw:=m2.ob (E2.aC i)
 rw[ZZ] at Vw
 let E':Env:={E2 with w:=CD E2.w i (E2.aC i) c2}
 have pk:aU E2 W E' W:=⟨fun b hb _=>⟨qN.2 hb,bl.of rfl⟩,fun b hb=>⟨oa.2 (.inl ⟨hb,by simp,by simp⟩),rfl⟩,fun i hi=>⟨hi,rfl⟩,fun i hi=>⟨hi,rfl⟩,rfl⟩
 have same:∀u:Tag,u≠.lb i→(∀q,u=.lo q→c2 q=none)→u≠.ob (E2.aC i)→(∀j,u≠.oo (E2.aC i) j)→kp E2.w W E'.w W u u:=fun u h1 h2 h3 h4 b=>⟨by
  show CD E2.w i (E2.aC i) c2 b=_↔_
  rw[oa]
  simp_all,fun _=>rfl⟩
 refine⟨E',⟨fun b hb=>qN.2 (m2.wf b hb),?_,fun q=>?_,fun q=>?_,fun m=>?_,fun b j=>⟨fun h=>(m2.clean b j).1 ((same _ (by simp) (by simp) (by simp) (by simp) b).1.1 h),fun h=>(m2.clean b j).2 ((same _ (by simp) (by simp) (by simp) (by simp) b).1.1 h)⟩,m2.ba⟩,(hf.aL p2).aL pk⟩
 ·have ew:=m2.since
  exact⟨ew.os,ew.tape,ew.output,ew.size,fun b hb h=>⟨qN.2 (ew.im b hb h).1,(ew.im b hb h).2⟩,fun b h=>⟨(pk.ex b (ew.ext b h).1).1,(ew.ext b h).2⟩,fun b h=>ew.jn b ((same .ext (by simp) (by simp) (by simp) (by simp) b).1.1 h)⟩
 ·show lp _ E' W q (aB (ln s.B i _) q)
  rw[e9]
  by_cases hq:i=q
  ·subst hq
   rw[if_pos rfl]
   refine⟨atM,rfl,fun b h=>?_⟩
   rcases oa.1 h with⟨_,h,_⟩|⟨h,_⟩|⟨q,j,h,_⟩
   all_goals simp_all
  ·rw[if_neg hq]
   exact(m2.bx q).bk pk (same _ (fun e=>by simp_all) (by simp) (by simp) (by simp)) id
 ·show gV E' W q (aw O' q)
  cases hcq:c2 q with
  |none=>
   rw[hh.same q hcq]
   exact(m2.ow q).bk pk (same _ (by simp) (fun q' e=>by simp_all) (by simp) (by simp)) id
  |some j=>
   rw[(hh.gone q j hcq).1]
   refine⟨hh.vo m2 hcq,fun b h=>?_⟩
   rcases oa.1 h with⟨_,_,h⟩|⟨h,_⟩|⟨q,j,h,_⟩
   all_goals simp_all
 ·show fj E'.w W m (if m=E2.aC i then some ⟨k,x⟩ else s.H m)
  by_cases Cl:m=E2.aC i
  ·rw[if_pos Cl,Cl]
   refine .inl ⟨hg,fun b=>?_,fun b j h=>?_,vs,ty,?_,pK m2 (fun b hb _=>⟨qN.2 hb,bl.of rfl⟩) (fun b j=>?_) (fun _ _ _=>rfl) hg hc⟩
   ·show CD E2.w i (E2.aC i) c2 b=_↔_
    rw[oa]
    constructor
    ·rintro(h|⟨_,h⟩|⟨q,j,h,_⟩)
     ·exact absurd h.1 (Vw b).1
     all_goals simp_all
    simp_all
   ·rcases oa.1 h with⟨h,_⟩|⟨h,_⟩|⟨q,j',h1,h2,h3⟩
    ·exact absurd h ((Vw b).2 j)
    all_goals grind
   ·rw[(p2.bx i kC).2];omega
   ·show CD E2.w i (E2.aC i) c2 b=_↔_
    rw[oa]
    constructor
    ·rintro(h|⟨h,_⟩|⟨q,j',h1,h2,h3⟩)
     ·exact absurd h.1 ((Vw b).2 j)
     all_goals simp_all
    simp_all
  ·rw[if_neg Cl]
   exact(m2.ob m).bk pk.im (same _ (by simp) (by simp) (fun e=>by simp_all) (by simp)) fun j=>same _ (by simp) (by simp) (by simp) fun j' e=>by simp_all
theorem Pz {s:St} {l:Fr} {i:Nat} {k:AK} {K:St→Prop} (hs:dq W0 w0 s l W) (h:rU (.cls i k) s K):∃s',K s'∧dq W0 w0 s' l W:=by
 unfold rU at h
 simp only at h
 split at h<;>first|exact h.elim|skip
 rename_i nm cs hb
 split at h<;>first|exact h.elim|skip
 rename_i hg
 obtain⟨n,x,rest,O',hk,hn,AY,hr⟩:=YV hs hb hg h
 split at hk<;>first|exact hk.elim|skip
 split at hk
 ·grind
 ·exact⟨_,hk n hn,hr rfl⟩
theorem gR:∀{g:List Gh} {s:St} {l:Fr} {K:St→Prop},dq W0 w0 s l W→Wp K g s→∃s',K s'∧dq W0 w0 s' l W
 |[],s,l,K,hs,h=>⟨s,h,hs⟩
 |.ze t k::r,s,l,K,hs,h=>by
  obtain⟨s',h1,h2⟩:=Pt hs h
  rw[kX] at h1
  exact gR h2 h1
 |.cls i k::r,s,l,K,hs,h=>by
  obtain⟨s',h1,h2⟩:=Pz hs h
  rw[kX] at h1
  exact gR h2 h1
 |.qC k::r,s,l,K,hs,h=>by
  obtain⟨s',h1,h2⟩:=Pu hs h
  rw[kX] at h1
  exact gR h2 h1
 |.ZP t::r,s,l,K,hs,h=>by
  obtain⟨s',h1,h2⟩:=Pw hs h
  rw[kX] at h1
  exact gR h2 h1
 |.tak t e ty::r,s,l,K,hs,h=>by
  obtain⟨s',h1,h2⟩:=Px hs h
  rw[kX] at h1
  exact gR h2 h1
 |.ctk i j e ty::r,s,l,K,hs,h=>by
  obtain⟨s',h1,h2⟩:=Py hs h
  rw[kX] at h1
  exact gR h2 h1
end
section
variable {W0:World} {w0:Mk} {X:Nat→Prop} {E E':Env} {B:BL} {O:OL} {H:HP} {W:World}
def pq (E:Env) (W:World) (O:OL) (c:Nat→Option Nat) (id:Nat):(k:iA)→Value→k.T→Prop
 |.own e t,v,xs=>(v=.slice none 0 0∧xs=[]∧ga e=true∧∀q,c q≠some id)∨∃q,(∀q',c q'=some id↔q'=q)∧aw O q=.own e t xs∧v=(E.bo q).val
 |.one k,v,x=>bc E W (.c k x) v
 |.ref,v,x=>bc E W (.ref x) v
 |.row e,v,xs=>bc E W (.row e xs) v
 |.bQ e,v,xs=>bc E W (.bQ e xs) v
 |.bx i j,v,_=>bc E W (.bx i j) v
 |.op k j,v,n=>bc E W (.op n k j) v
 |.rp e j,v,x=>bc E W (.rp e x j) v
 |.Wo g,v,_=>bc E W (.c .any (.func (.func g) #[] #[])) v
 |.mo g,v,ns=>bc E W (.mo g ns) v
 |.dead,_,_=>True
theorem G_ {O:OL} {c:Nat→Option Nat} {id:Nat} {k:iA} {v:Value} {x:k.T} (h:iB k=false):pq E W O c id k v x↔bc E W (Vo id k x) v:=by
 cases k<;>first|rfl|(simp[iB] at h)
theorem qO {O O':OL} {c c':Nat→Option Nat} {id:Nat} (hp:aU E W E' W) {k:iA} {v:Value} {x:k.T} (h:iB k=false) (hd:pq E W O c id k v x):pq E' W O' c' id k v x:=(G_ h).2 (((G_ h).1 hd).aL hp)
def rZ (E:Env) (W:World) (O:OL) (c:Nat→Option Nat):Nat→(l:List iA)→List Value→I9 l→Prop
 |_,[],vs,_=>vs=[]
 |id,k::r,vs,x=>∃v us,vs=v::us∧pq E W O c id k v x.1∧rZ E W O c (id+1) r us x.2
structure iG (E:Env) (O:OL) (c:Nat→Option Nat) (O':OL) (c':Nat→Option Nat) (V:List Nat):Prop where
 kB:∀q i,c q=some i→c' q=some i
 new:∀q i,c' q=some i→c q=some i∨i∈V
 own:∀q i,c q=some i→aw O' q=aw O q
theorem iG.trans {E1:Env} {O O1 O2:OL} {c c1 c2:Nat→Option Nat} {V V':List Nat} (h:iG E O c O1 c1 V) (k:iG E1 O1 c1 O2 c2 V'):iG E O c O2 c2 (V++V'):=by
 refine⟨fun q i hq=>k.kB q i (h.kB q i hq),fun q i hq=>?_,fun q i hq=>(k.own q i (h.kB q i hq)).trans (h.own q i hq)⟩
 rcases k.new q i hq with h1|h1
 ·rcases h.new q i h1 with h2|h2
  all_goals simp_all
 simp_all
theorem pq.iM {O O':OL} {c c':Nat→Option Nat} {V:List Nat} {id:Nat} (hp:aU E W E' W) (hl:iG E O c O' c' V) (fP:∀q i,c q=some i→E.vo q=true) (cP:id∉V):∀{k:iA} {v:Value} {x:k.T},pq E W O c id k v x→pq E' W O' c' id k v x:=by
 have new:∀q,c' q=some id→c q=some id:=fun q hq=>(hl.new q id hq).resolve_right cP
 intro k v x h
 cases k with
 |own e t=>
  rcases h with⟨h1,h2,h3,h4⟩|⟨q,h1,h2,h3⟩
  ·exact .inl ⟨h1,h2,h3,fun q hq=>h4 q (new q hq)⟩
  ·have hq:=(h1 q).2 rfl
   exact .inr ⟨q,fun q'=>⟨fun RK=>(h1 q').1 (new q' RK),fun e=>by subst e;exact hl.kB _ _ hq⟩,(hl.own q id hq).trans h2,by rw[(hp.ow q (fP q id hq)).2];omega⟩
 |_=>exact qO hp rfl h
theorem rZ.iM {O O':OL} {c c':Nat→Option Nat} {V:List Nat} (hp:aU E W E' W) (hl:iG E O c O' c' V) (fP:∀q i,c q=some i→E.vo q=true):∀{l:List iA} {id:Nat} {vs:List Value} {x:I9 l},(∀i∈fC id l,i∉V)→rZ E W O c id l vs x→rZ E' W O' c' id l vs x
 |[],id,vs,x,_,h=>h
 |k::r,id,vs,x,cP,h=>by
  obtain⟨v,us,h1,h2,h3⟩:=h
  refine⟨v,us,h1,?_,h3.iM hp hl fP fun i hi=>cP i (by unfold fC;grind)⟩
  cases hk:iB k with
  |true=>exact h2.iM hp hl fP (cP id (by unfold fC;simp_all))
  |false=>exact qO hp hk h2
theorem oz {O':OL} {c:Nat→Option Nat} (hh:Handed O' O c) {k:Nat} {b:cw} (h:aw O' k=b) (hb:b≠.gone):c k=none∧aw O k=b:=by
 cases hc:c k with
 |none=>exact⟨rfl,by rw[←hh.same k hc];omega⟩
 |some i=>exact absurd ((hh.gone k i hc).1▸h) (fun e=>hb e.symm)
theorem EM {a b:AK} {h:PLift (a=b)} {xs:List a.T} {v:Value} (hr:bc E W (.row a xs) v):bc E W (.row b (bK h xs)) v:=by obtain⟨h⟩:=h;subst h;exact hr
theorem amG {a b:AK} {h:PLift (a=b)} {xs:List a.T} {v:Value} (hr:bc E W (.bQ a xs) v):bc E W (.bQ b (bK h xs)) v:=by obtain⟨h⟩:=h;subst h;exact hr
theorem amH {a b:AK} {h:PLift (a=b)} {x:a.T} {j:Nat} {v:Value} (hr:bc E W (.rp a x j) v):bc E W (.rp b (Rn h x) j) v:=by obtain⟨h⟩:=h;subst h;exact hr
theorem amI {a b:K1} {h:PLift (a=b)} {x:a.T} {v:Value} (hr:bc E W (.c a x) v):bc E W (.c b (BF h x)) v:=by obtain⟨h⟩:=h;subst h;exact hr
theorem L7 (hm:aQ W0 w0 X E B O H W) {k:Nat} {e:AK} {xs:List e.T} {v:Value} (ho:aw O k=.jC e xs) (hv:bc E W (.own k) v):bc E W (.row e xs) v:=by
 have:=hm.ow k
 rw[ho] at this
 obtain⟨_,g,h0,hr,_⟩:=this
 exact⟨g,h0,_,hv.2,hr⟩
theorem TV {a:bA} {v:Value} (hv:bc E W a v):∀{k:K1} {x:k.T},Vm a k=some x→bc E W (.c k x) v
 |.ptr,x,h=>by
  simp only[Vm] at h
  split at h<;>first|(cases h;done)|skip
  ·injection h with h;subst h;have hv:v=_:=hv;subst hv;exact⟨rfl,rfl⟩
  ·injection h with h;subst h;have hv:v=_:=hv;subst hv;exact⟨rfl,rfl⟩
 |.sl,x,h=>by
  simp only[Vm] at h
  split at h<;>first|(cases h;done)|skip
  injection h with h;subst h;have hv:v=_:=hv;subst hv;exact⟨rfl,rfl⟩
 |.int _,_,h=>by cases h
 |.Er _,_,h=>by cases h
 |.bool,_,h=>by cases h
 |.str,_,h=>by cases h
 |.any,_,h=>by cases h
 |.LG,_,h=>by cases h
theorem zL {O' pJ:OL} {c:Nat→Option Nat} {id:Nat} (hm:aQ W0 w0 X E B O H W) (hh:Handed O' O c) {k:iA} (cP:iB k=true→∀q,c q≠some id) {a:bA} {v:Value} {x:k.T} (hv:bc E W a v) (h:qF O' k a=some (x,pJ)):
 ∃O1 c1 E1,aQ W0 w0 X E1 B O1 H W∧aU E W E1 W∧Handed pJ O1 c1∧iG E O c O1 c1 (fC id [k])∧pq E1 W O1 c1 id k v x:=by
 have same:∀{x:k.T},O'=pJ→pq E W O c id k v x→∃O1 c1 E1,aQ W0 w0 X E1 B O1 H W∧aU E W E1 W∧Handed pJ O1 c1∧iG E O c O1 c1 (fC id [k])∧pq E1 W O1 c1 id k v x:=fun e hd=>by
  subst e
  exact⟨O,c,E,hm,aU.refl _ _,hh,⟨fun _ _ h=>h,fun _ _ h=>.inl h,fun _ _ _=>rfl⟩,hd⟩
 cases k with
 |one k=>
  simp only[qF] at h
  split at h
  ·split at h<;>first|(cases h;done)|skip
   injection h with h
   injection h with h1 h2
   subst h1
   exact same h2 (amI hv)
  ·split at h<;>first|(cases h;done)|skip
   rename_i y hy
   injection h with h
   injection h with h1 h2
   subst h1
   exact same h2 (TV hv hy)
 |mo g=>
  simp only[qF] at h
  split at h<;>first|(cases h;done)|skip
  ·split at h<;>first|(cases h;done)|skip
   rename_i he
   injection h with h
   injection h with h1 h2
   subst h1
   subst he
   exact same h2 hv
  ·split at h<;>first|(cases h;done)|skip
   rename_i he
   injection h with h
   injection h with h1 h2
   subst h1
   have:=LP he
   subst this
   exact same h2 hv.1
 |ref=>
  simp only[qF] at h
  split at h<;>first|(cases h;done)|skip
  ·injection h with h
   injection h with h1 h2
   subst h1
   exact same h2 hv
  ·injection h with h
   injection h with h1 h2
   subst h1
   exact same h2 hv
 |row e=>
  simp only[qF] at h
  split at h<;>first|(cases h;done)|skip
  ·split at h<;>first|(cases h;done)|skip
   injection h with h
   injection h with h1 h2
   subst h1
   exact same h2 (EM hv)
  ·split at h<;>first|(cases h;done)|skip
   injection h with h
   injection h with h1 h2
   subst h1
   exact same h2 (EM (pF hm hv))
  ·split at h<;>first|(cases h;done)|skip
   rename_i hg
   obtain⟨g,h0⟩:=good_row hg
   injection h with h
   injection h with h1 h2
   subst h1
   exact same h2 ⟨g,h0,⟨none,0,0⟩,hv,rfl,Nat.le_refl _,Nat.zero_le _,fun _=>⟨rfl,rfl⟩,fun i x hx=>by simp_all⟩
  ·rename_i q
   split at h<;>first|(cases h;done)|skip
   ·rename_i e' xs ho
    split at h<;>first|(cases h;done)|skip
    injection h with h
    injection h with h1 h2
    subst h1
    exact same h2 (EM (L7 hm (oz hh ho (by simp)).2 hv))
   ·rename_i e' t' xs ho
    split at h<;>first|(cases h;done)|skip
    injection h with h
    injection h with h1 h2
    subst h1 h2
    obtain⟨E2,O2,m2,p2,zB,l2,h5⟩:=wc hm hh (.own q) 0
    have hf:lu O' (.own q)=dw O' q (.jC e' xs):=by simp only[lu,ho]
    rw[hf] at zB
    have hcq:=(oz hh ho (by simp)).1
    have ho2:aw O2 q=.jC e' xs:=by rw[←h5 q hcq,hf,aW,if_pos rfl]
    exact⟨O2,c,E2,m2,p2,zB,⟨fun _ _ h=>h,fun _ _ h=>.inl h,l2.own⟩,EM (L7 m2 ho2 (hv.aL p2))⟩
  ·rename_i q n off len
   split at h<;>first|(cases h;done)|skip
   rename_i e' xs ho
   split at h<;>first|(cases h;done)|skip
   rename_i hn
   split at h<;>first|(cases h;done)|skip
   injection h with h
   injection h with h1 h2
   subst h1
   have:=hm.ow q
   rw[(oz hh ho (by simp)).2] at this
   obtain⟨_,g,h0,hr,_⟩:=this
   obtain⟨s,hs,mw⟩:=m8 hv hr hn
   exact same h2 (EM ⟨g,h0,s,hs,mw⟩)
 |bQ e=>
  simp only[qF] at h
  split at h<;>first|(cases h;done)|skip
  split at h<;>first|(cases h;done)|skip
  injection h with h
  injection h with h1 h2
  subst h1
  exact same h2 (amG hv)
 |own e t=>
  simp only[qF] at h
  split at h<;>first|(cases h;done)|skip
  ·rename_i q
   split at h<;>first|(cases h;done)|skip
   rename_i e' t' xs nG
   split at h<;>first|(cases h;done)|skip
   rename_i ht
   subst ht
   split at h<;>first|(cases h;done)|skip
   injection h with h
   injection h with h1 h2
   subst h1 h2
   obtain⟨sj,ho⟩:=oz hh nG (by simp)
   refine⟨O,fun p=>if p=q then some id else c p,E,hm,aU.refl _ _,⟨fun p hp=>?_,fun p i hp=>?_⟩,⟨fun p i hp=>?_,fun p i hp=>?_,fun _ _ _=>rfl⟩,.inr ⟨q,fun p=>⟨fun hp=>?_,fun e=>if_pos e⟩,by rw[ho];exact zA,hv.2⟩⟩
   ·try simp only at hp
    split at hp<;>first|grind|skip
    rename_i bb
    rw[aW,if_neg (fun e=>bb e.symm)];exact hh.same p hp
   ·try simp only at hp
    rw[aW]
    split at hp
    ·grind
    ·rename_i bb;rw[if_neg (fun e=>bb e.symm)];exact hh.gone p i hp
   ·grind
   ·try simp only at hp
    split at hp
    ·injection hp with hp;subst hp;exact .inr (by simp[fC,iB])
    grind
   ·try simp only at hp
    split at hp
    ·omega
    ·exact absurd hp (cP rfl p)
  ·split at h<;>first|(cases h;done)|skip
   rename_i hg
   injection h with h
   injection h with h1 h2
   subst h1
   exact same h2 (.inl ⟨hv,rfl,hg,cP rfl⟩)
 |bx i j=>
  simp only[qF] at h
  split at h<;>first|(cases h;done)|skip
  split at h<;>first|(cases h;done)|skip
  rename_i he
  injection h with h
  injection h with h1 h2
  obtain⟨rfl,rfl⟩:=he
  exact same h2 hv
 |op k j=>
  simp only[qF] at h
  split at h<;>first|(cases h;done)|skip
  split at h<;>first|(cases h;done)|skip
  split at h<;>first|(cases h;done)|skip
  rename_i he
  injection h with h
  injection h with h1 h2
  subst h1 he
  exact same h2 hv
 |rp e j=>
  simp only[qF] at h
  split at h<;>first|(cases h;done)|skip
  split at h<;>first|(cases h;done)|skip
  split at h<;>first|(cases h;done)|skip
  rename_i he
  injection h with h
  injection h with h1 h2
  subst h1 he
  exact same h2 (amH hv)
 |Wo g=>
  simp only[qF] at h
  split at h<;>first|(cases h;done)|skip
  split at h<;>first|(cases h;done)|skip
  rename_i g' hg
  split at h<;>first|(cases h;done)|skip
  rename_i he
  injection h with h
  injection h with h1 h2
  subst he
  have:=GQ hg
  subst this
  exact same h2 hv
 |dead=>
  simp only[qF] at h
  injection h with h
  injection h with h1 h2
  exact same h2 trivial
theorem qP (id:Nat) (k:iA) (r:List iA):fC id (k::r)=fC id [k]++fC (id+1) r:=by
 simp only[fC]
 grind
theorem xt:∀{l:List iA} {id i:Nat},i∈fC id l→id≤i
 |[],id,i,h=>by simp[fC] at h
 |k::r,id,i,h=>by
  simp only[fC] at h
  split at h
  ·rcases List.mem_cons.1 h with rfl|h
   ·omega
   ·have:=xt h;omega
  ·have:=xt h;omega
theorem qQ {O':OL} {c:Nat→Option Nat} (hm:aQ W0 w0 X E B O H W) (hh:Handed O' O c):∀q i,c q=some i→E.vo q=true:=fun q i hq=>hh.vo hm hq
theorem sG:∀{l:List iA} {U:List bA} {vs:List Value} {x:I9 l} {E:Env} {O O' pJ:OL} {c:Nat→Option Nat} {id:Nat},aQ W0 w0 X E B O H W→Handed O' O c→(∀q i,c q=some i→i∉fC id l)→aX E W U vs→BR O' l U=some (x,pJ)→
 ∃O1 c1 E1,aQ W0 w0 X E1 B O1 H W∧aU E W E1 W∧Handed pJ O1 c1∧iG E O c O1 c1 (fC id l)∧rZ E1 W O1 c1 id l vs x
 |[],[],[],x,E,O,O',pJ,c,id,hm,hh,cP,hv,h=>by
  simp only[BR] at h
  injection h with h
  injection h with h1 h2
  subst h2
  exact⟨O,c,E,hm,aU.refl _ _,hh,⟨fun _ _ h=>h,fun _ _ h=>.inl h,fun _ _ _=>rfl⟩,rfl⟩
 |[],[],_::_,_,_,_,_,_,_,_,_,_,_,hv,_=>hv.elim
 |[],_::_,_,_,_,_,_,_,_,_,_,_,_,_,h=>by simp[BR] at h
 |_::_,[],_,_,_,_,_,_,_,_,_,_,_,_,h=>by simp[BR] at h
 |_::_,_::_,[],_,_,_,_,_,_,_,_,_,_,hv,_=>hv.elim
 |k::r,a::U,v::vs,x,E,O,O',pJ,c,id,hm,hh,cP,hv,h=>by
  simp only[BR] at h
  split at h<;>first|simp_all|skip
  rename_i y Cg h1
  split at h<;>first|(cases h;done)|skip
  rename_i z O3' h2
  injection h with h
  injection h with h3 h4
  subst h3 h4
  have atO:iB k=true→∀q,c q≠some id:=fun hk q hq=>cP q id hq (by unfold fC;simp_all)
  obtain⟨O1,c1,E1,m1,p1,rC,l1,d1⟩:=zL (id:=id) hm hh atO hv.1 h1
  obtain⟨O4,c4,E4,m4,p4,hh4,l4,d4⟩:=sG (id:=id+1) m1 rC (fun q i hq=>by
   rcases l1.new q i hq with h|h
   ·exact fun hi=>cP q i h (by rw[qP];grind)
   ·intro hi
    have:=xt hi
    have h5:i=id:=by
     simp only[fC] at h
     grind
    omega) (hv.2.aL p1) h2
  refine⟨O4,c4,E4,m4,p1.trans p4 (Nat.le_refl _),hh4,by rw[qP];exact l1.trans l4,v,vs,rfl,?_,d4⟩
  cases hk:iB k with
  |true=>exact d1.iM p4 l4 (qQ m1 rC) fun hi=>by have:=xt hi;omega
  |false=>exact qO p4 hk d1
end
section
variable {W0:World} {w0:Mk} {X:Nat→Prop} {E E':Env} {B:BL} {O:OL} {H:HP} {W:World}
def CE (E:Env) (W:World) (O:OL) (c:Nat→Option Nat) (t:Nat):(k:LK)→Value→k.T→Prop
 |.v k,v,x=>pq E W O c (t*64+63) k v x
 |.agg l,v,x=>∃vs,v=.agg ⟨vs⟩∧rZ E W O c (t*64+32) l vs x
def Aj (E:Env) (W:World) (O:OL) (c:Nat→Option Nat) (l:Fr):(lt:List (Nat×LK))→uc lt→Prop
 |[],_=>True
 |p::r,x=>CE E W O c p.1 p.2 (dM l p.1) x.1∧Aj E W O c l r x.2
def PB (E:Env) (W:World) (O:OL) (c:Nat→Option Nat) (B:BL):(lb:List LB)→v7 lb→Prop
 |[],_=>True
 |p::r,x=>(∃vs ty,(∃nm cs,aB B p.i=.bx nm cs)∧kU W (E.aC p.i) vs ty∧rZ E W O c (p.i*64+32) p.ks vs x.1)∧PB E W O c B r x.2
theorem CE.iM {O O':OL} {c c':Nat→Option Nat} {V:List Nat} (hp:aU E W E' W) (hl:iG E O c O' c' V) (fP:∀q i,c q=some i→E.vo q=true) {t:Nat} {k:LK} {v:Value} {x:k.T} (cP:∀i∈xi t k,i∉V) (h:CE E W O c t k v x):CE E' W O' c' t k v x:=by
 cases k with
 |v k=>
  cases hk:iB k with
  |true=>exact pq.iM hp hl fP (cP _ (by simp[xi,fC,hk])) h
  |false=>exact qO hp hk h
 |agg l=>obtain⟨vs,e,h⟩:=h;exact⟨vs,e,h.iM hp hl fP cP⟩
theorem Aj.iM {O O':OL} {c c':Nat→Option Nat} {V:List Nat} (hp:aU E W E' W) (hl:iG E O c O' c' V) (fP:∀q i,c q=some i→E.vo q=true) {l:Fr}:∀{lt:List (Nat×LK)} {x:uc lt},(∀i∈gd lt,i∉V)→Aj E W O c l lt x→Aj E' W O' c' l lt x
 |[],_,_,_=>trivial
 |p::r,x,cP,h=>⟨CE.iM hp hl fP (fun i hi=>cP i (by simp[gd,hi])) h.1,Aj.iM hp hl fP (fun i hi=>cP i (by simp[gd,hi])) h.2⟩
theorem qR:∀{a b:List Nat},nB (a++b)=true→nB a=true∧nB b=true∧∀i∈a,i∉b
 |[],b,h=>⟨rfl,h,by simp⟩
 |x::a,b,h=>by
  simp only[List.cons_append,nB,Bool.and_eq_true,Bool.not_eq_true'] at h
  obtain⟨h1,h2,h3⟩:=qR h.2
  have hx:x∉a++b:=by simp_all
  refine⟨by simp only[nB,Bool.and_eq_true,Bool.not_eq_true'];simp_all,h2,fun i hi=>?_⟩
  grind
theorem K0 {O' pJ:OL} {c:Nat→Option Nat} {t:Nat} (hm:aQ W0 w0 X E B O H W) (hh:Handed O' O c) {k:LK} (cP:∀q i,c q=some i→i∉xi t k) {a:AV} {v:Value} {x:k.T} (hv:aK E W a v) (h:Vn (aB B) O' k a=some (x,pJ)):
 ∃O1 c1 E1,aQ W0 w0 X E1 B O1 H W∧aU E W E1 W∧Handed pJ O1 c1∧iG E O c O1 c1 (xi t k)∧CE E1 W O1 c1 t k v x:=by
 cases k with
 |v k=>
  cases a with
  |v a=>
   exact zL hm hh (fun hk q hq=>cP q _ hq (by simp[xi,fC,hk])) (pF hm hv) h
  |_=>
   cases k<;>simp only[Vn] at h<;>first|(cases h;done)|skip
   injection h with h
   injection h with h1 h2
   subst h2
   exact⟨O,c,E,hm,aU.refl _ _,hh,⟨fun _ _ h=>h,fun _ _ h=>.inl h,fun _ _ _=>rfl⟩,trivial⟩
 |agg l=>
  cases a with
  |agg cs=>
   obtain⟨vs,e,hr⟩:=hv
   obtain⟨O1,c1,E1,h1,h2,h3,h4,h5⟩:=sG (id:=t*64+32) hm hh cP (nC hm hr) h
   exact⟨O1,c1,E1,h1,h2,h3,h4,vs,e,h5⟩
  |_=>simp[Vn] at h
theorem zM {f:FA} {l:Fr}:∀{lt:List (Nat×LK)} {x:uc lt} {E:Env} {O O' pJ:OL} {c:Nat→Option Nat},aQ W0 w0 X E B O H W→rY E W (fun _=>False) f l→Handed O' O c→(∀q i,c q=some i→i∉gd lt)→nB (gd lt)=true→Ov (aB B) f lt O'=some (x,pJ)→
 ∃O1 c1 E1,aQ W0 w0 X E1 B O1 H W∧aU E W E1 W∧Handed pJ O1 c1∧iG E O c O1 c1 (gd lt)∧Aj E1 W O1 c1 l lt x
 |[],x,E,O,O',pJ,c,hm,hf,hh,_,_,h=>by
  simp only[Ov] at h
  injection h with h
  injection h with h1 h2
  subst h2
  exact⟨O,c,E,hm,aU.refl _ _,hh,⟨fun _ _ h=>h,fun _ _ h=>.inl h,fun _ _ _=>rfl⟩,trivial⟩
 |p::r,x,E,O,O',pJ,c,hm,hf,hh,cP,eF,h=>by
  simp only[Ov] at h
  split at h<;>first|simp_all|skip
  rename_i y Cg h1
  split at h<;>first|(cases h;done)|skip
  rename_i z O3' h2
  injection h with h
  injection h with h3 h4
  subst h3 h4
  simp only[gd] at cP eF
  obtain⟨n1,n2,n3⟩:=qR eF
  obtain⟨O1,c1,E1,m1,p1,rC,l1,d1⟩:=K0 (t:=p.1) hm hh (fun q i hq hi=>cP q i hq (by grind)) (hf.2 p.1 id) h1
  obtain⟨O4,c4,E4,m4,p4,hh4,l4,d4⟩:=zM m1 (hf.aL p1) rC (fun q i hq hi=>by
   rcases l1.new q i hq with h|h
   all_goals grind) n2 h2
  exact⟨O4,c4,E4,m4,p1.trans p4 (Nat.le_refl _),hh4,l1.trans l4,d1.iM p4 l4 (qQ m1 rC) n3,d4⟩
theorem zN:∀{lb:List LB} {x:v7 lb} {E:Env} {O O' pJ:OL} {c:Nat→Option Nat},aQ W0 w0 (fun _=>False) E B O H W→Handed O' O c→(∀q i,c q=some i→i∉gP lb)→nB (gP lb)=true→Ow (aB B) lb O'=some (x,pJ)→
 ∃O1 c1 E1,aQ W0 w0 (fun _=>False) E1 B O1 H W∧aU E W E1 W∧Handed pJ O1 c1∧iG E O c O1 c1 (gP lb)∧PB E1 W O1 c1 B lb x
 |[],x,E,O,O',pJ,c,hm,hh,_,_,h=>by
  simp only[Ow] at h
  injection h with h
  injection h with h1 h2
  subst h2
  exact⟨O,c,E,hm,aU.refl _ _,hh,⟨fun _ _ h=>h,fun _ _ h=>.inl h,fun _ _ _=>rfl⟩,trivial⟩
 |p::r,x,E,O,O',pJ,c,hm,hh,cP,eF,h=>by
  simp only[Ow] at h
  split at h<;>first|(cases h;done)|skip
  rename_i nm cs hb
  split at h<;>first|simp_all|skip
  rename_i y Cg h1
  split at h<;>first|(cases h;done)|skip
  rename_i z O3' h2
  injection h with h
  injection h with h3 h4
  subst h3 h4
  simp only[gP] at cP eF
  obtain⟨n1,n2,n3⟩:=qR eF
  have GX:=hm.bx p.i
  rw[hb] at GX
  obtain⟨kC,_,_,vs,ty,rX,hr⟩:=GX.2 id
  obtain⟨O1,c1,E1,m1,p1,rC,l1,d1⟩:=sG (id:=p.i*64+32) hm hh (fun q i hq hi=>cP q i hq (by grind)) (nC hm hr) h1
  obtain⟨O4,c4,E4,m4,p4,hh4,l4,d4⟩:=zN m1 rC (fun q i hq hi=>by
   rcases l1.new q i hq with h|h
   all_goals grind) n2 h2
  exact⟨O4,c4,E4,m4,p1.trans p4 (Nat.le_refl _),hh4,l1.trans l4,⟨vs,ty,⟨nm,cs,hb⟩,by rw[((p1.trans p4 (Nat.le_refl _)).bx p.i kC).2];omega,d1.iM p4 l4 (qQ m1 rC) n3⟩,d4⟩
end
section
variable {W0:World} {w0:Mk} {E:Env} {B:BL} {O:OL} {H:HP} {W:World}
def mI (lb:List LB) (i:Nat):Bool:=lb.any fun p=>p.i==i
def oR (w:Mk) (lb:List LB) (c:Nat→Option Nat):Mk:=fun b=>match w b with
 |some (.lb i)=>if mI lb i then some (.lb i) else none
 |some (.lo q)=>(match c q with|some i=>some (.lo i)|none=>none)
 |τ=>τ
open Classical in
noncomputable def fo (E:Env) (lt:List (Nat×LK)) (lb:List LB) (c:Nat→Option Nat):Env:=
 ⟨oR E.w lb c,E.aC,fun i=>if h:∃q,c q=some i then E.bo (Classical.choose h) else⟨none,0,0⟩,mI lb,fun i=>decide (i∈gd lt++gP lb),E.base⟩
theorem md {w:Mk} {lb:List LB} {c:Nat→Option Nat} {b:Nat} (h:w b=none):oR w lb c b=none:=by unfold oR;rw[h]
theorem G' {w:Mk} {lb:List LB} {c:Nat→Option Nat} {b i:Nat}:oR w lb c b=some (.lb i)↔w b=some (.lb i)∧mI lb i=true:=by
 unfold oR
 grind
theorem yP {w:Mk} {lb:List LB} {c:Nat→Option Nat} {b i:Nat}:oR w lb c b=some (.lo i)↔∃q,w b=some (.lo q)∧c q=some i:=by
 unfold oR
 grind
theorem mf {w:Mk} {lb:List LB} {c:Nat→Option Nat} {b:Nat} {u:Tag} (h1:∀i,u≠.lb i) (h2:∀i,u≠.lo i):oR w lb c b=some u↔w b=some u:=by
 unfold oR
 grind
structure o8 (W0:World) (w0:Mk) (E:Env) (B:BL) (O:OL) (H:HP) (W:World) (c:Nat→Option Nat) (lt:List (Nat×LK)) (lb:List LB):Prop where
 rel:aQ W0 w0 (fun _=>False) E B O H W
 own:∀q i,c q=some i→∃e t xs,aw O q=.own e t xs
 dom:∀q i,c q=some i→i∈gd lt++gP lb
variable {c:Nat→Option Nat} {lt:List (Nat×LK)} {lb:List LB}
theorem ng:mb (aG E.w) (aG (fo E lt lb c).w) W W:=fun b hb _=>⟨md hb,bl.of rfl⟩
theorem YW:mb (Gs E.w) (Gs (fo E lt lb c).w) W W:=fun b hb _=>⟨hb.imp md (mf (by simp) (by simp)).2,bl.of rfl⟩
theorem Ha {q i:Nat} (h:∀q',c q'=some i↔q'=q):(fo E lt lb c).bo i=E.bo q:=by
 have hx:∃q,c q=some i:=⟨q,(h q).2 rfl⟩
 unfold fo
 grind
theorem CF {i:Nat} (h:∀q,c q≠some i):(fo E lt lb c).bo i=⟨none,0,0⟩:=by
 unfold fo
 simp_all
theorem xv {i:Nat} (h:i∈gd lt++gP lb):(fo E lt lb c).vo i=true:=by
 show decide _=true
 simp_all
theorem Hb {id:Nat} {k:iA} {v:Value} {x:k.T} (hd:pq E W O c id k v x) (cP:iB k=true→id∈gd lt++gP lb) (hb:Ke lb k=true):bc (fo E lt lb c) W (Vo id k x) v:=by
 cases k with
 |one k=>exact hd
 |ref=>exact hd
 |row e=>
  obtain⟨g,h0,s,hs,hr⟩:=hd
  exact⟨g,h0,s,hs,hr.aG ng h0 fun _ _ hd=>hd.aG ng g⟩
 |bQ e=>
  obtain⟨g,h0,s,hs,hr⟩:=hd
  exact⟨g,h0,s,hs,hr.aG YW h0 fun _ _ hd=>hd.aG ng g⟩
 |own e t=>
  rcases hd with⟨h1,h2,h3,h4⟩|⟨q,h1,h2,h3⟩
  ·exact⟨xv (cP rfl),by rw[CF h4];omega⟩
  ·exact⟨xv (cP rfl),by rw[Ha h1];omega⟩
 |bx i j=>exact⟨hb,hd.2⟩
 |op k j=>exact hd
 |rp e j=>
  obtain⟨g,h0,p,cs,hs,hw,hl,hc,hdd⟩:=hd
  exact⟨g,h0,p,cs,hs,hw.imp md (mf (by simp) (by simp)).2,hl,hc,hdd.aG ng g⟩
 |Wo g=>exact hd
 |mo g=>exact hd
 |dead=>trivial
theorem TW (hj:o8 W0 w0 E B O H W c lt lb) {id:Nat} {e:AK} {t:Nat} {v:Value} {xs:List e.T} (hd:pq E W O c id (.own e t) v xs) (cP:id∈gd lt++gP lb):gV (fo E lt lb c) W id (.own e t xs):=by
 rcases hd with⟨h1,h2,h3,h4⟩|⟨q,h1,h2,h3⟩
 ·obtain⟨g,h0⟩:=good_row h3
  refine⟨xv cP,g,h0,?_⟩
  rw[CF h4,h2]
  refine fM.nil _ _ _ _ _ fun b hb=>?_
  obtain⟨q,_,hq⟩:=yP.1 hb
  simp_all
 ·have:=hj.rel.ow q
  rw[h2] at this
  obtain⟨_,g,h0,dL⟩:=this
  refine⟨xv cP,g,h0,?_⟩
  rw[Ha h1]
  refine dL.bk g ng (fun _ _=>rfl) fun b=>?_
  show oR E.w lb c b=_↔_
  rw[yP]
  simp_all
theorem yQ:∀{l:List iA} {id:Nat} {vs:List Value} {x:I9 l},rZ E W O c id l vs x→(∀i∈fC id l,i∈gd lt++gP lb)→l.all (Ke lb)=true→aX (fo E lt lb c) W (Ou id l x) vs
 |[],id,vs,x,h,_,_=>by
  have h:vs=[]:=h
  subst h;trivial
 |k::r,id,vs,x,h,cP,hb=>by
  obtain⟨v,us,rfl,h1,h2⟩:=h
  simp only[List.all_cons,Bool.and_eq_true] at hb
  rw[qP] at cP
  exact⟨Hb h1 (fun hk=>cP id (by simp[fC,hk])) hb.1,yQ h2 (fun i hi=>cP i (by grind)) hb.2⟩
theorem TX {t:Nat} {k:LK} {v:Value} {x:k.T} (h:CE E W O c t k v x) (cP:∀i∈xi t k,i∈gd lt++gP lb) (hb:bxV lb k=true):aK (fo E lt lb c) W (acP t k x) v:=by
 cases k with
 |v k=>exact Hb h (fun hk=>cP _ (by simp[xi,fC,hk])) hb
 |agg l=>obtain⟨vs,e,h⟩:=h;exact⟨vs,e,yQ h cP hb⟩
theorem Hc {n:Nat}:∀{l:List (Nat×LK)} {x:uc l},(Kd n l x).length=n
 |[],_=>rfl
 |p::r,x=>by simp only[Kd];rw[lX];exact Hc
theorem TY (n t:Nat):cC (FA.none n) t=.v .dead:=by
 unfold cC;split<;>rfl
theorem Hd {n:Nat} {l:Fr}:∀{ls:List (Nat×LK)} {x:uc ls},Aj E W O c l ls x→(∀i∈gd ls,i∈gd lt++gP lb)→(ls.all fun p=>bxV lb p.2)=true→∀t,aK (fo E lt lb c) W (cC (Kd n ls x) t) (dM l t)
 |[],x,_,_,_,t=>by
  show aK _ W (cC (FA.none n) t) _
  rw[TY];trivial
 |p::r,x,h,cP,hb,t=>by
  simp only[List.all_cons,Bool.and_eq_true] at hb
  show aK _ W (cC (gE (Kd n r x.2) p.1 (acP p.1 p.2 x.1)) t) _
  rw[ke]
  split
  ·rename_i e
   rw[←e.1]
   exact TX h.1 (fun i hi=>cP i (by simp[gd,hi])) hb.1
  ·exact Hd h.2 (fun i hi=>cP i (by simp[gd,hi])) hb.2 t
def CG (E:Env) (W:World) (O:OL) (D:Nat→Prop):Prop:=(∀i,D i→gV E W i (aw O i))∧∀i,¬D i→aw O i=.no
theorem CG.congr {D D':Nat→Prop} (h:CG E W O D) (hd:∀i,D i↔D' i):CG E W O D':=⟨fun i hi=>h.1 i ((hd i).2 hi),fun i hi=>h.2 i fun h=>hi ((hd i).1 h)⟩
theorem He (hj:o8 W0 w0 E B O H W c lt lb) {id:Nat} {k:iA} {v:Value} {x:k.T} {O':OL} {D:Nat→Prop} (hd:pq E W O c id k v x) (cP:∀i∈fC id [k],i∈gd lt++gP lb) (h:CG (fo E lt lb c) W O' D):CG (fo E lt lb c) W (Kb id k x O') fun i=>D i∨i∈fC id [k]:=by
 cases hk:iB k with
 |false=>
  have e1:Kb id k x O'=O':=by cases k<;>first|rfl|(simp[iB] at hk)
  have e2:fC id [k]=[]:=by simp[fC,hk]
  simp_all
 |true=>
  cases k<;>first|(simp[iB] at hk;done)|skip
  rename_i e t
  have e2:fC id [iA.own e t]=[id]:=rfl
  have hq:=TW hj hd (cP id (by simp_all))
  rw[e2]
  refine⟨fun i hi=>?_,fun i hi=>?_⟩
  ·show gV _ W i (aw (dw O' id (.own e t x)) i)
   rw[aW]
   split
   ·simp_all
   ·rename_i h'
    rcases hi with hi|hi
    ·exact h.1 i hi
    simp_all
  ·show aw (dw O' id (.own e t x)) i=.no
   rw[aW,if_neg (fun e=>hi (.inr (by grind)))]
   exact h.2 i fun hd=>hi (.inl hd)
theorem yR (hj:o8 W0 w0 E B O H W c lt lb):∀{l:List iA} {id:Nat} {vs:List Value} {x:I9 l} {O':OL} {D:Nat→Prop},rZ E W O c id l vs x→(∀i∈fC id l,i∈gd lt++gP lb)→CG (fo E lt lb c) W O' D→CG (fo E lt lb c) W (Kc id l x O') fun i=>D i∨i∈fC id l
 |[],id,vs,x,O',D,_,_,h=>h.congr fun i=>by simp[fC]
 |k::r,id,vs,x,O',D,hd,cP,h=>by
  obtain⟨v,us,rfl,h1,h2⟩:=hd
  rw[qP] at cP⊢
  exact(yR hj h2 (fun i hi=>cP i (by grind)) (He hj h1 (fun i hi=>cP i (by grind)) h)).congr fun i=>by grind
theorem TZ (hj:o8 W0 w0 E B O H W c lt lb) {t:Nat} {k:LK} {v:Value} {x:k.T} {O':OL} {D:Nat→Prop} (hd:CE E W O c t k v x) (cP:∀i∈xi t k,i∈gd lt++gP lb) (h:CG (fo E lt lb c) W O' D):CG (fo E lt lb c) W (aaa t k x O') fun i=>D i∨i∈xi t k:=by
 cases k with
 |v k=>exact He hj hd cP h
 |agg l=>obtain⟨vs,e,hd⟩:=hd;exact yR hj hd cP h
theorem Hf (hj:o8 W0 w0 E B O H W c lt lb) {l:Fr}:∀{ls:List (Nat×LK)} {x:uc ls} {O':OL} {D:Nat→Prop},Aj E W O c l ls x→(∀i∈gd ls,i∈gd lt++gP lb)→CG (fo E lt lb c) W O' D→CG (fo E lt lb c) W (EA ls x O') fun i=>D i∨i∈gd ls
 |[],x,O',D,_,_,h=>h.congr fun i=>by simp[gd]
 |p::r,x,O',D,hd,cP,h=>by
  simp only[gd] at cP⊢
  exact(TZ hj hd.1 (fun i hi=>cP i (by grind)) (Hf hj hd.2 (fun i hi=>cP i (by grind)) h)).congr fun i=>by
   grind
theorem Hg (hj:o8 W0 w0 E B O H W c lt lb):∀{ls:List LB} {x:v7 ls} {O':OL} {D:Nat→Prop},PB E W O c B ls x→(∀i∈gP ls,i∈gd lt++gP lb)→CG (fo E lt lb c) W O' D→CG (fo E lt lb c) W (EB ls x O') fun i=>D i∨i∈gP ls
 |[],x,O',D,_,_,h=>h.congr fun i=>by simp[gP]
 |p::r,x,O',D,hd,cP,h=>by
  simp only[gP] at cP⊢
  obtain⟨⟨vs,ty,_,_,h1⟩,h2⟩:=hd
  exact(yR hj h1 (fun i hi=>cP i (by grind)) (Hg hj h2 (fun i hi=>cP i (by grind)) h)).congr fun i=>by
   grind
theorem L8:∀{ls:List LB} {A:Prop},kY (aB B) ls A→A∧∀p∈ls,∃cs,aB B p.i=.bx p.nm cs
 |[],A,h=>⟨h,by simp⟩
 |p::r,A,h=>by
  unfold kY at h
  split at h<;>first|exact h.elim|skip
  rename_i nm' cs hb
  have go:p.nm=nm'∧kY (aB B) r A:=by
   grind
  obtain⟨h1,h2⟩:=L8 go.2
  simp_all
theorem L9 (hj:o8 W0 w0 E B O H W c lt lb):∀{ls:List LB} {x:v7 ls},PB E W O c B ls x→(∀p∈ls,∃cs,aB B p.i=.bx p.nm cs)→(∀p∈ls,mI lb p.i=true)→(∀i∈gP ls,i∈gd lt++gP lb)→(ls.all fun p=>p.ks.all (Ke lb))=true→
 ∀i,(mI ls i=true→lp (fun _=>False) (fo E lt lb c) W i (aB (FI ls x) i))∧(mI ls i=false→aB (FI ls x) i=.no)
 |[],x,_,_,_,_,_,i=>⟨fun h=>by simp[mI] at h,fun _=>rfl⟩
 |p::r,x,hd,AY,WC,cP,hb,i=>by
  obtain⟨⟨vs,ty,_,rX,h1⟩,h2⟩:=hd
  simp only[List.all_cons,Bool.and_eq_true] at hb
  have ih:=L9 hj h2 (fun q hq=>AY q (by grind)) (fun q hq=>WC q (by grind)) (fun i hi=>cP i (by simp[gP,hi])) hb.2 i
  by_cases hi:p.i=i
  ·subst hi
   refine⟨fun _=>?_,fun h=>by simp[mI] at h⟩
   show lp _ _ W p.i (if p.i=p.i then .bx p.nm (Ou (p.i*64+32) p.ks x.1) else _)
   rw[if_pos rfl]
   obtain⟨cs,gU⟩:=AY p (by simp)
   have hl:=WC p (by simp)
   have:=hj.rel.bx p.i
   rw[gU] at this
   obtain⟨h3,h4,h5,_⟩:=this.2 id
   refine⟨fun h=>h.elim,fun _=>⟨hl,fun b=>?_,h5,vs,ty,rX,yQ h1 (fun i hi=>cP i (by simp[gP,hi])) hb.1⟩⟩
   show oR E.w lb c b=_↔_
   rw[G']
   exact⟨fun h=>(h4 b).1 h.1,fun h=>⟨(h4 b).2 h,hl⟩⟩
  ·have e1:mI (p::r) i=mI r i:=by simp[mI,hi]
   have e2:aB (FI (p::r) x) i=aB (FI r x.2) i:=by
    show(if p.i=i then _ else _)=_
    simp_all
   simp_all
theorem T0 (hj:o8 W0 w0 E B O H W c lt lb) (cJ:o6 lt lb=true) {l:Fr} {x:uc lt} {y:v7 lb} (hT:Aj E W O c l lt x) (hB:PB E W O c B lb y) (AY:∀p∈lb,∃cs,aB B p.i=.bx p.nm cs):dq W0 w0 (Af l.length lt lb (x,y) H) l W:=by
 unfold o6 at cJ
 simp only[Bool.and_eq_true] at cJ
 obtain⟨⟨ok1,ok2⟩,ok3⟩:=cJ
 have WC:∀p∈lb,mI lb p.i=true:=fun p hp=>List.any_eq_true.2 ⟨p,hp,by simp⟩
 have hm:=hj.rel
 have GX:=L9 hj hB AY WC (fun i hi=>by grind) ok2
 have how:=Hf hj hT (fun i hi=>by grind) (Hg hj hB (fun i hi=>by grind) (O':=[]) (D:=fun _=>False) ⟨fun i h=>h.elim,fun i _=>rfl⟩)
 have how:CG (fo E lt lb c) W (EA lt x (EB lb y [])) fun i=>i∈gd lt++gP lb:=how.congr fun i=>by
  grind
 have zt:∀u:Tag,(∀i,u≠.lb i)→(∀i,u≠.lo i)→kp E.w W (fo E lt lb c).w W u u:=fun u h1 h2 b=>⟨mf h1 h2,fun _=>rfl⟩
 refine⟨fo E lt lb c,⟨fun b hb=>md (hm.wf b hb),?_,fun i=>?_,fun i=>?_,fun n=>(hm.ob n).bk ng (zt _ (by simp) (by simp)) fun j=>zt _ (by simp) (by simp),fun b j=>⟨fun h=>(hm.clean b j).1 ((zt _ (by simp) (by simp) b).1.1 h),fun h=>(hm.clean b j).2 ((zt _ (by simp) (by simp) b).1.1 h)⟩,hm.ba⟩,Hc,fun t _=>Hd hT (fun i hi=>by grind) ok1 t⟩
 ·have ew:=hm.since
  exact⟨ew.os,ew.tape,ew.output,ew.size,fun b hb h=>⟨md (ew.im b hb h).1,(ew.im b hb h).2⟩,fun b h=>⟨(mf (by simp) (by simp)).2 (ew.ext b h).1,(ew.ext b h).2⟩,fun b h=>ew.jn b ((mf (by simp) (by simp)).1 h)⟩
 ·show lp _ _ W i (aB (FI lb y) i)
  cases hl:mI lb i with
  |true=>simp_all
  |false=>
   rw[(GX i).2 hl]
   refine⟨fun b h=>?_,hl⟩
   have:=(G'.1 h).2
   simp_all
 ·show gV _ W i (aw (EA lt x (EB lb y [])) i)
  by_cases hi:i∈gd lt++gP lb
  ·exact how.1 i hi
  ·rw[how.2 i hi]
   refine⟨fun b h=>?_,?_⟩
   ·obtain⟨q,_,hq⟩:=yP.1 h
    exact hi (hj.dom q i hq)
   ·show decide _=false
    simp_all
theorem wm {s:St} {l:Fr} {n:Nat} {v:uc lt×v7 lb} (hs:dq W0 w0 s l W) (cJ:o6 lt lb=true) (hd:pZ n lt lb s=some v) (AY:∀p∈lb,∃cs,aB s.B p.i=.bx p.nm cs):dq W0 w0 (Af n lt lb v s.H) l W:=by
 obtain⟨E,hm,hf⟩:=hs
 unfold pZ at hd
 split at hd<;>first|(cases hd;done)|skip
 rename_i hlen
 have hlen:s.f.length=n:=Nat.eq_of_beq_eq_true hlen
 split at hd<;>first|simp_all|skip
 rename_i x pJ hx
 split at hd<;>first|(cases hd;done)|skip
 rename_i y Cg hy
 injection hd with hd
 subst hd
 have eF:=cJ
 unfold o6 at eF
 simp only[Bool.and_eq_true] at eF
 obtain⟨n1,n2,n3⟩:=qR eF.2
 obtain⟨O1,c1,E1,m1,p1,rC,l1,d1⟩:=zM hm hf (mS s.O) (fun q i h=>by grind) n1 hx
 obtain⟨O2,c2,E2,m2,p2,zB,l2,d2⟩:=zN m1 rC (fun q i hq hi=>by
  rcases l1.new q i hq with h|h
  all_goals simp_all) n2 hy
 rw[←hlen,hf.1]
 refine T0 ⟨m2,fun q i hq=>(zB.gone q i hq).2,fun q i hq=>?_⟩ cJ (d1.iM p2 l2 (qQ m1 rC) n3) d2 AY
 rcases l2.new q i hq with h|h
 ·rcases l1.new q i h with h|h
  all_goals simp_all
 simp_all
theorem zO {s:St} {l:Fr} {n:Nat} {v:uc lt×v7 lb} {A:Prop} (hs:dq W0 w0 s l W) (cJ:o6 lt lb=true) (hd:pZ n lt lb s=some v) (hn:kY (aB s.B) lb A):A∧dq W0 w0 (Af n lt lb v s.H) l W:=by
 obtain⟨hA,AY⟩:=L8 hn
 exact⟨hA,wm hs cJ hd AY⟩
end
section
variable {cx:Cx} {hn:Hn} {W0:World} {w0:Mk}
def r6 (W0:World) (w0:Mk) (Q:Exit→St→Prop) (e:Exit) (a:Act) (W:World):Prop:=
 match e with
 |.panic _=>False
 |.outgrown=>False
 |e=>∃l s,a=az l∧dq W0 w0 s l W∧Q e s
theorem CH {P:Program} {c:Code} {Q:Exit→St→Prop} {B:St→Prop} {e:Exit} {b:Act} {W:World}
 (h:r6 W0 w0 (fun e s'=>match e with|.normal=>B s'|e=>Q e s') e b W) (hb:∀s l W,dq W0 w0 s l W→B s→c.wp P (r6 W0 w0 Q) (az l) W):
 Exit.then (c.wp P (r6 W0 w0 Q)) (r6 W0 w0 Q) e b W:=by
 cases e with
 |normal=>obtain⟨l,s,rfl,h1,h2⟩:=h;exact hb _ _ _ h1 h2
 |exit id=>exact h
 |goto l=>exact h
 |ret=>exact h
 |panic c=>exact h
 |outgrown=>exact h
theorem Hh {ops:Array Oper} {s:St} {l:Fr} {W:World} (hs:dq W0 w0 s l W):dq W0 w0 s l {W with drawn:=W.drawn+1}:=by
 obtain⟨E,hm,hf⟩:=hs
 exact⟨E,hm.quiet jW,hf.aL jW.aL⟩
theorem EN (RO:cx.P.follows .mixedOrders=true) {id:Nat} {ops:Array Oper} {Q:Exit→St→Prop} {s:St} {l:Fr} {W:World} (hs:dq W0 w0 s l W) (h:(match Region.noSelect ops&&rV ops&&QG ops with
 |true=>ua cx ops (Q .normal) ops.size (Array.replicate ops.size false) s
 |false=>False)):(Code.region id ops true).wp cx.P (r6 W0 w0 Q) (az l) W:=by
 split at h<;>first|exact h.elim|skip
 rename_i hc
 simp only[Bool.and_eq_true] at hc
 have ed:(Array.replicate ops.size false).size=ops.size:=by simp
 have dz:∀j,(Array.replicate ops.size false).getD j false=false:=fun j=>by
  by_cases hj:j<ops.size
  ·simp[Array.getD,hj]
  ·simp[Array.getD,hj]
 have np:∀p,¬eE (Array.replicate ops.size false) (Array.replicate ops.size false) p:=fun p hp=>by have:=hp.1;rw[dz p] at this;cases this
 have kT:kg ops (Array.replicate ops.size false):=fun j o hj hl=>by rw[dz j] at hl;cases hl
 obtain⟨E,hm,hf⟩:=Hh (ops:=ops) hs
 refine wp_region_any RO (KZ (cx:=cx) (W0:=W0) (w0:=w0) (agu hc.2) hc.1.2 (fun s l W h1 h2=>⟨l,s,rfl,h1,h2⟩) ops.size ops.size _ _ s l _ ⟨ed,ed,fun j h=>h,kT,kT,⟨E,hm.gn fun i _=>⟨fun h=>h.elim,fun⟨p,_,h,_⟩=>np p h⟩,hf.1,fun t _=>hf.2 t fun h=>h⟩,fun p o h=>absurd h (np p),fun _ _=>rfl⟩ (fun p o j oj h=>absurd h (np p)) ?_ h)
 unfold left
 exact Nat.le_trans List.countP_le_length (by simp)
theorem rF {n:Nat} {K:Nat→Prop} (h:Ru n K):∃n,K n:=by cases n<;>exact⟨_,h⟩
theorem L_ {cx:Cx} {ops:Array Oper} {K:List fO→Prop}:∀{os:List Oper} {acc:List fO} {n:Nat},Vj cx ops K os acc n→∃tb,K tb
 |[],_,_,h=>⟨_,h⟩
 |o::r,acc,n,h=>by
  obtain⟨em,h⟩:=rF h
  obtain⟨lk,h⟩:=rF h
  obtain⟨ds,h⟩:=rF h
  obtain⟨an,h⟩:=rF h
  split at h<;>exact L_ h
theorem Jm {K:Nat→Prop} {tb:List fO}:∀{l:List fO} {i m:Nat},zmG K tb l i m→∃zm,K zm
 |[],_,_,h=>⟨_,h⟩
 |t::r,i,m,h=>by
  unfold zmG at h
  split at h
  ·obtain⟨m,h⟩:=rF h;exact Jm h
  ·exact Jm h
theorem L' {ops:Array Oper} {zm:Nat} {tb:List fO} {K:List I8→Prop}:∀{n done:Nat} {acc:List I8},Vl ops zm tb K n done acc→∃l,K l
 |0,_,_,h=>⟨_,h⟩
 |n+1,done,acc,h=>by
  unfold Vl at h
  split at h
  ·obtain⟨i,h⟩:=rF h;obtain⟨d,h⟩:=rF h;exact L' h
  ·exact h.elim
theorem EO (RO:cx.P.follows .mixedOrders=true) {id:Nat} {ops:Array Oper} {zm om:Nat} {tb:List fO} {ls:List I8} {Q:Exit→St→Prop} {s:St} {l:Fr} {W:World} (hs:dq W0 w0 s l W) (h:(match Region.noSelect ops&&Aw cx ops ops.toList tb&&wO tb tb&&Rt zm tb tb 0&&Ax zm tb ls 0 with
 |true=>FH cx ops om (Q .normal) ls s
 |false=>False)):(Code.region id ops true).wp cx.P (r6 W0 w0 Q) (az l) W:=by
 split at h<;>first|exact h.elim|skip
 rename_i hc
 simp only[Bool.and_eq_true] at hc
 obtain⟨⟨⟨⟨c1,c2⟩,c3⟩,c4⟩,c5⟩:=hc
 have ht:=YT c2
 have ed:(Array.replicate ops.size false).size=ops.size:=by simp
 have dz:∀j,(Array.replicate ops.size false).getD j false=false:=fun j=>by
  by_cases hj:j<ops.size
  ·simp[Array.getD,hj]
  ·simp[Array.getD,hj]
 have np:∀p,¬eE (Array.replicate ops.size false) (Array.replicate ops.size false) p:=fun p hp=>by have:=hp.1;rw[dz p] at this;cases this
 have kT:kg ops (Array.replicate ops.size false):=fun j o hj hl=>by rw[dz j] at hl;cases hl
 obtain⟨E,hm,hf⟩:=Hh (ops:=ops) hs
 refine wp_region_any RO (Pp (cx:=cx) (W0:=W0) (w0:=w0) (YU ht c4) (fun s l W h1 h2=>⟨l,s,rfl,h1,h2⟩) ops.size ls _ _ s l _ ⟨ed,ed,fun j h=>h,kT,kT,⟨E,hm.gn fun i _=>⟨fun h=>h.elim,fun⟨p,_,h,_⟩=>np p h⟩,hf.1,fun t _=>hf.2 t fun h=>h⟩,fun p o h=>absurd h (np p),fun p h=>absurd h (np p)⟩ (fun p o j oj h=>absurd h (np p)) (L5 ht c4 c3 ls 0 _ ed (fun j hj=>by rw[jL,dz j]) c5) ?_ h)
 unfold left
 exact Nat.le_trans List.countP_le_length (by simp)
theorem Hi {gB:Nat→jm} {g:Nat→cw} {hB:List ((Nat×Nat)×iA)}:∀{lb:List Nat},∀p∈Ez gB g hB lb,∃cs,gB p.i=.bx p.nm cs
 |[],p,h=>by simp[Ez] at h
 |i::r,p,h=>by
  simp only[Ez,List.mem_append] at h
  rcases h with h|h
  ·cases hb:gB i with
   |bx nm cs=>
    rw[hb] at h
    simp only[List.mem_singleton] at h
    subst h
    exact⟨cs,hb⟩
   |no=>rw[hb] at h;simp at h
   |closed n k=>rw[hb] at h;simp at h
  ·exact Hi p h
theorem least {P:Nat→Prop} (h:∃n,P n):∃n,P n∧∀m,P m→n≤m:=by
 obtain⟨n,hn⟩:=h
 induction n using Nat.strongRecOn with
 |ind n ih=>
  by_cases h:∃m,m<n∧P m
  ·obtain⟨m,h1,h2⟩:=h;exact ih m h1 h2
  ·exact⟨n,hn,fun m hm=>Nat.le_of_not_lt fun aY=>h ⟨m,aY,hm⟩⟩
def Kk (n:Nat) (lt:List (Nat×LK)) (lb:List LB) (Q:Exit→St→Prop) (C:(uc lt×v7 lb)→HP→Prop) (e:Exit) (s':St):Prop:=
 match e with
 |.normal=>(match pZ n lt lb s' with
  |some v'=>kY (aB s'.B) lb (C v' s'.H)
  |none=>False)
 |e=>Q e s'
theorem K2 {lt:List (Nat×LK)} {lb:List LB} {n:Nat} {v:uc lt×v7 lb} {H:HP} {l:Fr} {W:World} {x:Code} {Q:Exit→St→Prop} {body:(uc lt×v7 lb)→HP→((uc lt×v7 lb)→HP→Prop)→Prop} (cJ:o6 lt lb=true)
 (hs:dq W0 w0 (Af n lt lb v H) l W) (h:a9 v H body)
 (hb:∀v H l W C,dq W0 w0 (Af n lt lb v H) l W→body v H C→x.wp cx.P (r6 W0 w0 (Kk n lt lb Q C)) (az l) W):(Code.loop x).wp cx.P (r6 W0 w0 Q) (az l) W:=by
 obtain⟨I,m,h0,Az⟩:=h
 let S:Act→World→Nat→Prop:=fun b W' k=>∃l v H,b=az l∧dq W0 w0 (Af n lt lb v H) l W'∧I v H∧m v H=k
 have hex:∀b W',∃k,(∃k,S b W' k)→S b W' k∧∀j,S b W' j→k≤j:=fun b W'=>by
  by_cases h:∃k,S b W' k
  ·obtain⟨k,h1,h2⟩:=least h;exact⟨k,fun _=>⟨h1,h2⟩⟩
  ·exact⟨0,fun h'=>absurd h' h⟩
 refine wp_loop (fun b W'=>∃k,S b W' k) (fun b W'=>Classical.choose (hex b W')) ⟨_,l,v,H,rfl,hs,h0,rfl⟩ fun b W' hI=>?_
 obtain⟨⟨l',v',H',rfl,jl,hI',hm⟩,Vx⟩:=Classical.choose_spec (hex b W') hI
 refine wp_mono (hb v' H' l' W' _ jl (Az v' H' hI')) fun e b' gZ hq=>?_
 cases e with
 |normal=>
  obtain⟨BH,s'',rfl,h1,h2⟩:=hq
  simp only[Kk] at h2
  split at h2<;>first|exact h2.elim|skip
  rename_i RP Vy
  obtain⟨⟨h3,h4⟩,h5⟩:=zO h1 cJ Vy h2
  have hS:S (az BH) gZ (m RP s''.H):=⟨BH,RP,s''.H,rfl,h5,h3,rfl⟩
  refine⟨⟨_,hS⟩,?_⟩
  have:=(Classical.choose_spec (hex (az BH) gZ) ⟨_,hS⟩).2 _ hS
  rw[←hm]
  exact Nat.lt_of_le_of_lt this h4
 |exit id=>exact hq
 |goto l=>exact hq
 |ret=>exact hq
 |panic c=>exact hq
 |outgrown=>exact hq
theorem ur {ops:Array Oper} {K:St→Prop} {Q:Exit→Act→World→Prop} (hk:∀s l W,dq W0 w0 s l W→K s→Q .normal (az l) W):
 ∀(g:List (List Gh)) (os:List Oper) (s:St) (l:Fr) (W:World),dq W0 w0 s l W→BU cx ops K g os s→wpList cx.P ops Q os (az l) W
 |[],os,s,l,W,hs,h=>qw hk os s l W hs h
 |g::gs,os,s,l,W,hs,h=>by
  unfold BU at h
  obtain⟨s1,h1,h2⟩:=gR hs h
  cases os with
  |nil=>exact wpList_nil (hk s1 l W h2 h1)
  |cons o rest=>
   unfold wpList
   have:=zG (Q:=Q) (next:=wpList cx.P ops Q rest) h2 h1 fun s' l' W' jl h'=>ur hk gs rest s' l' W' jl h'
   split
   ·rename_i hw;rw[if_pos hw] at this;exact .inl this
   ·rename_i hw;rw[if_neg hw] at this;exact this
theorem IB (RO:cx.P.follows .mixedOrders=true):∀(an:An) (c:Code) (Q:Exit→St→Prop) (s:St) (l:Fr) (W:World),dq W0 w0 s l W→iL cx hn an c Q s→c.wp cx.P (r6 W0 w0 Q) (az l) W:=by
 intro an
 induction an with
 |n=>
  intro c Q s l W hs h
  cases c with
  |skip=>exact wp_skip ⟨l,s,rfl,hs,h⟩
  |label _=>exact wp_label ⟨l,s,rfl,hs,h⟩
  |exit id=>exact wp_exit ⟨l,s,rfl,hs,h⟩
  |ret=>exact wp_ret ⟨l,s,rfl,hs,h⟩
  |region id ops draw=>
   cases draw with
   |false=>exact wp_region_list (qw (fun s l W h1 h2=>⟨l,s,rfl,h1,h2⟩) _ _ _ _ hs h)
   |true=>exact EN RO hs h
  |_=>exact h.elim
 |lst g=>
  intro c Q s l W hs h
  cases c with
  |region id ops draw=>
   cases draw with
   |false=>exact wp_region_list (ur (fun s l W h1 h2=>⟨l,s,rfl,h1,h2⟩) _ _ _ _ _ hs h)
   |true=>exact h.elim
  |_=>exact h.elim
 |ord om=>
  intro c Q s l W hs h
  cases c with
  |region id ops draw=>
   cases draw with
   |false=>exact h.elim
   |true=>
    obtain⟨tb,h⟩:=L_ h
    obtain⟨zm,h⟩:=Jm h
    obtain⟨ls,h⟩:=L' h
    exact EO RO hs h
  |_=>exact h.elim
 |gh g a ih=>
  intro c Q s l W hs h
  have h:Wp (fun s'=>iL cx hn a c Q s') g s:=by cases c<;>exact h
  obtain⟨s',h1,h2⟩:=gR hs h
  exact ih c Q s' l W h2 h1
 |ghe a g ih=>
  intro c Q s l W hs h
  have h:iL cx hn a c (fun e s'=>(match e with
   |.normal=>Wp (Q .normal) g s'
   |e=>Q e s')) s:=by cases c<;>exact h
  refine wp_mono (ih c _ s l W hs h) fun e b' W' hq=>?_
  cases e with
  |normal=>
   obtain⟨l',s',rfl,h1,h2⟩:=hq
   obtain⟨s'',h3,h4⟩:=gR h1 h2
   exact⟨l',s'',rfl,h4,h3⟩
  |exit id=>exact hq
  |goto l=>exact hq
  |ret=>exact hq
  |panic c=>exact hq
  |outgrown=>exact hq
 |seq a b Jh Ji=>
  intro c Q s l W hs h
  cases c with
  |seq x y=>exact wp_seq (wp_mono (Jh x _ s l W hs h) fun e b' W' hq=>CH hq fun s' l' gZ h1 h2=>Ji y Q s' l' gZ h1 h2)
  |_=>exact h.elim
 |join lt lb a b Jh Ji=>
  intro c Q s l W hs h
  cases c with
  |seq x y=>
   simp only[iL] at h
   split at h<;>first|exact h.elim|skip
   rename_i cJ
   simp only[bE,kX] at h
   refine wp_seq (wp_mono (Jh x _ s l W hs h) fun e b' W' hq=>CH (B:=fun s'=>match pZ s.f.length lt (BT s lb) s' with
    |some v=>kY (aB s'.B) (BT s lb) (iL cx hn b y Q (Af s.f.length lt (BT s lb) v s'.H))
    |none=>False) hq fun s' l' gZ h1 h2=>?_)
   split at h2<;>first|exact h2.elim|skip
   rename_i v hv
   obtain⟨h3,h4⟩:=zO h1 cJ hv h2
   exact Ji y Q _ _ _ h4 h3
  |_=>exact h.elim
 |cond a b Jh Ji=>
  intro c Q s l W hs h
  cases c with
  |cond c x y=>
   simp only[iL] at h
   split at h<;>first|exact h.elim|skip
   rename_i t ht
   have hv:(az l).eval c=.bool t:=by
    obtain⟨E,hm,hf⟩:=hs
    have:=rD (x:=c) hm fun t _=>hf.2 t id
    rw[ht] at this
    exact this.1
   cases t with
   |true=>exact wp_cond_true hv (Jh x Q s l W hs h)
   |false=>exact wp_cond_false hv (Ji y Q s l W hs h)
  |_=>exact h.elim
 |aC a ih=>
  intro c Q s l W hs h
  cases c with
  |block id x=>
   refine wp_block (wp_mono (ih x _ s l W hs h) fun e b' W' hq=>?_)
   cases e with
   |normal=>exact hq
   |exit I_=>
    obtain⟨l',s',rfl,h1,hq⟩:=hq
    simp only[Exit.inBlock]
    replace hq:if I_=id then Q .normal s' else Q (.exit I_) s':=hq
    split at hq
    ·rename_i he;rw[if_pos he];exact⟨l',s',rfl,h1,hq⟩
    ·rename_i he;rw[if_neg he];exact⟨l',s',rfl,h1,hq⟩
   |goto l=>exact hq
   |ret=>exact hq
   |panic c=>exact hq
   |outgrown=>exact hq
  |_=>exact h.elim
 |loop lt lb a ih=>
  intro c Q s l W hs h
  cases c with
  |loop x=>
   simp only[iL] at h
   split at h<;>first|exact h.elim|skip
   rename_i v cJ hv
   simp only[kX] at h
   exact K2 cJ (wm hs cJ hv Hi) h fun v H l W C jl amJ=>ih x _ _ l W jl (by
    have e:Kk s.f.length (FK hn s lt) (Ag hn s lb) Q C=fun e s'=>(match e with
     |.normal=>(match pZ s.f.length (FK hn s lt) (Ag hn s lb) s' with
      |some v'=>kY (aB s'.B) (Ag hn s lb) (C v' s'.H)
      |none=>False)
     |e=>Q e s'):=by
      funext e s'
      cases e<;>first|rfl|(simp only[Kk];cases pZ s.f.length (FK hn s lt) (Ag hn s lb) s'<;>rfl)
    rw[e];exact amJ)
  |_=>exact h.elim
end
section
variable {W:World} {H:HP} {w:Mk}
def jM (i:Nat):List (Bool×AK)→Nat→Bool
 |[],_=>false
 |p::r,k=>if k/64=i then p.2.bh (k%64) else jM (i+1) r k
def uu (i j:Nat):List (Bool×AK)→Nat→Nat
 |[],_=>0
 |p::r,k=>if k/64=i then j+k%64 else uu (i+1) (j+p.2.sz) r k
def AA (i j:Nat):List (Bool×AK)→Nat→Option Nat
 |[],_=>none
 |p::r,a=>if a<j+p.2.sz then(if p.2.bh (a - j) then some (i*64+(a - j)) else none) else AA (i+1) (j+p.2.sz) r a
theorem sV:∀{ps:List (Bool×AK)} {i k:Nat},jM i ps k=true→i≤k/64
 |[],i,k,h=>by simp[jM] at h
 |p::r,i,k,h=>by
  simp only[jM] at h
  split at h
  ·omega
  ·have:=sV h;omega
theorem qS:∀{ps:List (Bool×AK)} {i j a k:Nat},Ah ps=true→j≤a→(AA i j ps a=some k↔jM i ps k=true∧uu i j ps k=a)
 |[],i,j,a,k,_,_=>by simp[AA,jM]
 |p::r,i,j,a,k,hs,hj=>by
  simp only[Ah,List.all_cons,Bool.and_eq_true,decide_eq_true_eq] at hs
  simp only[AA,jM,uu]
  by_cases h1:a<j+p.2.sz
  ·rw[if_pos h1]
   constructor
   ·grind
   ·rintro⟨h2,h3⟩
    by_cases hk:k/64=i
    ·grind
    ·rw[if_neg hk] at h2 h3
     exfalso
     have:=Hj h2 (j:=j+p.2.sz)
     omega
  ·rw[if_neg h1,qS (by simpa[Ah] using hs.2) (by omega)]
   constructor
   ·rintro⟨h2,h3⟩
    have:=sV h2
    grind
   ·rintro⟨h2,h3⟩
    by_cases hk:k/64=i
    ·rw[if_pos hk] at h2 h3
     have:=lV h2
     omega
    simp_all
where
 Hj:∀{ps:List (Bool×AK)} {i j k:Nat},jM i ps k=true→j≤uu i j ps k
  |[],i,j,k,h=>by simp[jM] at h
  |p::r,i,j,k,h=>by
   simp only[jM] at h
   simp only[uu]
   split at h
   ·simp_all
   ·rename_i hk;rw[if_neg hk];have:=Hj (j:=j+p.2.sz) h;omega
theorem dJ.shift {tg:Nat→Tag} {q:Nat}:∀{k:AK} {j:Nat} {vs:List Value} {x:k.T},dJ w W tg k (q+j) vs x→dJ w W (fun i=>tg (q+i)) k j vs x
 |.own _ _,_,_,_,h=>h
 |.cons a b,j,_,_,h=>by
  obtain⟨va,vb,e,h1,h2⟩:=h
  exact⟨va,vb,e,dJ.shift h1,dJ.shift (by grind)⟩
 |.fn _,_,_,_,h=>h
 |.one _,_,_,_,h=>h
 |.byte,_,_,_,h=>h
 |.ref,_,_,_,h=>h
 |.row _,_,_,_,h=>h
 |.bQ _,_,_,_,h=>h
 |.nil,_,_,_,h=>h
structure agD (w:Mk) (W:World) (i j:Nat) (ps:List (Bool×AK)) (xs:HT ps) (vs:List Value) (hd:Nat→Sl):Prop where
 own:∀(O:OL) k,jM i ps k=true→Ch w W (.arg (uu i j ps k)) (hd k) (aw (rW i ps xs O) k)
 other:∀(O:OL) k,jM i ps k=false→aw (rW i ps xs O) k=aw O k
 akU:∀E:Env,(∀b,w b=none→E.w b=none)→(∀b,w b=some .ext→E.w b=some .ext)→(∀k,jM i ps k=true→E.vo k=true∧E.bo k=hd k)→ju E W (oM i ps xs) vs
theorem CI {base:Nat} {k:AK} {x:k.T} {O:OL} {n i:Nat} (hb:base=i*64) (hs:k.sz≤32) (h:¬(n/64=i∧k.bh (n%64)=true)):aw (k.lq base 0 x O) n=aw O n:=by
 rw[iN]
 rintro⟨h1,h2⟩
 rw[Nat.sub_zero] at h2
 have:=lV h2
 grind
theorem Ma:∀{ps:List (Bool×AK)} {i j:Nat} {xs:HT ps} {vs:List Value},fQ ps=true→Ah ps=true→gk w W j ps vs xs→∃hd,agD w W i j ps xs vs hd
 |[],i,j,xs,vs,_,_,h=>by
  have h:vs=[]:=h
  subst h
  exact⟨fun _=>⟨none,0,0⟩,fun O k h=>by simp[jM] at h,fun O k _=>rfl,fun E _ _ _=>trivial⟩
 |(ag,p)::r,i,j,xs,vs,hg,hs,h=>by
  obtain⟨v,us,rfl,hr,hp⟩:=h
  simp only[fQ,Bool.and_eq_true] at hg
  simp only[Ah,List.all_cons,Bool.and_eq_true,decide_eq_true_eq] at hs
  obtain⟨hd,ih⟩:=Ma (i:=i+1) hg.2 (by simpa[Ah] using hs.2) hr
  have first:∃hd0:Nat→Sl,(∀(O:OL) k,k/64=i→p.bh (k%64)=true→Ch w W (.arg (j+k%64)) (hd0 (k%64)) (aw (p.lq (i*64) 0 xs.1 O) k))∧
   ∀E:Env,(∀b,w b=none→E.w b=none)→(∀b,w b=some .ext→E.w b=some .ext)→(∀o,p.bh o=true→E.vo (i*64+o)=true∧E.bo (i*64+o)=hd0 o)→aK E W (Et (JZ (i*64) (ag,p) 0 xs.1)) v:=by
   obtain⟨cs,hc,j6⟩:=hp
   obtain⟨hd0,o1,r1⟩:=sw (q:=j) (j:=0) hg.1 hc
   refine⟨hd0,fun O k h1 h2=>?_,fun E h1 h2 h3=>?_⟩
   ·have:=nH (O:=O) (base:=i*64) (n:=k) hg.1 o1 (by omega) (by grind)
    grind
   ·have hv:=r1 E W (i*64) (fun b hb _=>⟨h1 b hb,bl.of rfl⟩) (fun b hb _=>⟨hb.imp (h1 b) (h2 b),bl.of rfl⟩) fun q _ _ hq=>h3 q (by omega)
    refine DR ?_
    unfold JZ
    cases ag with
    |true=>exact⟨cs,j6,hv⟩
    |false=>
     have j6:cs=[v]:=j6
     subst j6
     simp only
     split
     ·rename_i a ha;rw[ha] at hv;exact hv.1
     ·exact trivial
  obtain⟨hd0,f1,f2⟩:=first
  refine⟨fun k=>if k/64=i then hd0 (k%64) else hd k,fun O k hk=>?_,fun O k hk=>?_,fun E h1 h2 h3=>⟨f2 E h1 h2 fun o ho=>?_,ih.akU E h1 h2 fun k hk=>?_⟩⟩
  ·simp only[jM] at hk
   simp only[uu]
   split at hk
   ·rename_i Ba
    rw[if_pos Ba,if_pos Ba]
    show Ch w W _ _ (aw (rW (i+1) r xs.2 _) k)
    rw[ih.other _ k]
    ·simp_all
    ·cases h:jM (i+1) r k with
     |false=>rfl
     |true=>have:=sV h;omega
   ·rename_i Ba
    rw[if_neg Ba,if_neg Ba]
    exact ih.own _ k hk
  ·simp only[jM] at hk
   show aw (rW (i+1) r xs.2 _) k=_
   split at hk
   ·rename_i Ba
    rw[ih.other _ k,CI rfl hs.1]
    ·simp_all
    ·cases h:jM (i+1) r k with
     |false=>rfl
     |true=>have:=sV h;omega
   ·rename_i Ba
    rw[ih.other _ k hk,CI rfl hs.1 fun h=>Ba h.1]
  ·have:=lV ho
   have e1:(i*64+o)/64=i:=by omega
   have e2:(i*64+o)%64=o:=by omega
   have:=h3 (i*64+o) (by simp only[jM];grind)
   grind
  ·have o0:=sV hk
   have Ba:¬k/64=i:=by omega
   have:=h3 k (by simp only[jM];simp_all)
   simp_all
end
section
variable {cx:Cx} {hn:Hn} {W0 W:World} {w0 w:Mk} {H:HP}
def xw (w:Mk) (ps:List (Bool×AK)):Mk:=fun b=>match w b with
 |some (.arg a)=>(match AA 0 0 ps a with|some k=>some (.lo k)|none=>none)
 |τ=>τ
theorem qT {ps:List (Bool×AK)} {b:Nat} (h:w b=none):xw w ps b=none:=by unfold xw;rw[h]
theorem lI {ps:List (Bool×AK)} {b:Nat} {u:Tag} (h1:∀i,u≠.arg i) (h2:∀i,u≠.lo i):xw w ps b=some u↔w b=some u:=by
 unfold xw
 grind
theorem Mb {ps:List (Bool×AK)} (hs:Ah ps=true) {b k:Nat} (hl:¬JY (w b)):xw w ps b=some (.lo k)↔jM 0 ps k=true∧w b=some (.arg (uu 0 0 ps k)):=by
 unfold xw
 cases h:w b with
 |none=>simp
 |some t=>
  cases t with
  |arg a=>
   cases hc:AA 0 0 ps a with
   |none=>
    simp only[hc]
    refine⟨fun e=>(by grind),fun⟨h1,h2⟩=>?_⟩
    injection h2 with h2
    injection h2 with h2
    have:=(qS (i:=0) (j:=0) (k:=k) hs (Nat.zero_le a)).2 ⟨h1,h2.symm⟩
    simp_all
   |some j=>
    simp only[hc]
    constructor
    ·intro e
     injection e with e
     injection e with e
     subst e
     obtain⟨h1,h2⟩:=(qS (i:=0) (j:=0) hs (Nat.zero_le a)).1 hc
     simp_all
    ·rintro⟨h1,h2⟩
     injection h2 with h2
     injection h2 with h2
     have:=(qS (i:=0) (j:=0) (k:=k) hs (Nat.zero_le a)).2 ⟨h1,h2.symm⟩
     simp_all
  |lb i=>simp
  |lo i=>rw[h] at hl;exact absurd trivial hl
  |_=>simp
theorem Hk {E:Env}:∀{f:List AV} {vs:List Value},ju E W f vs→f.length=vs.length∧∀t,t<f.length→aK E W (Vb f t) (dM vs t)
 |[],[],_=>⟨rfl,fun t h=>by grind⟩
 |_::_,_::_,h=>by
  obtain⟨h1,h2⟩:=Hk h.2
  refine⟨by grind,fun t ht=>?_⟩
  cases t with
  |zero=>exact h.1
  |succ t=>exact h2 t (by simp_all)
 |[],_::_,h=>h.elim
 |_::_,[],h=>h.elim
theorem Hl:∀(f:List AV) {t:Nat},f.length≤t→Vb f t=.v .dead
 |[],_,_=>rfl
 |_::f,0,h=>by grind
 |_::f,t+1,h=>Hl f (by simp_all)
theorem T1 (f g:List Value) (t:Nat) (h:t<f.length):dM (f++g) t=dM f t:=by
 rw[nY,nY]
 grind
theorem K3 {ps:List (Bool×AK)} {xs:HT ps} {vs:List Value} (hp:Pre w W H) (hg:fQ ps=true) (hs:Ah ps=true) (ha:gk w W 0 ps vs xs) (m:Nat):dq W w ⟨FA.of (ps.length+m) (oM 0 ps xs),[],rW 0 ps xs [],H⟩ (vs++nK m) W∧vs.length=ps.length:=by
 obtain⟨hd,hi⟩:=Ma (i:=0) hg hs ha
 let E:Env:=⟨xw w ps,fun _=>0,hd,fun _=>false,jM 0 ps,W.heap.size⟩
 have BX:=hi.akU E (fun b hb=>qT hb) (fun b hb=>(lI (by simp) (by simp)).2 hb) fun k hk=>⟨hk,rfl⟩
 obtain⟨hl,qI⟩:=Hk BX
 have atP:(oM 0 ps xs).length=ps.length:=by
  have:∀(ps:List (Bool×AK)) (i:Nat) (xs:HT ps),(oM i ps xs).length=ps.length:=by
   intro ps
   induction ps with
   |nil=>intro i xs;rfl
   |cons p r ih=>intro i xs;simp[oM,ih]
  simp_all
 have zt:∀u:Tag,(∀i,u≠.arg i)→(∀i,u≠.lo i)→kp w W E.w W u u:=fun u h1 h2 b=>⟨lI h1 h2,fun _=>rfl⟩
 have him:mb (aG w) (aG E.w) W W:=fun b hb _=>⟨qT hb,bl.of rfl⟩
 refine⟨⟨E,⟨fun b hb=>qT (hp.wf b hb),?_,fun i=>⟨fun b h=>?_,rfl⟩,fun k=>?_,fun n=>(hp.ob n).bk him (zt _ (by simp) (by simp)) fun j=>zt _ (by simp) (by simp),fun b j=>⟨fun h=>?_,fun h=>hp.res b j ((lI (by simp) (by simp)).1 h)⟩,rfl⟩,?_,fun t _=>?_⟩,by omega⟩
 ·exact⟨rfl,rfl,rfl,Nat.le_refl _,fun b _ h=>⟨qT h,rfl⟩,fun b h=>⟨(lI (by simp) (by simp)).2 h,rfl⟩,fun b h=>(lI (by simp) (by simp)).1 h⟩
 ·have:=hp.loc b
  rw[(lI (by simp) (by simp)).1 h] at this
  exact this trivial
 ·cases hk:jM 0 ps k with
  |true=>
   have:=hi.own [] k hk
   unfold Ch at this
   show gV E W k (aw (rW 0 ps xs []) k)
   split at this<;>first|exact this.elim|skip
   rename_i e t ys heq
   obtain⟨g1,g2,g3⟩:=this
   rw[heq]
   refine⟨hk,g1,g2,g3.bk g1 him (fun _ _=>rfl) fun b=>?_⟩
   show xw w ps b=_↔_
   rw[Mb hs (hp.loc b)]
   simp_all
  |false=>
   show gV E W k (aw (rW 0 ps xs []) k)
   rw[hi.other [] k hk]
   refine⟨fun b h=>?_,hk⟩
   have:=(Mb hs (hp.loc b)).1 h
   simp_all
 ·have h:xw w ps b=some (.arg j):=h
  unfold xw at h
  grind
 ·show ps.length+m=(vs++nK m).length
  rw[vF];simp_all
 ·show aK E W (cC (FA.of (ps.length+m) (oM 0 ps xs)) t) (dM (vs++nK m) t)
  by_cases h:t<(oM 0 ps xs).length
  ·have:t<(FA.of (ps.length+m) (oM 0 ps xs)).length:=by rw[atP] at h;show t<ps.length+m;omega
   rw[T1 _ _ _ (by omega),mz this]
   exact qI t h
  ·have:cC (FA.of (ps.length+m) (oM 0 ps xs)) t=.v .dead:=by
    unfold cC
    split
    ·exact Hl _ (Nat.le_of_not_lt h)
    rfl
   rw[this];trivial
theorem qx {s:St} {l:Fr} {E:Env} {X:Nat→Prop} (hm:aQ W0 w0 X E s.B s.O s.H W) (hf:∀t,aK E W (cC s.f t) (dM l t)):∀(rv:List ResultVar) (K:List AV→Prop),QI cx s rv K→
 ∃vs U,(rv.mapM (m:=Sem) fun|.tmp t=>pure ((az l).tmps.getD t undef)|.cell a t=>do loadVar t (←asAddr ((az l).tmps.getD a undef))).run cx.P W=.ok vs W∧K U∧ju E W U vs
 |[],K,h=>⟨[],[],rfl,h,trivial⟩
 |.tmp t::rs,K,h=>by
  obtain⟨vs,U,hv,hk,hr⟩:=qx hm hf rs _ h
  have ht:(az l).tmps.getD t undef=dM l t:=congrFun (kf l) (.tmp t)
  exact⟨dM l t::vs,_,by simp_all,hk,nU hm (hf t),hr⟩
 |.cell a t::rs,K,h=>by
  obtain⟨u,av,h1,h2,h3⟩:=zk (cx:=cx) hm h (nU hm (hf a))
  obtain⟨vs,U,hv,hk,hr⟩:=qx hm hf rs _ h2
  have ht:(az l).tmps.getD a undef=dM l a:=congrFun (kf l) (.tmp a)
  cases hga:dM l a with
  |pointer p=>
   cases p with
   |none=>rw[hga] at h1;simp[Instr.loadAt,Instr.sureAddr] at h1
   |some p=>
    rw[hga] at h1 ht
    have mw:(loadVar t p).run cx.P W=.ok u W:=by simpa[Instr.loadAt,Instr.sureAddr] using h1
    exact⟨u::vs,_,by simp only[List.mapM_cons,Sem.run_bind,Sem.run_pure,Result.andThen_ok,hv,ht,show(asAddr (.pointer (some p))).run cx.P W=.ok p W from rfl,mw],hk,h3,hr⟩
  |_=>rw[hga] at h1;simp[Instr.loadAt,Instr.sureAddr] at h1
def Ak (w:Mk) (c:Nat→Option Nat):Mk:=fun b=>match w b with
 |some (.lb _)=>none
 |some (.lo q)=>(match c q with|some j=>some (.res j)|none=>none)
 |τ=>τ
theorem qU {c:Nat→Option Nat} {b:Nat} (h:w b=none):Ak w c b=none:=by unfold Ak;rw[h]
theorem qV {c:Nat→Option Nat} {b:Nat} {u:Tag} (h1:∀i,u≠.lb i) (h2:∀i,u≠.lo i) (h3:∀i,u≠.res i):Ak w c b=some u↔w b=some u:=by
 unfold Ak
 grind
theorem T2 {c:Nat→Option Nat} {b j:Nat} (kT:w b≠some (.res j)):Ak w c b=some (.res j)↔∃q,w b=some (.lo q)∧c q=some j:=by
 unfold Ak
 grind
theorem CJ:∀{ps:List (Bool×AK)},fB ps=true→fQ ps=true
 |[],_=>rfl
 |p::r,h=>by
  simp only[fB,Bool.and_eq_true] at h
  simp only[fQ,Bool.and_eq_true]
  exact⟨jX h.1,CJ h.2⟩
theorem CK {E:Env} {O:OL} {B:BL} {X:Nat→Prop} {c:Nat→Option Nat} (hm:aQ W0 w0 X E B O H W):∀{rs:List (Bool×AK)} {j:Nat} {vs:List Value} {r:HT rs},fB rs=true→Vv E W O c j rs vs r→kW (Ak E.w c) W j rs vs r
 |[],j,vs,r,_,h=>h
 |p::rs,j,vs,r,hg,h=>by
  simp only[fB,Bool.and_eq_true] at hg
  obtain⟨v,us,e,h1,cs,h2,h3⟩:=h
  exact⟨v,us,e,CK hm hg.2 h1,cs,pK (w:=Ak E.w c) (c:=c) (τ:=.res) hm (fun b hb _=>⟨qU hb,bl.of rfl⟩) (fun b j=>T2 (hm.clean b j).2) (fun _ _ _=>rfl) hg.1 h2,h3⟩
theorem PC {s:St} {l:Fr} {rv:List ResultVar} {rs:List (Bool×AK)} {K:HT rs→HP→Prop} (hs:dq W0 w0 s l W) (hg:fB rs=true) (h:Vr cx rv rs K s):
 ∃vs r w',(rv.mapM (m:=Sem) fun|.tmp t=>pure ((az l).tmps.getD t undef)|.cell a t=>do loadVar t (←asAddr ((az l).tmps.getD a undef))).run cx.P W=.ok vs W∧K r s.H∧BJ w0 W0 w' W s.H∧kW w' W 0 rs vs r:=by
 obtain⟨E,hm,hf⟩:=hs
 obtain⟨vs,U,h1,h2,h3⟩:=qx (cx:=cx) hm (fun t=>hf.2 t id) rv _ h
 have h3':ju E W (U.map (pj (aB s.B))) vs:=by
  have:∀{U:List AV} {vs:List Value},ju E W U vs→ju E W (U.map (pj (aB s.B))) vs:=by
   intro U
   induction U with
   |nil=>simp
   |cons a U ih=>intro vs h;cases vs with|nil=>exact h.elim|cons v vs=>exact⟨nU hm h.1,ih h.2⟩
  simp_all
 obtain⟨r,Cg,O2,c2,E2,hk,m2,p2,hh,_,ha,_⟩:=sx (CJ hg) hm (mS s.O) (j:=0) (fun q i hq=>(by grind)) h3' h2
 refine⟨vs,r,Ak E2.w c2,h1,hk,⟨fun b hb=>qU (m2.wf b hb),fun n=>(m2.ob n).bk (fun b hb _=>⟨qU hb,bl.of rfl⟩) (fun b=>⟨qV (by simp) (by simp) (by simp),fun _=>rfl⟩) fun j b=>⟨qV (by simp) (by simp) (by simp),fun _=>rfl⟩,?_⟩,CK m2 hg ha⟩
 have ew:=m2.since
 exact⟨ew.os,ew.tape,ew.output,ew.size,fun b hb h=>⟨qU (ew.im b hb h).1,(ew.im b hb h).2⟩,fun b h=>⟨(qV (by simp) (by simp) (by simp)).2 (ew.ext b h).1,(ew.ext b h).2⟩,fun b h=>ew.jn b ((qV (by simp) (by simp) (by simp)).1 h)⟩
theorem aa (RO:cx.P.follows .mixedOrders=true) {an:An} {f:FuncId} {fn:Func} {ps:List (Bool×AK)} {xs:HT ps} {rs:List (Bool×AK)} {H:HP} {K:HT rs→HP→Prop} (hf:cx.P.funcs[f]?=some fn) (h:bq cx hn an fn ps xs rs H K):ae cx.P f ps xs rs H K:=by
 intro w W vs hp ha
 unfold bq at h
 split at h<;>first|exact h.elim|skip
 rename_i c hc
 split at h<;>first|exact h.elim|skip
 rename_i hb
 simp only[Bool.and_eq_true,decide_eq_true_eq] at hb
 obtain⟨⟨⟨b1,b2⟩,b3⟩,b4⟩:=hb
 obtain⟨hs,hlen⟩:=K3 hp b1 b3 ha (fn.ntmps - ps.length)
 rw[show ps.length+(fn.ntmps - ps.length)=fn.ntmps from by omega] at hs
 refine calls_of_wp hf hc ?_
 rw[kX] at h
 have hw:=IB (hn:=hn) RO an c _ _ _ _ hs h
 have atQ:({tmps:=(⟨vs⟩:Array Value)++Array.replicate (fn.ntmps - (⟨vs⟩:Array Value).size) undef,defers:=[]}:Act)=az (vs++nK (fn.ntmps - ps.length)):=by
  unfold az
  congr 1
  rw[←Array.toList_inj]
  simp[vF,hlen]
 rw[atQ]
 have fin:∀{l:Fr} {s:St} {W':World},dq W w s l W'→Vr cx fn.results.toList rs K s→∃v,(results fn (az l).tmps).run cx.P W'=.ok v W'∧∃us r H' w',Ending.returned v=.returned (ma us)∧K r H'∧BJ w W w' W' H'∧kW w' W' 0 rs us r:=fun{l s W'} jl he=>by
  obtain⟨us,r,w',h1,h2,h3,h4⟩:=PC jl b2 he
  exact⟨ma us,wo h1,us,r,s.H,w',rfl,h2,h3,h4⟩
 refine wp_mono hw fun e b W' hq=>?_
 cases e with
 |normal=>
  obtain⟨l,s,rfl,h1,h2⟩:=hq
  obtain⟨v,h3,h4⟩:=fin h1 h2
  exact⟨rfl,v,h3,h4⟩
 |ret=>
  obtain⟨l,s,rfl,h1,h2⟩:=hq
  obtain⟨v,h3,h4⟩:=fin h1 h2
  exact⟨rfl,v,h3,h4⟩
 |exit id=>obtain⟨l,s,rfl,_,hq⟩:=hq;simp_all
 |goto g=>obtain⟨l,s,rfl,_,hq⟩:=hq;simp_all
 |panic c=>exact hq.elim
 |outgrown=>exact hq.elim
end
mutual
def Al (P:Program):Nat→AK→TypeId→Bool
 |0,_,_=>false
 |n+1,k,t=>(match P.underlying t with
  |some (.int i)=>(match k with|.one (.int j)=>decide (j=i)|.byte=>decide (i=.u8)|_=>false)
  |some .bool=>(match k with|.one .bool=>true|_=>false)
  |some .string=>(match k with|.one .str=>true|_=>false)
  |some (.slice e)=>(match k with|.row ek=>Al P n ek e&&decide (ek.sz=P.cellsOf e)&&decide (ek.sz≠0)|_=>false)
  |some (.struct fs)=>PE P n k 0 fs.toList&&decide (k.sz=P.cellsOf t)
  |_=>false)
def PE (P:Program):Nat→AK→Nat→List Field→Bool
 |0,_,_,_=>false
 |n+1,k,off,fs=>(match fs with
  |[]=>false
  |f::r=>decide (f.offset=off)&&(match r with
   |[]=>Al P n k f.type&&decide (k.sz=P.cellsOf f.type)
   |_::_=>(match k with
    |.cons a b=>Al P n a f.type&&decide (a.sz=P.cellsOf f.type)&&PE P n b (off+a.sz) r
    |_=>false)))
end
def WD:(k:AK)→k.T→Prop
 |.one (.int i),x=>(Lit.int i x).wf=true
 |.one .str,s=>ByteArray.size s≤maxLen
 |.row e,xs=>xs.length≤maxLen∧∀x∈xs,WD e x
 |.cons a b,x=>WD a x.1∧WD b x.2
 |_,_=>True
theorem PF {x:Int} (h:(Lit.int .u8 x).wf=true):0≤x∧x<256:=by
 have h:(decide (IntKind.u8.min≤x)&&decide (x≤IntKind.u8.max))=true:=h
 simp only[Bool.and_eq_true,decide_eq_true_eq] at h
 have h1:IntKind.u8.min=0:=by rfl
 have h2:IntKind.u8.max=255:=by rfl
 omega
theorem K4 {x:Int} (h:(Lit.int .i64 x).wf=true): -9223372036854775808≤x∧x≤9223372036854775807:=by
 have h:(decide (IntKind.i64.min≤x)&&decide (x≤IntKind.i64.max))=true:=h
 simp only[Bool.and_eq_true,decide_eq_true_eq] at h
 have h1:IntKind.i64.min= -9223372036854775808:=by rfl
 simp_all
mutual
theorem p8 {P:Program} {W:World}:∀(n:Nat) {m:Nat} {k:AK} {t:TypeId} {cs:List Value},Al P n k t=true→EP P W m t cs→∃x:k.T,bz (fun _=>True) W k cs x∧WD k x
 |0,m,k,t,cs,h,_=>by simp[Al] at h
 |n+1,0,k,t,cs,_,hr=>hr.elim
 |n+1,m+1,k,t,cs,h,hr=>by
  unfold Al at h
  unfold EP at hr
  split at h
  ·rename_i i hu
   rw[hu] at hr
   simp only at hr
   obtain⟨x,rfl,hx⟩:=hr
   split at h<;>first|(cases h;done)|skip
   ·rename_i j
    simp only[decide_eq_true_eq] at h
    subst h
    exact⟨x,⟨rfl,rfl⟩,hx⟩
   ·simp only[decide_eq_true_eq] at h
    subst h
    obtain⟨h1,h2⟩:=PF hx
    refine⟨UInt8.ofNat x.toNat,?_,trivial⟩
    show[Value.int .u8 x]=[.int .u8 (UInt8.ofNat x.toNat).toNat]
    have:((UInt8.ofNat x.toNat).toNat:Int)=x:=by
     rw[UInt8.toNat_ofNat']
     omega
    rw[this]
  ·rename_i hu
   rw[hu] at hr
   simp only at hr
   obtain⟨x,rfl⟩:=hr
   split at h<;>first|(cases h;done)|skip
   exact⟨x,⟨rfl,rfl⟩,trivial⟩
  ·rename_i hu
   rw[hu] at hr
   simp only at hr
   obtain⟨x,rfl,hx⟩:=hr
   split at h<;>first|(cases h;done)|skip
   exact⟨x,⟨rfl,rfl⟩,hx⟩
  ·rename_i e hu
   rw[hu] at hr
   simp only at hr
   split at h<;>first|(cases h;done)|skip
   rename_i ek
   simp only[Bool.and_eq_true,decide_eq_true_eq] at h
   obtain⟨⟨h1,h2⟩,h3⟩:=h
   rcases hr with rfl|⟨a,len,cap,rfl,hl,hm,hel⟩
   ·exact⟨[],⟨⟨none,0,0⟩,rfl,rfl,Nat.le_refl _,Nat.zero_le _,fun _=>⟨rfl,rfl⟩,fun i x hx=>by simp at hx⟩,Nat.zero_le _,by simp⟩
   ·have hex:∀i:Fin len,∃x:ek.T,∃sf,dS W (a.add (i.1*P.cellsOf e)) 0 sf∧bz (fun _=>True) W ek sf x∧WD ek x:=fun i=>by
     obtain⟨sf,hc,mw⟩:=hel i.1 i.2
     obtain⟨x,hd,hw⟩:=p8 n h1 mw
     exact⟨x,sf,hc,hd,hw⟩
    let f:Fin len→ek.T:=fun i=>Classical.choose (hex i)
    have hf:∀i,∃sf,dS W (a.add (i.1*P.cellsOf e)) 0 sf∧bz (fun _=>True) W ek sf (f i)∧WD ek (f i):=fun i=>Classical.choose_spec (hex i)
    refine⟨List.ofFn f,⟨⟨some a,len,cap⟩,rfl,by simp,hl,Nat.le_trans hl hm,fun h=>(by cases h),fun i x hx=>?_⟩,by simp only[List.length_ofFn];omega,fun x hx=>?_⟩
    ·obtain⟨hi,rfl⟩:=List.getElem?_eq_some_iff.1 hx
     rw[List.length_ofFn] at hi
     obtain⟨sf,hc,hd,_⟩:=hf ⟨i,hi⟩
     refine⟨a,sf,rfl,trivial,hd.len,?_,?_⟩
     ·rw[h2];exact hc
     ·simpa using hd
    ·obtain⟨i,rfl⟩:=List.mem_ofFn.1 hx
     exact(hf i).choose_spec.2.2
  ·rename_i fs hu
   rw[hu] at hr
   simp only at hr
   obtain⟨hl,hx⟩:=hr
   rw[Bool.and_eq_true,decide_eq_true_eq] at h
   obtain⟨x,hd,hw⟩:=Hm n (cs:=cs) (off:=0) h.1 fun i f hi=>hx i f (by rw[←Array.getElem?_toList];exact hi)
   rw[List.drop_zero,h.2,←hl,List.take_length] at hd
   exact⟨x,hd,hw⟩
  ·cases h
theorem Hm {P:Program} {W:World}:∀(n:Nat) {m:Nat} {k:AK} {off:Nat} {fs:List Field} {cs:List Value},PE P n k off fs=true→(∀(i:Nat) f,fs[i]?=some f→EP P W m f.type ((cs.drop f.offset).take (P.cellsOf f.type)))→∃x:k.T,bz (fun _=>True) W k ((cs.drop off).take k.sz) x∧WD k x
 |0,m,k,off,fs,cs,h,_=>by simp[PE] at h
 |n+1,m,k,off,fs,cs,h,hr=>by
  unfold PE at h
  split at h<;>first|(cases h;done)|skip
  rename_i f r
  rw[Bool.and_eq_true,decide_eq_true_eq] at h
  obtain⟨h1,h⟩:=h
  subst h1
  split at h
  ·simp only[Bool.and_eq_true,decide_eq_true_eq] at h
   rw[h.2]
   exact p8 n h.1 (hr 0 f rfl)
  ·split at h<;>first|(cases h;done)|skip
   rename_i g r' a b
   simp only[Bool.and_eq_true,decide_eq_true_eq] at h
   obtain⟨⟨h2,h3⟩,h4⟩:=h
   obtain⟨x,hx,hwx⟩:=p8 n h2 (hr 0 f rfl)
   obtain⟨y,hy,hwy⟩:=Hm n (cs:=cs) h4 fun i q hq=>hr (i+1) q hq
   rw[←h3] at hx
   refine⟨(x,y),⟨_,_,?_,hx,hy⟩,hwx,hwy⟩
   simp only[AK.sz]
   rw[List.take_add,List.drop_drop]
end
theorem T3 {P:Program} {f:FuncId} {ps:List (Bool×AK)} {xs:HT ps} {vs:List Value} {W:World} (h:ae P f ps xs [(false,.one .bool)] (fun _=>none) fun r _=>r=(true,())) (ha:gk (fun _=>none) W 0 ps vs xs):
 fL P f vs [.one .bool] W fun x W'=>x=(true,())∧aV [] W W':=by
 refine Calls.mono (h (fun _=>none) W vs ⟨fun _ _=>rfl,fun n b=>⟨by simp,by simp⟩,fun b=>id,by simp⟩ ha) fun e W' ⟨us,r,H',w',h1,h2,h3,h4⟩=>?_
 subst h2
 obtain⟨v,zs,rfl,h5,cs,h6,h7⟩:=h4
 have h5:zs=[]:=h5
 have h7:cs=[v]:=h7
 subst h5 h7
 obtain⟨h6,_⟩:=h6
 injection h6 with h6
 subst h6
 refine⟨(true,()),h1,rfl,?_⟩
 have hs:=h3.since
 exact⟨hs.os,hs.tape,hs.output,hs.size,fun b hb _=>(hs.im b hb rfl).2⟩
theorem YX {w:Mk} {W:World} {j:Nat}:gk w W j [] [] ():=rfl
theorem yS {W:World} {j:Nat} {k:AK} {ag:Bool} {r:List (Bool×AK)} {v:Value} {vs:List Value} {x:k.T} {y:HT r} {cs:List Value} (hg:k.bd=true) (hn:il k=true) (hd:bz (fun _=>True) W k cs x) (hs:Z9 ag v cs) (h:gk (fun _=>none) W (j+k.sz) r vs y):gk (fun _=>none) W j ((ag,k)::r) (v::vs) (x,y):=by
 refine⟨v,vs,rfl,h,(OO hg).2 ⟨cs,kP hn ?_,hs⟩⟩
 exact hd.aG (fun b _ _=>⟨rfl,bl.of rfl⟩) hg
theorem au {n:Nat} {K:Int→Prop} (h:n≤9223372036854775807→K n):aP n K:=h
theorem mJ {α:Type} {xs:List α} {i:Nat} {K:α→Prop} {x:α} (hx:xs[i]?=some x) (h:K x):bT xs (i:Int) K:=⟨x,Int.natCast_nonneg i,by simp_all,h⟩
theorem dj {α:Type} {xs:List α} {i:Nat} {K:α→Prop} {x:α} (hx:xs[i]?=some x) (h:K x):gN xs i K:=⟨x,hx,h⟩
theorem ai {P:Program} {f:FuncId} {ps:List (Bool×AK)} {xs:HT ps} {rs:List (Bool×AK)} {K:HT rs→Prop} (r:HT rs) (h:bB P f ps xs rs r) (hk:K r):ck P f ps xs rs K:=⟨r,h,hk⟩
theorem bB.call {P:Program} {f:FuncId} {ps:List (Bool×AK)} {xs:HT ps} {rs:List (Bool×AK)} {r:HT rs} (h:bB P f ps xs rs r) {H:HP} {K:HT rs→HP→Prop} (hk:K r H):ae P f ps xs rs H K:=h H K hk
theorem gG {V:Type} {x:V} {H:HP} {body:V→HP→(V→HP→Prop)→Prop} (I:V→HP→Prop) (m:V→HP→Nat) (h0:I x H) (h:∀x H,I x H→body x H fun x' H'=>I x' H'∧m x' H'<m x H):a9 x H body:=⟨I,m,h0,h⟩
theorem bf {V:Type} {B:V→HP→Prop} {A:(V→HP→Prop)→Prop} (h:A B):bE B A:=h
theorem bM {n m k:Nat} {A:Prop} (h:(n+m)*k≤140737488355328) (h':A):cR n m k A:=⟨h,h'⟩
theorem agF {n:Nat} {l h:Nat} {K:Nat→Nat→Prop} (h1:l≤h) (h2:h≤n) (hk:K l (h - l)):fe n (l:Int) (h:Int) K:=⟨Int.natCast_nonneg l,by omega,by omega,by simp_all⟩
end Go.Ga
