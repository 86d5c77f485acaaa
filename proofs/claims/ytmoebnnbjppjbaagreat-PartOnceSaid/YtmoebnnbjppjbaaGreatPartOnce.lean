/- Each request that was posted to a partition is applied at most once, and what it is answered is what it came to then; all keys are in the range; while one worker holds the lease no other one does a micro-step: for every range, config and row of deeds. -/
import Derived.Test.YtmoebnnbjppjbaaGreatRows
import Derived.Test.YtmoebnnbjppjbaaGreatPg
import Derived.Test.YtmoebnnbjppjbaaGreatPa
import Derived.ProofKit
import Derived.OpenShut
import Derived.ShutString
import Derived.SizedLaws
import Derived.Laws.Cover2
namespace Go.Proofs.YtmoebnnbjppjbaaGreat.PartOnceRow
open Go Go.Gp Go.Proofs.YtmoebnnbjppjbaaGreat Go.ChangeShapes Go.WideShapes Go.ChangeAt Go.RowKit
open Go.ChangeMaps (open_string shut_string)
set_option linter.unusedVariables false
theorem own:ownKnob Tryz.prog.godebug=none:=by kernel_rfl
theorem laidOut:laidOutB Tryz.prog=true:=by kernel_rfl
set_option maxRecDepth 100000 in
theorem lifted (os:Os) (started:os.Started) (H:Type) (enc:TypeId×Value→H):
 ReturnsInHanded {} Tryz.checked os 3 .any (Rows.partOnceSpec.pre6 enc Tryz.prog Tryz.f3 Rows.partOnceRow.domain false) (Rows.partOnceSpec.post enc Tryz.prog Tryz.f3 false true false false):=by
 refine returnsInHanded_of_change_sized (C:=Tryz.checked) own started (by kernel_rfl) Tryz.func3
  (ChangeSpec.witness6 (enc:=enc) (C:=Tryz.checked) false ⟨#[],#[(.agg #[(.slice none 0 0),(.slice none 0 0)]),(.agg #[(.int .i64 0),(.int .i64 0),(.int .i64 0),(.int .i64 0),(.int .i64 0),(.int .i64 0)]),(.slice none 0 0)],[]⟩ 8 (by kernel_rfl) (by kernel_rfl) (by kernel_rfl) (by kernel_rfl)) ?_
 intro W base args ds gs before anf hW aDZ aur _
 have VJ:∀(j:Nat) t v,Tryz.f3.params[j]?=some t→args[j]?=some v→Value.okWide Tryz.prog W .any base t v:=anf
 have hW':=hW
 obtain⟨p,q,Jy,hV,rfl,hfz,eF⟩:=hW
 have hA:DataW.TrodAll enc Tryz.prog W 0 (fun _=>true) true Tryz.f3.params.toList args.toList ds p:=Jy
 rw[Tryz.params3] at hA VJ
 obtain⟨v0,vs0,d0,ds0,p0,q0,ly,rfl,rfl,h0,r0⟩:=trodAll_cons hA
 obtain⟨v1,vs1,d1,ds1,p1,q1,rfl,rfl,rfl,h1,r1⟩:=trodAll_cons r0
 obtain⟨v2,vs2,d2,ds2,p2,q2,rfl,rfl,rfl,h2,r2⟩:=trodAll_cons r1
 obtain⟨rfl,rfl,rfl⟩:=trodAll_nil r2
 obtain rfl:args=#[v0,v1,v2]:=by cases args;simp_all
 obtain⟨rfl,rfl⟩:=trodVars_none hV
 obtain⟨cs0,rfl,aur⟩:=okWide_struct Tryz.underlying24 (VJ 0 24 v0 rfl rfl)
 have k0:=h0
 have lt0:∀x∈p0,x.block<W.heap.size:=by obtain⟨m,hm⟩:=k0;exact DataW.trod_lt m _ _ _ hm
 obtain⟨n0,GU⟩:∃n,EP Tryz.prog W n 24 cs0.toList:=by obtain⟨m,hm⟩:=h0;exact⟨m,yf m _ _ _ hm⟩
 obtain⟨cs1,rfl,aEa⟩:=okWide_struct Tryz.underlying26 (VJ 1 26 v1 rfl rfl)
 have k1:=h1
 have lt1:∀x∈p1,x.block<W.heap.size:=by obtain⟨m,hm⟩:=k1;exact DataW.trod_lt m _ _ _ hm
 obtain⟨n1,rd1⟩:∃n,EP Tryz.prog W n 26 cs1.toList:=by obtain⟨m,hm⟩:=h1;exact⟨m,yf m _ _ _ hm⟩
 obtain⟨a2,VF,alQ,rfl⟩:=okWide_slice Tryz.underlying27 (VJ 2 27 v2 rfl rfl)
 have k2:=h2
 have lt2:∀x∈p2,x.block<W.heap.size:=by obtain⟨m,hm⟩:=k2;exact DataW.trod_lt m _ _ _ hm
 obtain⟨n2,rd2⟩:∃n,EP Tryz.prog W n 27 [.slice a2 VF alQ]:=by obtain⟨m,hm⟩:=h2;exact⟨m,yf m _ _ _ hm⟩
 have hw:=Ff W cs0 cs1 ⟨a2,VF,alQ⟩ n0 GU n1 rd1 n2 rd2
 refine Calls.mono hw fun e W' he=>?_
 obtain⟨x,rfl,rfl,hk⟩:=he
 have bel:Below W.heap.size W W':=hk.below (Nat.le_refl _) (by simp)
 exact⟨_,rfl,_,_,_,[],_,[],hW',trodAll_mk1 (shut_bool Tryz.underlying4 _),(trodAll_cons_mk (Below.trod laidOut (by kernel_rfl) (of_decide_eq_true (by kernel_rfl)) k0 bel lt0) (trodAll_cons_mk (Below.trod laidOut (by kernel_rfl) (of_decide_eq_true (by kernel_rfl)) k1 bel lt1) (trodAll_cons_mk (Below.trod laidOut (by kernel_rfl) (of_decide_eq_true (by kernel_rfl)) k2 bel lt2) trodAll_mk0))),rfl,bel.frame _,fun h=>by cases h⟩
theorem aus:Rows.partOnceRow.holds Tryz.pinned (OpenSpec.ofChange Rows.partOnceSpec):=
 OpenClaim.holds_of_wide 3 Tryz.f3 rfl rfl rfl rfl rfl rfl rfl ⟨rfl,rfl,rfl,rfl,rfl⟩ rfl rfl rfl rfl rfl (by kernel_rfl) Tryz.func3 (by kernel_rfl)
  (of_decide_eq_true (by kernel_rfl)) (by unfold Func.isWrapper;first|(rw[if_pos (by decide+kernel)];kernel_rfl)|(rw[if_neg (by decide+kernel)];exact⟨rfl,rfl⟩))
  (fun os started H enc _=>lifted os started H enc)
end Go.Proofs.YtmoebnnbjppjbaaGreat.PartOnceRow
namespace Go.Proofs.YtmoebnnbjppjbaaGreat
theorem partOnce_holds:Rows.PartOnceSaid:=PartOnceRow.aus
#print axioms partOnce_holds
end Go.Proofs.YtmoebnnbjppjbaaGreat
