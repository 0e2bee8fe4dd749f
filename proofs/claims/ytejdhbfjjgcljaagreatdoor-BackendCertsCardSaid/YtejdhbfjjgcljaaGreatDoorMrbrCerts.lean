/- Texts of mine, joined and packed by pack.py. -/
import Derived.Test.YtejdhbfjjgcljaaGreatDoorMrb15
import Derived.Test.YtejdhbfjjgcljaaGreatDoorCards
import Derived.Test.YtejdhbfjjgcljaaGreatDoorTie
import Derived.ShutString
import Derived.Below
import Derived.OpenShut
import Derived.Handed
import Derived.ProofKit
set_option linter.all false
set_option maxRecDepth 100000
noncomputable section
namespace Go.Proofs.YtejdhbfjjgcljaaGreatDoor
namespace afi
section
open Go.ChangeShapes Go.WideShapes Go.ChangeAt Go.RowKit
theorem own:ownKnob Tryz.prog.godebug=none:=by kernel_rfl
theorem laidOut:laidOutB Tryz.prog=true:=by kernel_rfl
set_option maxHeartbeats 1000000 in
theorem lifted(os:Os)(started:os.Started)(mF:Type)(enc:TypeId×Value->mF):
  ReturnsInHanded {} Tryz.checked os 10 .any (λw args=>(Rows.backendCertsSpec.pre enc Tryz.prog Tryz.f10 Rows.backendCertsRow.domain false w args/\laidMetH Tryz.prog Rows.backendCertsRow.laid w)/\sizedMet enc Tryz.prog Tryz.f10 (OpenSpec.ofChange Rows.backendCertsSpec) false w args) (Rows.backendCertsSpec.post enc Tryz.prog Tryz.f10 false true false false):=by
 refine returnsInHanded_of_change_and (C:=Tryz.checked) (X:=λw _=>laidMetH Tryz.prog Rows.backendCertsRow.laid w) (λ_ _ _ b5 h=>h.of_heap b5) own started (by kernel_rfl) Tryz.func10
  (ChangeSpec.witness_shaped (enc:=enc) (C:=Tryz.checked) (os:=os) (X:=λw _=>laidMetH Tryz.prog Rows.backendCertsRow.laid w) false (World.laidAll Tryz.prog os Rows.backendCertsRow.laid) #[.slice none 0 0,.agg #[.int .i64 0,.int .i64 0,.int .i64 0,.int .i64 0,.int .u64 0],.slice none 0 0,.slice none 0 0,.int .i64 0,.int .i64 0] 8 (World.laidAll_os _ _ _)
   (World.shaped_of_ZipB (by kernel_rfl) (by kernel_rfl)) (by kernel_rfl) (by kernel_rfl) (by kernel_rfl)
   (by rw[MakeChecks.laidMetH_plain _ _ _ (by kernel_rfl)];exact laidMet_laidAll _ (by kernel_rfl) (by kernel_rfl))) ?_
 intro bD base args ds gs before N4 hq at0 NU c6 _
 have c0:(DataW.weightsEach Tryz.prog (Tryz.f10.params.toList++Rows.backendCertsSpec.plain.varTypes Tryz.prog) (ds++gs)).all (· <=reachBytes)=true:=NU
 have nL:∀(j:Nat) t v,Tryz.f10.params[j]?=some t->args[j]?=some v->Value.okWide Tryz.prog bD .any base t v:=N4
 have yZ:=hq
 obtain⟨p,q,Mb,yY,rfl,IB,b3⟩:=hq
 have lk:DataW.TrodAll enc Tryz.prog bD 0 (λ_=>true) true Tryz.f10.params.toList args.toList ds p:=Mb
 rw[Tryz.params10] at lk nL c0
 obtain⟨v0,KJ,d0,aqZ,abO,zJ,E8,rfl,rfl,h0,pG⟩:=trodAll_cons lk
 obtain⟨v1,aF0,d1,aq0,gX,cV,rfl,rfl,rfl,h1,kj⟩:=trodAll_cons pG
 obtain⟨v2,aF1,d2,aq1,dv,dc,rfl,rfl,rfl,h2,my⟩:=trodAll_cons kj
 obtain⟨v3,aF2,d3,aq2,mo,dh,rfl,rfl,rfl,h3,pH⟩:=trodAll_cons my
 obtain⟨v4,aF3,d4,aq3,rV,fL,rfl,rfl,rfl,a7,Kj⟩:=trodAll_cons pH
 obtain⟨v5,aF4,d5,aq4,sA,qb,rfl,rfl,rfl,bO,acE⟩:=trodAll_cons Kj
 obtain⟨rfl,rfl,rfl⟩:=trodAll_nil acE
 obtain rfl:args=#[v0,v1,v2,v3,v4,v5]:=by cases args;simp_all
 obtain⟨rfl,rfl⟩:=trodVars_none yY
 have wt:∀{j:Nat} {t:TypeId} {d:DataW mF},([22,28,29,30,3,3]++Rows.backendCertsSpec.plain.varTypes Tryz.prog)[j]?=some t->([d0,d1,d2,d3,d4,d5]++ [])[j]?=some d->∀n∈d.weights Tryz.prog t,n<=reachBytes:=λht ar n ae=>by have:=List.all_eq_true.1 c0 n (DataW.weights_mem_each ht ar n ae);simpa using this
 obtain⟨a0,n0,bM,rfl⟩:=okWide_slice Tryz.underlying22 (nL 0 22 v0 rfl rfl)
 obtain⟨W6,rfl,at2⟩:=okWide_struct Tryz.underlying28 (nL 1 28 v1 rfl rfl)
 obtain⟨a2,ek,c2,rfl⟩:=okWide_slice Tryz.underlying29 (nL 2 29 v2 rfl rfl)
 obtain⟨a3,lu,fc,rfl⟩:=okWide_slice Tryz.underlying30 (nL 3 30 v3 rfl rfl)
 have jz:=h0
 have abl:∀x∈abO,x.block<bD.heap.size:=by obtain⟨m,hm⟩:=jz;exact DataW.trod_lt m _ _ _ hm
 obtain⟨ar8,MH⟩:=h0
 have cq:=h1
 have abm:∀x∈gX,x.block<bD.heap.size:=by obtain⟨m,hm⟩:=cq;exact DataW.trod_lt m _ _ _ hm
 obtain⟨ar9,sj⟩:=h1
 have cH:=h2
 have abn:∀x∈dv,x.block<bD.heap.size:=by obtain⟨m,hm⟩:=cH;exact DataW.trod_lt m _ _ _ hm
 obtain⟨asa,jb⟩:=h2
 have kP:=h3
 have abo:∀x∈mo,x.block<bD.heap.size:=by obtain⟨m,hm⟩:=kP;exact DataW.trod_lt m _ _ _ hm
 obtain⟨asb,MI⟩:=h3
 obtain⟨iy,mS,Z3,Za⟩:=akU (by simpa[Value.cells] using MH) (wt (j:=0) rfl rfl)
 obtain⟨um,io,h9,pY,dZ,Yh,rfl⟩:=akS (cs:=W6) (by simpa[Value.cells] using sj)
 obtain⟨ayN,Zw,Zy,Zx⟩:=akT (by simpa[Value.cells] using jb) (wt (j:=2) rfl rfl)
 obtain⟨z3,ZN,av0⟩:=OH (by simpa[Value.cells] using MI) (wt (j:=3) rfl rfl)
 obtain⟨nm,rfl,rfl,rfl,nk⟩:=open_int Tryz.underlying3 (nL 4 3 v4 rfl rfl) a7
 obtain⟨n1,rfl,rfl,rfl,yq⟩:=open_int Tryz.underlying3 (nL 5 3 v5 rfl rfl) bO
 clear Mb N4 NU c0
 have Y6:=axA (s:=⟨a0,n0,bM⟩) (t:=⟨a2,ek,c2⟩) (qs:=⟨a3,lu,fc⟩) (A:=um) (B:=io) (E:=h9) (F:=pY) (k:=nm) (bud:=n1) (anw c6) ⟨mS,Zw,Z3,Za,Zy,Zx⟩ Yh ZN (u:=whole bD) (K:=λb u'=>b=true/\(whole bD).le u') λu' k4=>⟨rfl,k4⟩
 refine(Y6 bD (aoj bD)).mono ?_
 rintro e yC ⟨v,u',rfl,⟨vs,hk,rfl,I⟩,ag⟩
 cases hk with
 |cons x O=>
  cases O;obtain⟨J,hle⟩:x=true/\(whole bD).le u':=(aE.ra .bool x _).1 I;subst J;have w8:Below bD.heap.size bD yC:=ag.below hle;exact⟨_,rfl,_,_,_,[],_,[],yZ,trodAll_mk1 (shut_bool Tryz.underlying4 _),
   (trodAll_cons_mk (Below.trod laidOut (by kernel_rfl) (of_decide_eq_true (by kernel_rfl)) jz w8 abl) (trodAll_cons_mk (Below.trod laidOut (by kernel_rfl) (of_decide_eq_true (by kernel_rfl)) cq w8 abm) (trodAll_cons_mk (Below.trod laidOut (by kernel_rfl) (of_decide_eq_true (by kernel_rfl)) cH w8 abn) (trodAll_cons_mk (Below.trod laidOut (by kernel_rfl) (of_decide_eq_true (by kernel_rfl)) kP w8 abo) (trodAll_cons_mk (shut_int Tryz.underlying3 nk) (trodAll_cons_mk (shut_int Tryz.underlying3 yq) trodAll_mk0)))))),rfl,w8.frame _,λh=>by cases h⟩
theorem fl{a b:Bool}(ay:a=true)(aa:b=true):(a && b)=true:=by rw[ay,aa];rfl
set_option maxHeartbeats 4000000 in
theorem closed:joinedFacts Tryz.pinned.checked.prog 10 Tryz.f10 Rows.backendCertsSpec Rows.backendCertsRow=true:=by
 unfold joinedFacts;refine fl (fl (fl (fl (fl (fl (fl (fl (fl (fl (fl (fl (fl (fl (fl (fl (fl (fl (fl (fl (fl (fl (fl (fl (fl (fl (fl (fl (fl (fl (fl ?_ ?_) ?_) ?_) ?_) ?_) ?_) ?_) ?_) ?_) ?_) ?_) ?_) ?_) ?_) ?_) ?_) ?_) ?_) ?_) ?_) ?_) ?_) ?_) ?_) ?_) ?_) ?_) ?_) ?_) ?_) ?_
 all_goals (as_aux_lemma=>kernel_rfl)
theorem over:Rows.backendCertsRow.holds Tryz.pinned (OpenSpec.ofChange Rows.backendCertsSpec):=
 OpenClaim.holds_of_wide 10 Tryz.f10 rfl rfl rfl rfl rfl rfl rfl ⟨rfl,rfl,rfl,rfl,rfl⟩ rfl rfl rfl rfl rfl (by as_aux_lemma=>kernel_rfl) Tryz.func10 closed
  (of_decide_eq_true (by as_aux_lemma=>kernel_rfl)) (by unfold Func.isWrapper;first|(rw[if_pos (by decide+kernel)];kernel_rfl)|(rw[if_neg (by decide+kernel)];exact⟨rfl,rfl⟩))
  (λos started mF enc _=>lifted os started mF enc)
theorem WY:Rows.BackendCertsCardSaid:=
 Claim7.holds_tied_plain_at .later [] [.data] true _ true over (λ_ h=>by cases h) (by as_aux_lemma=>kernel_rfl) (λ_ h=>by cases h) backendCerts_row_tie rfl ⟨rfl,rfl⟩ (by as_aux_lemma=>kernel_rfl) rfl
  (λf fn ac sk=>by
   obtain rfl:f=10:=Option.some.inj ((show Tryz.prog.funcNamed "theodolite/theodolitelaw14.BackendCerts" =some 10 by kernel_rfl).symm.trans ac)|>.symm;obtain rfl:fn=Tryz.f10:=(Option.some.inj (Tryz.func10.symm.trans sk)).symm;exact⟨by kernel_rfl,λj t ht=>by
    rw[Tryz.params10] at ht;have hm:t∈[22,28,29,30,3,3]:=by simpa using Array.mem_of_getElem? ht
    have ef:([22,28,29,30,3,3].all λu=>!Tryz.prog.wantsStandIn u)=true:=by kernel_rfl
    exact(show Tryz.prog.wantsStandIn t=false by simpa using List.all_eq_true.1 ef t hm)⟩)
  (by as_aux_lemma=>kernel_rfl)
end
end afi
theorem backendCerts_card:Rows.BackendCertsCardSaid:=afi.WY
