/- Texts of mine, joined and packed by pack.py. -/
import Derived.Test.YtejdhbfjjgcljaaGreatDoorMrc15
import Derived.Test.YtejdhbfjjgcljaaGreatDoorCards
import Derived.Test.YtejdhbfjjgcljaaGreatDoorTie
import Derived.ShutString
import Derived.Below
import Derived.OpenShut
import Derived.Handed
import Derived.ProofKit
set_option linter.all false
set_option maxRecDepth 100000
noncomputable section
namespace Go.Proofs.YtejdhbfjjgcljaaGreatDoor
namespace ad1
section
open Go.ChangeShapes Go.WideShapes Go.ChangeAt Go.RowKit
theorem own:ownKnob Tryz.prog.godebug=none:=by kernel_rfl
theorem laidOut:laidOutB Tryz.prog=true:=by kernel_rfl
set_option maxHeartbeats 1000000 in
theorem lifted(os:Os)(started:os.Started)(sj:Type)(enc:TypeId×Value->sj):
  ReturnsInHanded {} Tryz.checked os 9 .any (λw args=>(Rows.backendBuildSpec.pre enc Tryz.prog Tryz.f9 Rows.backendBuildRow.domain false w args/\laidMetH Tryz.prog Rows.backendBuildRow.laid w)/\sizedMet enc Tryz.prog Tryz.f9 (OpenSpec.ofChange Rows.backendBuildSpec) false w args) (Rows.backendBuildSpec.post enc Tryz.prog Tryz.f9 false true false false):=by
 refine returnsInHanded_of_change_and (C:=Tryz.checked) (X:=λw _=>laidMetH Tryz.prog Rows.backendBuildRow.laid w) (λ_ _ _ bV h=>h.of_heap bV) own started (by kernel_rfl) Tryz.func9
  (ChangeSpec.witness_shaped (enc:=enc) (C:=Tryz.checked) (os:=os) (X:=λw _=>laidMetH Tryz.prog Rows.backendBuildRow.laid w) false (World.laidAll Tryz.prog os Rows.backendBuildRow.laid) #[.slice none 0 0,.int .i64 0,.agg #[.int .i64 0,.int .i64 0,.int .i64 0,.int .i64 0,.int .u64 0]] 8 (World.laidAll_os _ _ _)
   (World.shaped_of_ZipB (by kernel_rfl) (by kernel_rfl)) (by kernel_rfl) (by kernel_rfl) (by kernel_rfl)
   (by rw[MakeChecks.laidMetH_plain _ _ _ (by kernel_rfl)];exact laidMet_laidAll _ (by kernel_rfl) (by kernel_rfl))) ?_
 intro bN base args ds gs before aic hB aFl ahZ cL _
 have cY:(DataW.weightsEach Tryz.prog (Tryz.f9.params.toList++Rows.backendBuildSpec.plain.varTypes Tryz.prog) (ds++gs)).all (· <=reachBytes)=true:=ahZ
 have Ft:∀(j:Nat) t v,Tryz.f9.params[j]?=some t->args[j]?=some v->Value.okWide Tryz.prog bN .any base t v:=aic
 have Cm:=hB
 obtain⟨p,q,afz,Cl,rfl,LW,bY⟩:=hB
 have iG:DataW.TrodAll enc Tryz.prog bN 0 (λ_=>true) true Tryz.f9.params.toList args.toList ds p:=afz
 rw[Tryz.params9] at iG Ft cY
 obtain⟨v0,Ph,d0,aE4,aw7,F1,HO,rfl,rfl,h0,qC⟩:=trodAll_cons iG
 obtain⟨v1,aGU,d1,aE5,hF,cT,rfl,rfl,rfl,h1,pf⟩:=trodAll_cons qC
 obtain⟨v2,aGV,d2,aE6,dO,da,rfl,rfl,rfl,h2,tc⟩:=trodAll_cons pf
 obtain⟨rfl,rfl,rfl⟩:=trodAll_nil tc
 obtain rfl:args=#[v0,v1,v2]:=by cases args;simp_all
 obtain⟨rfl,rfl⟩:=trodVars_none Cl
 have wt:∀{j:Nat} {t:TypeId} {d:DataW sj},([22,3,28]++Rows.backendBuildSpec.plain.varTypes Tryz.prog)[j]?=some t->([d0,d1,d2]++ [])[j]?=some d->∀n∈d.weights Tryz.prog t,n<=reachBytes:=λht aw n ae=>by have:=List.all_eq_true.1 cY n (DataW.weights_mem_each ht aw n ae);simpa using this
 obtain⟨a0,n0,bK,rfl⟩:=okWide_slice Tryz.underlying22 (Ft 0 22 v0 rfl rfl)
 obtain⟨D9,rfl,aFn⟩:=okWide_struct Tryz.underlying28 (Ft 2 28 v2 rfl rfl)
 have jZ:=h0
 have awb:∀x∈aw7,x.block<bN.heap.size:=by obtain⟨m,hm⟩:=jZ;exact DataW.trod_lt m _ _ _ hm
 obtain⟨aE9,XH⟩:=h0
 have cS:=h2
 have awc:∀x∈dO,x.block<bN.heap.size:=by obtain⟨m,hm⟩:=cS;exact DataW.trod_lt m _ _ _ hm
 obtain⟨aFa,je⟩:=h2
 obtain⟨jH,nG,auE,atn⟩:=aw4 (by simpa[Value.cells] using XH) (wt (j:=0) rfl rfl)
 obtain⟨dy,rfl,rfl,rfl,fu⟩:=open_int Tryz.underlying3 (Ft 1 3 v1 rfl rfl) h1
 obtain⟨Ly,jS,mv,yt,dE,arJ,rfl⟩:=aw2 (cs:=D9) (by simpa[Value.cells] using je)
 clear afz aic ahZ cY
 have ate:=avW (s:=⟨a0,n0,bK⟩) (dim:=dy) (A:=Ly) (B:=jS) (E:=mv) (F:=yt) (seed:=dE) (aAS cL) nG auE atn arJ (u:=whole bN) (K:=λb u'=>b=true/\(whole bN).le u') λu' nL=>⟨rfl,nL⟩
 refine(ate bN (aEt bN)).mono ?_
 rintro e BV ⟨v,u',rfl,⟨vs,hk,rfl,I⟩,ag⟩
 cases hk with
 |cons x O=>
  cases O;obtain⟨M,hle⟩:x=true/\(whole bN).le u':=(aK.uT .bool x _).1 I;subst M;have VL:Below bN.heap.size bN BV:=ag.below hle;exact⟨_,rfl,_,_,_,[],_,[],Cm,trodAll_mk1 (shut_bool Tryz.underlying4 _),
   (trodAll_cons_mk (Below.trod laidOut (by kernel_rfl) (of_decide_eq_true (by kernel_rfl)) jZ VL awb) (trodAll_cons_mk (shut_int Tryz.underlying3 fu) (trodAll_cons_mk (Below.trod laidOut (by kernel_rfl) (of_decide_eq_true (by kernel_rfl)) cS VL awc) trodAll_mk0))),rfl,VL.frame _,λh=>by cases h⟩
theorem jO{a b:Bool}(aE:a=true)(Z:b=true):(a && b)=true:=by rw[aE,Z];rfl
set_option maxHeartbeats 4000000 in
theorem closed:joinedFacts Tryz.pinned.checked.prog 9 Tryz.f9 Rows.backendBuildSpec Rows.backendBuildRow=true:=by
 unfold joinedFacts;refine jO (jO (jO (jO (jO (jO (jO (jO (jO (jO (jO (jO (jO (jO (jO (jO (jO (jO (jO (jO (jO (jO (jO (jO (jO (jO (jO (jO (jO (jO (jO ?_ ?_) ?_) ?_) ?_) ?_) ?_) ?_) ?_) ?_) ?_) ?_) ?_) ?_) ?_) ?_) ?_) ?_) ?_) ?_) ?_) ?_) ?_) ?_) ?_) ?_) ?_) ?_) ?_) ?_) ?_) ?_
 all_goals (as_aux_lemma=>kernel_rfl)
theorem over:Rows.backendBuildRow.holds Tryz.pinned (OpenSpec.ofChange Rows.backendBuildSpec):=
 OpenClaim.holds_of_wide 9 Tryz.f9 rfl rfl rfl rfl rfl rfl rfl ⟨rfl,rfl,rfl,rfl,rfl⟩ rfl rfl rfl rfl rfl (by as_aux_lemma=>kernel_rfl) Tryz.func9 closed
  (of_decide_eq_true (by as_aux_lemma=>kernel_rfl)) (by unfold Func.isWrapper;first|(rw[if_pos (by decide+kernel)];kernel_rfl)|(rw[if_neg (by decide+kernel)];exact⟨rfl,rfl⟩))
  (λos started sj enc _=>lifted os started sj enc)
theorem aoY:Rows.BackendBuildCardSaid:=
 Claim7.holds_tied_plain_at .later [] [.data] true _ true over (λ_ h=>by cases h) (by as_aux_lemma=>kernel_rfl) (λ_ h=>by cases h) backendBuild_row_tie rfl ⟨rfl,rfl⟩ (by as_aux_lemma=>kernel_rfl) rfl
  (λf fn ac tM=>by
   obtain rfl:f=9:=Option.some.inj ((show Tryz.prog.funcNamed "theodolite/theodolitelaw14.BackendBuild" =some 9 by kernel_rfl).symm.trans ac)|>.symm;obtain rfl:fn=Tryz.f9:=(Option.some.inj (Tryz.func9.symm.trans tM)).symm;exact⟨by kernel_rfl,λj t ht=>by
    rw[Tryz.params9] at ht;have hm:t∈[22,3,28]:=by simpa using Array.mem_of_getElem? ht
    have eh:([22,3,28].all λu=>!Tryz.prog.wantsStandIn u)=true:=by kernel_rfl
    exact(show Tryz.prog.wantsStandIn t=false by simpa using List.all_eq_true.1 eh t hm)⟩)
  (by as_aux_lemma=>kernel_rfl)
end
end ad1
theorem backendBuild_card:Rows.BackendBuildCardSaid:=ad1.aoY
