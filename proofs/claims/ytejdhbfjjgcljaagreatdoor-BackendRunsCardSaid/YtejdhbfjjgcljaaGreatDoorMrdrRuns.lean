/- Texts of mine, joined and packed by pack.py. -/
import Derived.Test.YtejdhbfjjgcljaaGreatDoorMrd14
import Derived.Test.YtejdhbfjjgcljaaGreatDoorCards
import Derived.Test.YtejdhbfjjgcljaaGreatDoorTie
import Derived.ShutString
import Derived.Below
import Derived.OpenShut
import Derived.Handed
import Derived.ProofKit
set_option linter.all false
set_option maxRecDepth 100000
noncomputable section
namespace Go.Proofs.YtejdhbfjjgcljaaGreatDoor
namespace afn
section
open Go.ChangeShapes Go.WideShapes Go.ChangeAt Go.RowKit
theorem own:ownKnob Tryz.prog.godebug=none:=by kernel_rfl
theorem laidOut:laidOutB Tryz.prog=true:=by kernel_rfl
set_option maxHeartbeats 1000000 in
theorem lifted(os:Os)(started:os.Started)(pF:Type)(enc:TypeId×Value->pF):
  ReturnsInHanded {} Tryz.checked os 4 .any (λw args=>(Rows.backendRunsSpec.pre enc Tryz.prog Tryz.f4 Rows.backendRunsRow.domain false w args/\laidMetH Tryz.prog Rows.backendRunsRow.laid w)/\sizedMet enc Tryz.prog Tryz.f4 (OpenSpec.ofChange Rows.backendRunsSpec) false w args) (Rows.backendRunsSpec.post enc Tryz.prog Tryz.f4 false true false false):=by
 refine returnsInHanded_of_change_and (C:=Tryz.checked) (X:=λw _=>laidMetH Tryz.prog Rows.backendRunsRow.laid w) (λ_ _ _ cb h=>h.of_heap cb) own started (by kernel_rfl) Tryz.func4
  (ChangeSpec.witness_shaped (enc:=enc) (C:=Tryz.checked) (os:=os) (X:=λw _=>laidMetH Tryz.prog Rows.backendRunsRow.laid w) false (World.laidAll Tryz.prog os Rows.backendRunsRow.laid) #[.slice none 0 0,.int .i64 0,.agg #[.int .i64 0,.int .i64 0,.int .i64 0,.int .i64 0,.int .u64 0],.slice none 0 0] 8 (World.laidAll_os _ _ _)
   (World.shaped_of_ZipB (by kernel_rfl) (by kernel_rfl)) (by kernel_rfl) (by kernel_rfl) (by kernel_rfl)
   (by rw[MakeChecks.laidMetH_plain _ _ _ (by kernel_rfl)];exact laidMet_laidAll _ (by kernel_rfl) (by kernel_rfl))) ?_
 intro bJ base args ds gs before ajL hQ aIY ajy cX _
 have dm:(DataW.weightsEach Tryz.prog (Tryz.f4.params.toList++Rows.backendRunsSpec.plain.varTypes Tryz.prog) (ds++gs)).all (· <=reachBytes)=true:=ajy
 have zf:∀(j:Nat) t v,Tryz.f4.params[j]?=some t->args[j]?=some v->Value.okWide Tryz.prog bJ .any base t v:=ajL
 have CQ:=hQ
 obtain⟨p,q,Ri,CP,rfl,RQ,b8⟩:=hQ
 have hx:DataW.TrodAll enc Tryz.prog bJ 0 (λ_=>true) true Tryz.f4.params.toList args.toList ds p:=Ri
 rw[Tryz.params4] at hx zf dm
 obtain⟨v0,Py,d0,aIv,azC,Bs,Ik,rfl,rfl,h0,q2⟩:=trodAll_cons hx
 obtain⟨v1,aK6,d1,aIw,gU,di,rfl,rfl,rfl,h1,nq⟩:=trodAll_cons q2
 obtain⟨v2,aK7,d2,aIx,du,dv,rfl,rfl,rfl,h2,qf⟩:=trodAll_cons nq
 obtain⟨v3,aK8,d3,aIy,nU,ef,rfl,rfl,rfl,h3,BE⟩:=trodAll_cons qf
 obtain⟨rfl,rfl,rfl⟩:=trodAll_nil BE
 obtain rfl:args=#[v0,v1,v2,v3]:=by cases args;simp_all
 obtain⟨rfl,rfl⟩:=trodVars_none CP
 have wt:∀{j:Nat} {t:TypeId} {d:DataW pF},([22,3,28,29]++Rows.backendRunsSpec.plain.varTypes Tryz.prog)[j]?=some t->([d0,d1,d2,d3]++ [])[j]?=some d->∀n∈d.weights Tryz.prog t,n<=reachBytes:=λht av n ag=>by have:=List.all_eq_true.1 dm n (DataW.weights_mem_each ht av n ag);simpa using this
 obtain⟨a0,n0,bA,rfl⟩:=okWide_slice Tryz.underlying22 (zf 0 22 v0 rfl rfl)
 obtain⟨Eu,rfl,aI0⟩:=okWide_struct Tryz.underlying28 (zf 2 28 v2 rfl rfl)
 obtain⟨a3,lV,fc,rfl⟩:=okWide_slice Tryz.underlying29 (zf 3 29 v3 rfl rfl)
 have iu:=h0
 have ayt:∀x∈azC,x.block<bJ.heap.size:=by obtain⟨m,hm⟩:=iu;exact DataW.trod_lt m _ _ _ hm
 obtain⟨aID,YR⟩:=h0
 have cW:=h2
 have ayu:∀x∈du,x.block<bJ.heap.size:=by obtain⟨m,hm⟩:=cW;exact DataW.trod_lt m _ _ _ hm
 obtain⟨aIE,jz⟩:=h2
 have nP:=h3
 have ayv:∀x∈nU,x.block<bJ.heap.size:=by obtain⟨m,hm⟩:=nP;exact DataW.trod_lt m _ _ _ hm
 obtain⟨aIF,YS⟩:=h3
 obtain⟨iG,pW,awQ,avs⟩:=azA (by simpa[Value.cells] using YR) (wt (j:=0) rfl rfl)
 obtain⟨dr,rfl,rfl,rfl,e5⟩:=open_int Tryz.underlying3 (zf 1 3 v1 rfl rfl) h1
 obtain⟨LU,iN,qG,CS,dJ,atC,rfl⟩:=azw (cs:=Eu) (by simpa[Value.cells] using jz)
 obtain⟨aKA,awc,awg,awd⟩:=azy (by simpa[Value.cells] using YS) (wt (j:=3) rfl rfl)
 clear Ri ajL ajy dm
 have avj:=aye (s:=⟨a0,n0,bA⟩) (t:=⟨a3,lV,fc⟩) (dim:=dr) (A:=LU) (B:=iN) (E:=qG) (F:=CS) (seed:=dJ) (aDG cX) ⟨pW,awc,awQ,avs,awg,awd⟩ atC (u:=whole bJ) (K:=λb u'=>b=true/\(whole bJ).le u') λu' kE=>⟨rfl,kE⟩
 refine(avj bJ (aHU bJ)).mono ?_
 rintro e Cn ⟨v,u',rfl,⟨vs,hk,rfl,I⟩,ae⟩
 cases hk with
 |cons x U=>
  cases U;obtain⟨M,hle⟩:x=true/\(whole bJ).le u':=(aI.vx .bool x _).1 I;subst M;have QA:Below bJ.heap.size bJ Cn:=ae.below hle;exact⟨_,rfl,_,_,_,[],_,[],CQ,trodAll_mk1 (shut_bool Tryz.underlying4 _),
   (trodAll_cons_mk (Below.trod laidOut (by kernel_rfl) (of_decide_eq_true (by kernel_rfl)) iu QA ayt) (trodAll_cons_mk (shut_int Tryz.underlying3 e5) (trodAll_cons_mk (Below.trod laidOut (by kernel_rfl) (of_decide_eq_true (by kernel_rfl)) cW QA ayu) (trodAll_cons_mk (Below.trod laidOut (by kernel_rfl) (of_decide_eq_true (by kernel_rfl)) nP QA ayv) trodAll_mk0)))),rfl,QA.frame _,λh=>by cases h⟩
theorem kg{a b:Bool}(az:a=true)(aa:b=true):(a && b)=true:=by rw[az,aa];rfl
set_option maxHeartbeats 4000000 in
theorem closed:joinedFacts Tryz.pinned.checked.prog 4 Tryz.f4 Rows.backendRunsSpec Rows.backendRunsRow=true:=by
 unfold joinedFacts;refine kg (kg (kg (kg (kg (kg (kg (kg (kg (kg (kg (kg (kg (kg (kg (kg (kg (kg (kg (kg (kg (kg (kg (kg (kg (kg (kg (kg (kg (kg (kg ?_ ?_) ?_) ?_) ?_) ?_) ?_) ?_) ?_) ?_) ?_) ?_) ?_) ?_) ?_) ?_) ?_) ?_) ?_) ?_) ?_) ?_) ?_) ?_) ?_) ?_) ?_) ?_) ?_) ?_) ?_) ?_
 all_goals (as_aux_lemma=>kernel_rfl)
theorem over:Rows.backendRunsRow.holds Tryz.pinned (OpenSpec.ofChange Rows.backendRunsSpec):=
 OpenClaim.holds_of_wide 4 Tryz.f4 rfl rfl rfl rfl rfl rfl rfl ⟨rfl,rfl,rfl,rfl,rfl⟩ rfl rfl rfl rfl rfl (by as_aux_lemma=>kernel_rfl) Tryz.func4 closed
  (of_decide_eq_true (by as_aux_lemma=>kernel_rfl)) (by unfold Func.isWrapper;first|(rw[if_pos (by decide+kernel)];kernel_rfl)|(rw[if_neg (by decide+kernel)];exact⟨rfl,rfl⟩))
  (λos started pF enc _=>lifted os started pF enc)
theorem aqB:Rows.BackendRunsCardSaid:=
 Claim7.holds_tied_plain_at .later [] [.data] true _ true over (λ_ h=>by cases h) (by as_aux_lemma=>kernel_rfl) (λ_ h=>by cases h) backendRuns_row_tie rfl ⟨rfl,rfl⟩ (by as_aux_lemma=>kernel_rfl) rfl
  (λf fn ab uF=>by
   obtain rfl:f=4:=Option.some.inj ((show Tryz.prog.funcNamed "theodolite/theodolitelaw14.BackendRuns" =some 4 by kernel_rfl).symm.trans ab)|>.symm;obtain rfl:fn=Tryz.f4:=(Option.some.inj (Tryz.func4.symm.trans uF)).symm;exact⟨by kernel_rfl,λj t ht=>by
    rw[Tryz.params4] at ht;have hm:t∈[22,3,28,29]:=by simpa using Array.mem_of_getElem? ht
    have eL:([22,3,28,29].all λu=>!Tryz.prog.wantsStandIn u)=true:=by kernel_rfl
    exact(show Tryz.prog.wantsStandIn t=false by simpa using List.all_eq_true.1 eL t hm)⟩)
  (by as_aux_lemma=>kernel_rfl)
end
end afn
theorem backendRuns_card:Rows.BackendRunsCardSaid:=afn.aqB
