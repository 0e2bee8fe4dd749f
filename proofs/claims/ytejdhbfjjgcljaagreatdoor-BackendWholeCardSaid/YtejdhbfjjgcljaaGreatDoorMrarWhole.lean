/- Texts of mine, joined and packed by pack.py. -/
import Derived.Test.YtejdhbfjjgcljaaGreatDoorMra9
import Derived.Test.YtejdhbfjjgcljaaGreatDoorCards
import Derived.Test.YtejdhbfjjgcljaaGreatDoorTie
import Derived.ShutString
import Derived.Below
import Derived.OpenShut
import Derived.Handed
import Derived.ProofKit
set_option linter.all false
set_option maxRecDepth 100000
noncomputable section
namespace Go.Proofs.YtejdhbfjjgcljaaGreatDoor
namespace ae1
section
open Go.ChangeShapes Go.WideShapes Go.ChangeAt Go.RowKit
theorem own:ownKnob Tryz.prog.godebug=none:=by kernel_rfl
theorem laidOut:laidOutB Tryz.prog=true:=by kernel_rfl
set_option maxHeartbeats 1000000 in
theorem lifted(os:Os)(started:os.Started)(jz:Type)(enc:TypeId×Value->jz):
  ReturnsInHanded {} Tryz.checked os 5 .any (λw args=>(Rows.backendWholeSpec.pre enc Tryz.prog Tryz.f5 Rows.backendWholeRow.domain false w args/\laidMetH Tryz.prog Rows.backendWholeRow.laid w)/\sizedMet enc Tryz.prog Tryz.f5 (OpenSpec.ofChange Rows.backendWholeSpec) false w args) (Rows.backendWholeSpec.post enc Tryz.prog Tryz.f5 false true false false):=by
 refine returnsInHanded_of_change_and (C:=Tryz.checked) (X:=λw _=>laidMetH Tryz.prog Rows.backendWholeRow.laid w) (λ_ _ _ bU h=>h.of_heap bU) own started (by kernel_rfl) Tryz.func5
  (ChangeSpec.witness_shaped (enc:=enc) (C:=Tryz.checked) (os:=os) (X:=λw _=>laidMetH Tryz.prog Rows.backendWholeRow.laid w) false (World.laidAll Tryz.prog os Rows.backendWholeRow.laid) #[.slice none 0 0,.agg #[.int .i64 0,.int .i64 0,.int .i64 0,.int .i64 0,.int .u64 0],.slice none 0 0,.slice none 0 0,.int .i64 0] 8 (World.laidAll_os _ _ _)
   (World.shaped_of_ZipB (by kernel_rfl) (by kernel_rfl)) (by kernel_rfl) (by kernel_rfl) (by kernel_rfl)
   (by rw[MakeChecks.laidMetH_plain _ _ _ (by kernel_rfl)];exact laidMet_laidAll _ (by kernel_rfl) (by kernel_rfl))) ?_
 intro bd base args ds gs before xQ gl YV xM cX _
 have cI:(DataW.weightsEach Tryz.prog (Tryz.f5.params.toList++Rows.backendWholeSpec.plain.varTypes Tryz.prog) (ds++gs)).all (· <=reachBytes)=true:=xM
 have jV:∀(j:Nat) t v,Tryz.f5.params[j]?=some t->args[j]?=some v->Value.okWide Tryz.prog bd .any base t v:=xQ
 have sV:=gl
 obtain⟨p,q,xg,sU,rfl,Dn,bS⟩:=gl
 have iY:DataW.TrodAll enc Tryz.prog bd 0 (λ_=>true) true Tryz.f5.params.toList args.toList ds p:=xg
 rw[Tryz.params5] at iY jV cI
 obtain⟨v0,EG,d0,Xn,Ho,wl,AU,rfl,rfl,h0,mS⟩:=trodAll_cons iY
 obtain⟨v1,aeh,d1,Xo,gX,cM,rfl,rfl,rfl,h1,l2⟩:=trodAll_cons mS
 obtain⟨v2,aei,d2,Xp,dy,c6,rfl,rfl,rfl,h2,p8⟩:=trodAll_cons l2
 obtain⟨v3,aej,d3,Xq,lL,da,rfl,rfl,rfl,h3,yi⟩:=trodAll_cons p8
 obtain⟨v4,aek,d4,Xr,pY,fk,rfl,rfl,rfl,a7,zY⟩:=trodAll_cons yi
 obtain⟨rfl,rfl,rfl⟩:=trodAll_nil zY
 obtain rfl:args=#[v0,v1,v2,v3,v4]:=by cases args;simp_all
 obtain⟨rfl,rfl⟩:=trodVars_none sU
 have wt:∀{j:Nat} {t:TypeId} {d:DataW jz},([22,28,29,30,3]++Rows.backendWholeSpec.plain.varTypes Tryz.prog)[j]?=some t->([d0,d1,d2,d3,d4]++ [])[j]?=some d->∀n∈d.weights Tryz.prog t,n<=reachBytes:=λht aw n ae=>by have:=List.all_eq_true.1 cI n (DataW.weights_mem_each ht aw n ae);simpa using this
 obtain⟨a0,n0,bJ,rfl⟩:=okWide_slice Tryz.underlying22 (jV 0 22 v0 rfl rfl)
 obtain⟨Fa,rfl,YX⟩:=okWide_struct Tryz.underlying28 (jV 1 28 v1 rfl rfl)
 obtain⟨a2,eb,c2,rfl⟩:=okWide_slice Tryz.underlying29 (jV 2 29 v2 rfl rfl)
 obtain⟨a3,jI,fg,rfl⟩:=okWide_slice Tryz.underlying30 (jV 3 30 v3 rfl rfl)
 have jG:=h0
 have G9:∀x∈Ho,x.block<bd.heap.size:=by obtain⟨m,hm⟩:=jG;exact DataW.trod_lt m _ _ _ hm
 obtain⟨XS,AZ⟩:=h0
 have b3:=h1
 have Ha:∀x∈gX,x.block<bd.heap.size:=by obtain⟨m,hm⟩:=b3;exact DataW.trod_lt m _ _ _ hm
 obtain⟨XT,o4⟩:=h1
 have cu:=h2
 have Hb:∀x∈dy,x.block<bd.heap.size:=by obtain⟨m,hm⟩:=cu;exact DataW.trod_lt m _ _ _ hm
 obtain⟨XU,ie⟩:=h2
 have jW:=h3
 have Pp:∀x∈lL,x.block<bd.heap.size:=by obtain⟨m,hm⟩:=jW;exact DataW.trod_lt m _ _ _ hm
 obtain⟨agj,FT⟩:=h3
 obtain⟨jf,lh,GB,Gc⟩:=Uo (by simpa[Value.cells] using AZ) (wt (j:=0) rfl rfl)
 obtain⟨re,hU,ho,nm,dO,FG,rfl⟩:=PH (cs:=Fa) (by simpa[Value.cells] using o4)
 obtain⟨axc,Z2,Z4,Z3⟩:=acm (by simpa[Value.cells] using ie) (wt (j:=2) rfl rfl)
 obtain⟨z3,aah,auv⟩:=Hl (by simpa[Value.cells] using FT) (wt (j:=3) rfl rfl)
 obtain⟨oi,rfl,rfl,rfl,l6⟩:=open_int Tryz.underlying3 (jV 4 3 v4 rfl rfl) a7
 clear xg xQ xM cI
 have F9:=law.anl (s:=⟨a0,n0,bJ⟩) (t:=⟨a2,eb,c2⟩) (qs:=⟨a3,jI,fg⟩) (A:=re) (B:=hU) (E:=ho) (F:=nm) (k:=oi) (VR cX) ⟨lh,Z2,GB,Gc,Z4,Z3⟩ FG aah (u:=whole bd) (K:=λb u'=>b=true/\(whole bd).le u') λu' lm=>⟨rfl,lm⟩
 refine(F9 bd (Wp bd)).mono ?_
 rintro e sG ⟨v,u',rfl,⟨vs,hk,rfl,I⟩,ag⟩
 cases hk with
 |cons x O=>
  cases O;obtain⟨J,hle⟩:x=true/\(whole bd).le u':=(aL.rR .bool x _).1 I;subst J;have l8:Below bd.heap.size bd sG:=ag.below hle;exact⟨_,rfl,_,_,_,[],_,[],sV,trodAll_mk1 (shut_bool Tryz.underlying4 _),
   (trodAll_cons_mk (Below.trod laidOut (by kernel_rfl) (of_decide_eq_true (by kernel_rfl)) jG l8 G9) (trodAll_cons_mk (Below.trod laidOut (by kernel_rfl) (of_decide_eq_true (by kernel_rfl)) b3 l8 Ha) (trodAll_cons_mk (Below.trod laidOut (by kernel_rfl) (of_decide_eq_true (by kernel_rfl)) cu l8 Hb) (trodAll_cons_mk (Below.trod laidOut (by kernel_rfl) (of_decide_eq_true (by kernel_rfl)) jW l8 Pp) (trodAll_cons_mk (shut_int Tryz.underlying3 l6) trodAll_mk0))))),rfl,l8.frame _,λh=>by cases h⟩
theorem cx{a b:Bool}(aE:a=true)(ab:b=true):(a && b)=true:=by rw[aE,ab];rfl
set_option maxHeartbeats 4000000 in
theorem closed:joinedFacts Tryz.pinned.checked.prog 5 Tryz.f5 Rows.backendWholeSpec Rows.backendWholeRow=true:=by
 unfold joinedFacts;refine cx (cx (cx (cx (cx (cx (cx (cx (cx (cx (cx (cx (cx (cx (cx (cx (cx (cx (cx (cx (cx (cx (cx (cx (cx (cx (cx (cx (cx (cx (cx ?_ ?_) ?_) ?_) ?_) ?_) ?_) ?_) ?_) ?_) ?_) ?_) ?_) ?_) ?_) ?_) ?_) ?_) ?_) ?_) ?_) ?_) ?_) ?_) ?_) ?_) ?_) ?_) ?_) ?_) ?_) ?_
 all_goals (as_aux_lemma=>kernel_rfl)
theorem over:Rows.backendWholeRow.holds Tryz.pinned (OpenSpec.ofChange Rows.backendWholeSpec):=
 OpenClaim.holds_of_wide 5 Tryz.f5 rfl rfl rfl rfl rfl rfl rfl ⟨rfl,rfl,rfl,rfl,rfl⟩ rfl rfl rfl rfl rfl (by as_aux_lemma=>kernel_rfl) Tryz.func5 closed
  (of_decide_eq_true (by as_aux_lemma=>kernel_rfl)) (by unfold Func.isWrapper;first|(rw[if_pos (by decide+kernel)];kernel_rfl)|(rw[if_neg (by decide+kernel)];exact⟨rfl,rfl⟩))
  (λos started jz enc _=>lifted os started jz enc)
theorem E5:Rows.BackendWholeCardSaid:=
 Claim7.holds_tied_plain_at .later [] [.data] true _ true over (λ_ h=>by cases h) (by as_aux_lemma=>kernel_rfl) (λ_ h=>by cases h) backendWhole_row_tie rfl ⟨rfl,rfl⟩ (by as_aux_lemma=>kernel_rfl) rfl
  (λf fn Z o5=>by
   obtain rfl:f=5:=Option.some.inj ((show Tryz.prog.funcNamed "theodolite/theodolitelaw14.BackendWhole" =some 5 by kernel_rfl).symm.trans Z)|>.symm;obtain rfl:fn=Tryz.f5:=(Option.some.inj (Tryz.func5.symm.trans o5)).symm;exact⟨by kernel_rfl,λj t ht=>by
    rw[Tryz.params5] at ht;have hm:t∈[22,28,29,30,3]:=by simpa using Array.mem_of_getElem? ht
    have dX:([22,28,29,30,3].all λu=>!Tryz.prog.wantsStandIn u)=true:=by kernel_rfl
    exact(show Tryz.prog.wantsStandIn t=false by simpa using List.all_eq_true.1 dX t hm)⟩)
  (by as_aux_lemma=>kernel_rfl)
end
end ae1
theorem backendWhole_card:Rows.BackendWholeCardSaid:=ae1.E5
