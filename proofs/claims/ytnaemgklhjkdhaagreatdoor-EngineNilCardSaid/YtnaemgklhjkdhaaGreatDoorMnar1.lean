/- Texts of mine, joined and packed by pack.py. -/
import Derived.Test.YtnaemgklhjkdhaaGreatDoorMna13
import Derived.Test.YtnaemgklhjkdhaaGreatDoorCards
import Derived.Test.YtnaemgklhjkdhaaGreatDoorTie
import Derived.ShutString
import Derived.Below
import Derived.OpenShut
import Derived.Handed
import Derived.ProofKit
set_option linter.all false
set_option maxRecDepth 100000
noncomputable section
namespace Go.Proofs.YtnaemgklhjkdhaaGreatDoor
namespace Vy
section
open Go.ChangeShapes Go.WideShapes Go.ChangeAt Go.RowKit
theorem own:ownKnob Tryz.prog.godebug=none:=by kernel_rfl
theorem laidOut:laidOutB Tryz.prog=true:=by kernel_rfl
set_option maxHeartbeats 1000000 in
theorem lifted(os:Os)(started:os.Started)(pH:Type)(enc:TypeId×Value->pH):
  ReturnsInHanded {} Tryz.checked os 7 .any (λw args=>(Rows.engineNilSpec.pre enc Tryz.prog Tryz.f7 Rows.engineNilRow.domain false w args/\laidMetH Tryz.prog Rows.engineNilRow.laid w)/\sizedMet enc Tryz.prog Tryz.f7 (OpenSpec.ofChange Rows.engineNilSpec) false w args) (Rows.engineNilSpec.post enc Tryz.prog Tryz.f7 false true false false):=by
 refine returnsInHanded_of_change_and (C:=Tryz.checked) (X:=λw _=>laidMetH Tryz.prog Rows.engineNilRow.laid w) (λ_ _ _ bW h=>h.of_heap bW) own started (by kernel_rfl) Tryz.func7
  (ChangeSpec.witness_shaped (enc:=enc) (C:=Tryz.checked) (os:=os) (X:=λw _=>laidMetH Tryz.prog Rows.engineNilRow.laid w) false (World.laidAll Tryz.prog os Rows.engineNilRow.laid) #[.agg #[.int .i64 0,.int .i64 0,.int .i64 0,.int .i64 0,.int .i64 0,.int .i64 0,.int .u64 0],.agg #[.int .i64 0,.int .i64 0,.int .i64 0,.int .i64 0,.slice none 0 0,.slice none 0 0,.int .i64 0,.int .i64 0,.int .i64 0,.string ⟨#[]⟩,.slice none 0 0]] 8 (World.laidAll_os _ _ _)
   (World.shaped_of_ZipB (by kernel_rfl) (by kernel_rfl)) (by kernel_rfl) (by kernel_rfl) (by kernel_rfl)
   (by rw[MakeChecks.laidMetH_plain _ _ _ (by kernel_rfl)];exact laidMet_laidAll _ (by kernel_rfl) (by kernel_rfl))) ?_
 intro bm base args ds gs before Yn gv av5 X9 cE _
 have cA:(DataW.weightsEach Tryz.prog (Tryz.f7.params.toList++Rows.engineNilSpec.plain.varTypes Tryz.prog) (ds++gs)).all (· <=reachBytes)=true:=X9
 have A4:∀(j:Nat) t v,Tryz.f7.params[j]?=some t->args[j]?=some v->Value.okWide Tryz.prog bm .any base t v:=Yn
 have we:=gv
 obtain⟨p,q,We,ah1,rfl,Iq,bX⟩:=gv
 have dv:DataW.TrodAll enc Tryz.prog bm 0 (λ_=>true) true Tryz.f7.params.toList args.toList ds p:=We
 rw[Tryz.params7] at dv A4 cA
 obtain⟨v0,Gh,d0,avB,am7,ZT,Ax,rfl,rfl,h0,lu⟩:=trodAll_cons dv
 obtain⟨v1,axK,d1,avC,fk,cC,rfl,rfl,rfl,h1,jS⟩:=trodAll_cons lu
 obtain⟨rfl,rfl,rfl⟩:=trodAll_nil jS
 obtain rfl:args=#[v0,v1]:=by cases args;simp_all
 obtain⟨rfl,rfl⟩:=trodVars_none ah1
 have wt:∀{j:Nat} {t:TypeId} {d:DataW pH},([55,74]++Rows.engineNilSpec.plain.varTypes Tryz.prog)[j]?=some t->([d0,d1]++ [])[j]?=some d->∀n∈d.weights Tryz.prog t,n<=reachBytes:=λht aj n ac=>by have:=List.all_eq_true.1 cA n (DataW.weights_mem_each ht aj n ac);simpa using this
 obtain⟨afK,rfl,av7⟩:=okWide_struct Tryz.underlying55 (A4 0 55 v0 rfl rfl)
 obtain⟨U9,rfl,av8⟩:=okWide_struct Tryz.underlying74 (A4 1 74 v1 rfl rfl)
 have iq:=h0
 have al4:∀x∈am7,x.block<bm.heap.size:=by obtain⟨m,hm⟩:=iq;exact DataW.trod_lt m _ _ _ hm
 obtain⟨avJ,OH⟩:=h0
 have cv:=h1
 have al5:∀x∈fk,x.block<bm.heap.size:=by obtain⟨m,hm⟩:=cv;exact DataW.trod_lt m _ _ _ hm
 obtain⟨avK,kK⟩:=h1
 obtain⟨afI,afj,afc,afh,afi,Hq,afJ,avt,rfl⟩:=n2.am1 (cs:=afK) (by simpa[Value.cells] using OH)
 obtain⟨dk,agm⟩:=n2.afv (cs:=U9.toList) (by simpa[Value.cells] using kK)
 obtain rfl:U9=(n2.rY dk).toArray:=by rw[<-agm]
 clear We Yn X9 cA
 have aji:=n2.alO (a:=afI) (b:=afj) (c:=afc) (d:=afh) (e:=afi) (f:=Hq) (g:=afJ) (o:=dk) (n2.abT cE).1 (n2.abT cE).2 (u:=whole bm) (K:=λb u'=>b=true/\(whole bm).le u') λu' kq=>⟨rfl,kq⟩
 refine(aji bm (auJ bm)).mono ?_
 rintro e vP ⟨v,u',rfl,⟨vs,hk,rfl,E⟩,hs⟩
 cases hk with
 |cons x W=>
  cases W;obtain⟨I,hle⟩:x=true/\(whole bm).le u':=(al.nX .bool x _).1 E;subst I;have MG:Below bm.heap.size bm vP:=hs.below hle;exact⟨_,rfl,_,_,_,[],_,[],we,trodAll_mk1 (shut_bool Tryz.underlying4 _),
   (trodAll_cons_mk (Below.trod laidOut (by kernel_rfl) (of_decide_eq_true (by kernel_rfl)) iq MG al4) (trodAll_cons_mk (Below.trod laidOut (by kernel_rfl) (of_decide_eq_true (by kernel_rfl)) cv MG al5) trodAll_mk0)),rfl,MG.frame _,λh=>by cases h⟩
theorem hE{a b:Bool}(ap:a=true)(Z:b=true):(a && b)=true:=by rw[ap,Z];rfl
set_option maxHeartbeats 4000000 in
theorem closed:joinedFacts Tryz.pinned.checked.prog 7 Tryz.f7 Rows.engineNilSpec Rows.engineNilRow=true:=by
 unfold joinedFacts;refine hE (hE (hE (hE (hE (hE (hE (hE (hE (hE (hE (hE (hE (hE (hE (hE (hE (hE (hE (hE (hE (hE (hE (hE (hE (hE (hE (hE (hE (hE (hE ?_ ?_) ?_) ?_) ?_) ?_) ?_) ?_) ?_) ?_) ?_) ?_) ?_) ?_) ?_) ?_) ?_) ?_) ?_) ?_) ?_) ?_) ?_) ?_) ?_) ?_) ?_) ?_) ?_) ?_) ?_) ?_
 all_goals (as_aux_lemma=>kernel_rfl)
theorem over:Rows.engineNilRow.holds Tryz.pinned (OpenSpec.ofChange Rows.engineNilSpec):=
 OpenClaim.holds_of_wide 7 Tryz.f7 rfl rfl rfl rfl rfl rfl rfl ⟨rfl,rfl,rfl,rfl,rfl⟩ rfl rfl rfl rfl rfl (by as_aux_lemma=>kernel_rfl) Tryz.func7 closed
  (of_decide_eq_true (by as_aux_lemma=>kernel_rfl)) (by unfold Func.isWrapper;first|(rw[if_pos (by decide+kernel)];kernel_rfl)|(rw[if_neg (by decide+kernel)];exact⟨rfl,rfl⟩))
  (λos started pH enc _=>lifted os started pH enc)
theorem afe:Rows.EngineNilCardSaid:=
 Claim7.holds_tied_plain_at .later [] [.data,.data,.data,.sentinel,.sentinel] true _ true over (λ_ h=>by cases h) (by as_aux_lemma=>kernel_rfl) (λ_ h=>by cases h) engineNil_row_tie rfl ⟨rfl,rfl⟩ (by as_aux_lemma=>kernel_rfl) rfl
  (λf fn M pW=>by
   obtain rfl:f=7:=Option.some.inj ((show Tryz.prog.funcNamed "theodolite/theodolitelaw21.EngineNil" =some 7 by kernel_rfl).symm.trans M)|>.symm;obtain rfl:fn=Tryz.f7:=(Option.some.inj (Tryz.func7.symm.trans pW)).symm;exact⟨by kernel_rfl,λj t ht=>by
    rw[Tryz.params7] at ht;have hm:t∈[55,74]:=by simpa using Array.mem_of_getElem? ht
    have ep:([55,74].all λu=>!Tryz.prog.wantsStandIn u)=true:=by kernel_rfl
    exact(show Tryz.prog.wantsStandIn t=false by simpa using List.all_eq_true.1 ep t hm)⟩)
  (by as_aux_lemma=>kernel_rfl)
end
end Vy
theorem engineNil_card:Rows.EngineNilCardSaid:=Vy.afe
