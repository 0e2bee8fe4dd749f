/- Texts of mine, joined and packed by pack.py. -/
import Derived.Test.YtejdhbfjjgcljaaGreatDoorMra5
import Derived.OpenShut
set_option linter.all false
open Go renaming Program->dY,Value->ap,World->b7,TypeId->dJ,Addr->bc,callFunc->p0,Code->iP,madeCells->ny
open _root_ renaming Nat->N,List->M,Option->ay,Int->o,Bool->aK,False->eh,absurd->aW
open Bool renaming true->ak,false->ax
open Go.Obj renaming cells->bC
open Go.IntKind renaming i64->cq,signed->Hu,bits->Hv,u64->bR,min->HS,max->HT
open Go.Fence renaming wide->uV
open Go.Instr renaming makeSlice->to,sliceAt->h6,buildSlice->dL
open Go.Builtin renaming append_->ey,zeroCells->wu
open Go.Addr renaming add->ev,mk->cB
open List renaming range->lM,replicate->fX,length->iS,flatMap->wz
open Go.Proofs.Tryz renaming prog->aH
open Go.Value renaming agg->c3,int->cY,func->jv,pointer->hy,slice->ec,oneCell'->cT
open Int renaming tmod->ps,fdiv->ew,tdiv->gR
open List.Perm renaming cons->kc,trans->wy
open List.Pairwise renaming nil->p4
open Prod renaming fst->sq,snd->tv
set_option maxRecDepth 100000
noncomputable section
namespace Go.Proofs.YtejdhbfjjgcljaaGreatDoor
section
variable{n x x2:N}{env:M (N×ap)}
open Go.RowKit
def IterM{α σ:Type}(P:dY)(fv:ap)(enc xa:α->ap)(src:N)(cell:σ->Obj)(Nx:σ->α->σ->Prop)(s0:σ)(En:σ->Prop)(u:H):Prop:=
 ∀(mu:ap) (cV:σ->H->Prop),(∀s v,cV s v->u.le v/\v src=some (cell s))->
  (∀s y aq v (K:aK->H->Prop),Nx s y aq->cV s v->(∀b8,cV aq b8->K ak b8)->Ak P mu #[enc y,xa y] [.one .bool] (v.ins src (cell aq)) K)->
  ∀v (K:H->Prop),cV s0 v->(∀s b8,En s->cV s b8->K b8)->hY P fv #[mu] [] v K
def IK(P:dY)(n:N)(assign body:iP)(env:M (N×ap))(x x2:N)(y lF:ap)(v:H)(cV:H->Prop):Prop:=
 ∀l a w,a.tmps.size=n->(∀p∈env,p.1≠x->p.1≠x2->a.tmps[p.1]?=some p.2)->a.tmps[x]?=some y->a.tmps[x2]?=some lF->a.defers=[]->Sub v w->
  assign.wpIn (Fr (some l)) 0 P (Exit.then (λac gj=>∃v1,Step v [] w v1 [] gj/\∀eA,Sub v1 eA->
   body.wpIn (Fr (some l)) 0 P (λe _ hL=>e=.normal/\∃v2,cV v2/\Step v1 [] eA v2 [] hL) ac eA) (λ_ _ _=>eh)) a w
def IK.of{C:lb}(fy:Good C){assign body:iP}{y lF:ap}{v:H}{cV:H->Prop}(aE:mM assign=ak)(ab:mM body=ak)
  (Fp:M (N×fF)) (s4:∀p∈Fp,∃Y,hj [] p.2=some Y/\((p.1=x/\Y=y)∨(p.1=x2/\Y=lF)∨p.1≠x/\p.1≠x2/\(p.1,Y)∈env))
  (h:hf C [] assign 1 (λ_=>ak) (λe s u=>e=.normal/\s.loc=[]/\hf C [] body 1 (λ_=>ak) (λe _ u=>e=.normal/\cV u) s u) {n:=n,env:=Fp,loc:=[]} v):
  IK C.P n assign body env x x2 y lF v cV:=by
 intro l a w cI he J avr aw ag
 have Z:Fits {n:=n,env:=Fp,loc:=[]} [] v a w:=by refine⟨⟨aw,cI,λp ad=>?_⟩,rfl,λi cs e=>by simp at e,by simp,by simp,ag⟩;obtain⟨Y,h1,h2⟩:=s4 p ad;refine⟨Y,h1,?_⟩;rcases h2 with⟨h3,rfl⟩|⟨h3,rfl⟩|⟨h3,bK,a7⟩;rw[h3];exact J;rw[h3];exact avr;exact he _ a7 h3 bK
 refine yd (RP fy (some l) assign aE 1 _ _ _ v h [] a w Z) ?_
 rintro e ac gj ⟨_,aq,u',c8,⟨rfl,uv,eG⟩,cF,dW,_,_⟩
 have ko:c8=[]:=by have:=cF.len;rw[uv] at this;simpa using this
 subst ko
 refine⟨u',dW,λeA Km=>?_⟩
 have ie:Fits aq [] u' ac eA:=⟨cF.toFitsE,cF.len,λi cs e=>by rw[uv] at e;simp at e,by simp,by simp,Km⟩
 refine yd (RP fy (some l) body ab 1 _ _ aq u' eG [] ac eA ie) ?_
 rintro e a2 hL ⟨_,s2,dc,IW,⟨rfl,aP⟩,FT,aaB,_,_⟩
 exact⟨rfl,dc,aP,aaB.forget⟩
def nf.avK{P:dY}{α σ:Type}{Nx:σ->α->σ->Prop}{s0:σ}{En:σ->Prop}{src:N}{cell:σ->Obj}{t:N}{assign body:iP}{u:H}{K:N->H->Prop}{enc xa:α->ap}{fv:ap}{ub:H}(b9:ub.le u)
  (Z:∀f args w,(∃fn,P.funcs[f]?=some fn/\fn.body.isSome=ak)->(p0 f args).run P w=.ok (.enter f args) w) (W:(t,fv)∈env) (J:x<n) (Kn:x2<n) (y0:x≠x2)
  (iM:∀ai,ub.le ai->IterM P fv enc xa src cell Nx s0 En ai) (cV:σ->H->Prop) (h0:cV s0 u) (hle:∀i v,cV i v->ub.le v) (rr:∀i v,cV i v->v src=some (cell i))
  (Nr:∀i y lo v,Nx i y lo->cV i v->IK P n assign body env x x2 (enc y) (xa y) (v.ins src (cell lo)) (cV lo))
  (au:∀s v D,En s->cV s v->v D=none->K D (v.ins D (.deferred (some [])))):nf P (.rangeFunc (.tmp t) #[x,x2] assign body) n env u K:=by
 intro a w cI s4 Nv gJ
 refine(PZ (n:=0)).1 (wpIn_rangeFunc ?_)
 intro fn _
 have fh:a.eval (.tmp t)=fv:=by simp only[Act.eval];rw[BT,s4 _ W];rfl
 obtain⟨rec,mJ⟩:∃rec:LoopState->Loop,rec=λst=>{state:=st,pending:=none,fn,tmps:=a.tmps,params:=#[x,x2],assign,body,defers:=w.heap.size}:=⟨_,rfl⟩
 obtain⟨iW,jT⟩:∃iW,(w.alloc (.deferred (some []))).alloc (.loop (rec .ready))=iW:=⟨_,rfl⟩
 have ai3:iW.heap.size=w.heap.size+2:=by rw[<-jT];simp
 have Nf:iW.heap[w.heap.size+1]?=some (.loop (rec .ready)):=by rw[<-jT];have:=Lg (w.alloc (.deferred (some []))) (.loop (rec .ready));rwa[D7] at this
 have FC:iW.heap[w.heap.size]?=some (.deferred (some [])):=by rw[<-jT];exact(Below.heap_alloc _ _ _ (by simp)).trans (Lg w _)
 have hold:∀b,b<w.heap.size->iW.heap[b]?=w.heap[b]?:=λb ab=>by rw[<-jT];exact(Below.heap_alloc _ _ _ (by simp;omega)).trans (Below.heap_alloc _ _ _ ab)
 have xC:u (w.heap.size+1)=none:=gJ.none (by omega)
 have Db:u w.heap.size=none:=gJ.none (cA _)
 have NS:ub (w.heap.size+1)=none:=by
  cases J:ub (w.heap.size+1) with
  |none=>rfl|some z=>rw[b9 _ _ J] at xC;cases xC
 have OW:ub.le (ub.ins (w.heap.size+1) (.loop (rec .ready))):=H.b1 _ NS
 have OM:Sub (u.ins (w.heap.size+1) (.loop (rec .ready))) iW:=by intro b z ab;unfold H.ins at ab;split at ab;rename_i eu;subst eu;cases ab;exact Nf;have:=gJ b z ab;have bD:=gJ.lt ab;rw[hold b bD];exact this
 have hG:=iM _ OW (.func (.yield (w.heap.size+1)) #[] #[])
  (λi v=>∃v0,v=v0.ins (w.heap.size+1) (.loop (rec .ready))/\v0 (w.heap.size+1)=none/\v0 w.heap.size=none/\cV i v0)
  (λi v ⟨v0,aA,h1,_,aP⟩=>⟨by rw[aA];exact H.Kt (hle i v0 aP) _ _,by rw[aA,H.bq _ _ (λe=>by have:=rr i v0 aP;rw[e,h1] at this;cases this)];exact rr i v0 aP⟩)
  (by
   rintro i y lo v fZ ah ⟨Wb,rfl,ah9,agG,aP⟩ nS;have eM:=Nr i y lo Wb ah aP;have rq:=rr i Wb aP;have nl:src≠w.heap.size+1:=λe=>by rw[e,ah9] at rq;cases rq
   have awH:src≠w.heap.size:=λe=>by rw[e,agG] at rq;cases rq
   obtain⟨v0,Kk⟩:∃v0,v0=Wb.ins src (cell lo):=⟨_,rfl⟩;rw[<-Kk] at eM;have lh:v0 (w.heap.size+1)=none:=by rw[Kk,H.bq _ _ (dz nl)];exact ah9
   have ue:v0 w.heap.size=none:=by rw[Kk,H.bq _ _ (dz awH)];exact agG
   have apM:(Wb.ins (w.heap.size+1) (.loop (rec .ready))).ins src (cell lo)=v0.ins (w.heap.size+1) (.loop (rec .ready)):=by rw[Kk];funext c;unfold H.ins;by_cases aS:c=src;by_cases aB:c=w.heap.size+1;exact aW (aS.symm.trans aB) nl;rw[a1 aS,aF aB,a1 aS];rw[aF aS];by_cases aB:c=w.heap.size+1;rw[a1 aB,a1 aB];rw[aF aB,aF aB,aF aS]
   rw[apM];refine⟨_,rfl,λbd gl=>?_⟩;have xz:bd.heap[w.heap.size+1]?=some (.loop (rec .ready)):=gl _ _ (H.bh _ _ _);have bD:w.heap.size+1<bd.heap.size:=(ya.1 xz).1;have nq:(Instr.yield (w.heap.size+1) #[enc y,xa y]).run P bd=.ok (.round (w.heap.size+1) fn ((a.tmps.setIfInBounds x (enc y)).setIfInBounds x2 (xa y)) assign body) bd:=by have:=run_yield (P:=P) (args:=#[enc y,xa y]) xz (by rw[mJ];rfl);rw[mJ] at this;simpa using this
   have ON:Sub v0 bd:=gl.mono (H.b1 _ lh);refine⟨fn,_,assign,body,nq,acU trivial ?_⟩;refine yd (eM (w.heap.size+1) _ bd ?_ ?_ ?_ ?_ rfl ON) ?_;simpa using cI;intro p ad Gr aur;show((a.tmps.setIfInBounds x (enc y)).setIfInBounds x2 (xa y))[p.1]?=_;rw[HD (dz aur),HD (dz Gr)];exact s4 p ad;show((a.tmps.setIfInBounds x (enc y)).setIfInBounds x2 (xa y))[x]?=_;rw[HD (dz y0),UP];simp[cI,J];show((a.tmps.setIfInBounds x (enc y)).setIfInBounds x2 (xa y))[x2]?=_;rw[UP];simp[cI,Kn];intro e ac gj ad;cases e with
   |normal=>
    obtain⟨v1,dO,ab⟩:=ad;have Dr:gj.heap[w.heap.size+1]?=some (.loop (rec .ready)):=(dO.rest _ bD lh (by simp)).trans xz;have xB:w.heap.size+1<gj.heap.size:=(ya.1 Dr).1;have gn:v1 (w.heap.size+1)=none:=dO.jq _ bD lh;have AT:v1 w.heap.size=none:=dO.jq _ (by omega) ue;refine⟨_,run_beginRound Dr (by rw[mJ]),yd (ab _ ?_) ?_⟩;intro b z gP;have al:b≠w.heap.size+1:=λe=>by rw[e,gn] at gP;cases gP
    exact(ml al).trans (dO.sub b z gP);rintro e a2 hL ⟨rfl,v2,ri,dB⟩;have NR:(gj.putObj (w.heap.size+1) (.loop {rec .ready with state:=.busy})).heap[w.heap.size+1]?=some (.loop {rec .ready with state:=.busy}):=Hy xB;have s6:hL.heap[w.heap.size+1]?=some (.loop {rec .ready with state:=.busy}):=(dB.rest _ (by simpa using xB) gn (by simp)).trans NR;have NV:w.heap.size+1<hL.heap.size:=(ya.1 s6).1;have h4:v2 (w.heap.size+1)=none:=dB.jq _ (by simpa using xB) gn;have pK:=run_endRound (P:=P) none s6;have MJ:({{rec .ready with state:=LoopState.busy} with state:=if(none:ay iP).isNone then .ready else .done,pending:=none}:Loop)=rec .ready:=by rw[mJ];rfl
    rw[MJ] at pK;refine⟨_,_,pK,.bool ak,v2.ins (w.heap.size+1) (.loop (rec .ready)),rfl,⟨[.bool ak],.cons (t:=.bool) ak .nil,rfl,?_⟩,?_⟩;exact nS _ ⟨v2,rfl,h4,dB.jq _ (by have:=dO.size;simp;omega) AT,ri⟩;refine⟨λb z gP=>?_,dB.os.trans dO.os,dB.tape.trans dO.tape,dB.output.trans dO.output,jg dO.drawn dB.drawn,?_,λb ab fc _=>?_,λb ab fc=>?_,[],by simp,by simp⟩;unfold H.ins at gP;split at gP;rename_i eu;subst eu;cases gP;exact Hy NV;rename_i eu;rw[ml eu];exact dB.sub b z gP;have h1:=dO.size;have h2:=dB.size;simp at h2 ⊢;omega;have al:b≠w.heap.size+1:=λe=>by rw[e,H.bh] at fc;cases fc
    rw[H.bq _ _ al] at fc;have hU:b<gj.heap.size:=KX ab dO.size;rw[ml al,dB.rest b (by simpa using hU) (dO.jq b ab fc) (by simp),ml al];exact dO.rest b ab fc (by simp);have al:b≠w.heap.size+1:=λe=>by rw[e,H.bh] at fc;cases fc
    rw[H.bq _ _ al] at fc ⊢;exact dB.jq b (by have:=dO.size;simp;omega) (dO.jq b ab fc)
   |_=>exact ad.elim)
  _ (λb8=>∃v0,b8=v0.ins (w.heap.size+1) (.loop (rec .ready))/\v0 (w.heap.size+1)=none/\v0 w.heap.size=none/\∃s,En s/\cV s v0) ⟨u,rfl,xC,Db,h0⟩ (λs _ ag ⟨v0,a,b,c,d⟩=>⟨v0,a,b,c,s,ag,d⟩)
 obtain⟨xe,Da,cap,FX,AW,hG⟩:=hG
 rw[FX] at fh
 refine⟨w.heap.size+1,[{target:=.collected w.heap.size,args:=#[]}],iW,{target:=.fn (.func xe) cap,args:=Da++ #[.func (.yield (w.heap.size+1)) #[] #[]]},iW,xe,
  Da++ #[.func (.yield (w.heap.size+1)) #[] #[]]++cap,iW,?_,?_,λ_ _=>trivial,?_,λh=>by simp[uV] at h,?_⟩
 rw[<-jT,mJ];exact acV _ _ _ _ _
 simp only[resolve,fh]
 simp[go_sem]
 simp[invoke,go_sem,Z xe _ _ AW]
 refine PY.2 ((hG iW OM).mono ?_)
 rintro e hL ⟨v,u',rfl,⟨vs,hk,rfl,I⟩,ag⟩
 cases hk
 obtain⟨v0,rfl,lh,ue,s,Gy,aP⟩:∃v0:H,u'=v0.ins (w.heap.size+1) (.loop (rec .ready))/\v0 (w.heap.size+1)=none/\v0 w.heap.size=none/\∃s,En s/\cV s v0:=I
 have s6:hL.heap[w.heap.size+1]?=some (.loop (rec .ready)):=ag.sub _ _ (H.bh _ _ _)
 have M7:hL.heap[w.heap.size]?=some (.deferred (some [])):=by rw[ag.rest _ (by omega) (by rw[H.bq _ _ (by omega)];exact Db) (by simp)];exact FC
 have pK:(Instr.endLoop (w.heap.size+1)).run P hL=.ok none (hL.putObj (w.heap.size+1) (.loop {rec .ready with state:=.exhausted})):=by have:=run_endLoop (P:=P) s6 (by rw[mJ];simp);rw[this];rw[mJ]
 refine⟨none,_,pK,rfl,rfl,w.heap.size,_,?_,au s v0 w.heap.size Gy aP ue,?_⟩
 simp[Nv,Mq]
 have uB:=ag.size
 refine⟨λb z gP=>?_,?_,?_,?_,?_,by simp;omega,λb ab fc _=>?_,λb ab fc=>?_,[],by simp,by simp⟩
 unfold H.ins at gP
 split at gP
 rename_i eu;subst eu;cases gP
 rw[ml (by omega)];exact M7
 have al:b≠w.heap.size+1:=λe=>by rw[e,lh] at gP;cases gP
 rw[ml al]
 exact ag.sub b z (by rw[H.bq _ _ al];exact gP)
 exact ag.os.trans (by rw[<-jT];rfl)
 exact ag.tape.trans (by rw[<-jT];rfl)
 exact ag.output.trans (by rw[<-jT];rfl)
 exact jg (by rw[<-jT];exact cA _) ag.drawn
 have al:b≠w.heap.size+1:=by omega
 rw[ml al,ag.rest b (by omega) (by rw[H.bq _ _ al];exact fc) (by simp)]
 exact hold b ab
 have al:b≠w.heap.size+1:=by omega
 have:=ag.jq b (by omega) (by rw[H.bq _ _ al];exact fc)
 rw[H.bq _ _ al] at this
 rw[H.bq _ _ (by omega)];exact this
def nf.apg{P:dY}{c:iP}{t:N}{u:H}{K:N->H->Prop}(I:c=.rangeFunc (.tmp t) #[x,x2] (zZ c) (z1 c))(h:nf P (.rangeFunc (.tmp t) #[x,x2] (zZ c) (z1 c)) n env u K):nf P c n env u K:=by rw[I];exact h
end
section
variable{u:H}
def kB(st:o):o:=bR.wrap (st+11400714819323198485)
def uR(x:o):o:=
 bits .xor .u64 (bR.wrap (bits .xor .u64 (bR.wrap (bits .xor .u64 x (ew x (2 ^ 30))*13787848793156543929)) (ew (bR.wrap (bits .xor .u64 x (ew x (2 ^ 30))*13787848793156543929)) (2 ^ 27))*10723151780598845931))
  (ew (bR.wrap (bits .xor .u64 (bR.wrap (bits .xor .u64 x (ew x (2 ^ 30))*13787848793156543929)) (ew (bR.wrap (bits .xor .u64 x (ew x (2 ^ 30))*13787848793156543929)) (2 ^ 27))*10723151780598845931)) (2 ^ 31))
def aor(op:BinOp)(x y:o):dh (bits op .u64 x y):=by have:=wf_bits op .u64 x y;simp[Lit.wf,HS,HT,Hu,Hv] at this;unfold dh;omega
def aAx(x:o):dh (bR.wrap x):=by have:=wf_wrap .u64 x;simp[Lit.wf,HS,HT,Hu,Hv] at this;unfold dh;omega
def akx(x:o):dh (uR x):=aor _ _ _
def aCm(x:o):dh (kB x):=aAx _
def ae3{x n:o}(J:dh x)(h1:1<=n)(h2:n<=1000000000):bR.wrap n≠0/\cq.wrap (ps x (bR.wrap n))=x%n:=by have aS:bR.wrap n=n:=UM n (by omega);have aB:ps x n=x%n:=akP J.1;have h3:=Qc x (show n≠0 by omega);have a7:=Qd x (show 0<n by omega);rw[aS,aB];exact⟨by omega,IntWalk.i64_in _ (by omega)⟩
def spec.ala{src:N}{st:o}{K:o->H->Prop}(h:u src=some (.cells #[.int .u64 st] 215 (0,0)))
  (au:K (uR (kB st)) (u.ins src (.cells #[.int .u64 (kB st)] 215 (0,0)))):C.yj (some ⟨src,0,none⟩) u K:=by
 apply aG.yj
 exact⟨λh=>(by cases h),λ_=>⟨_,rfl,st,H.ba h 0,_,rfl,Il h (by simp[cT]) ⟨_,rfl,_,H.ba (H.bh _ _ _) 0,by omega,by omega,by omega,au⟩⟩⟩
def spec.ax2{src:N}{st n:o}{K:o->o->H->Prop}(h:u src=some (.cells #[.int .u64 st] 215 (0,0)))(h1:1<=n)(h2:n<=1000000000)
  (au:K (uR (kB st)%n) 0 (u.ins src (.cells #[.int .u64 (kB st)] 215 (0,0)))):C.Qm (some ⟨src,0,none⟩) n u K:=by
 obtain⟨aS,aB⟩:=ae3 (akx (kB st)) h1 h2
 apply aG.Qm
 apply aG.Eg
 refine⟨λh=>(by cases h),λ_=>⟨λh=>by omega,λ_=>⟨λh=>by omega,λ_=>⟨λh=>aW rfl h,λ_=>spec.ala h ⟨aS,?_⟩⟩⟩⟩⟩
 rw[aB]
 exact au
def permA:N->o->M o->M o
 |0,_,l=>l|i+1,st,l=>permA i (kB st) (jO l (i+1) (uR (kB st)%((i:o)+2)).toNat)
def pn(n:N):M o:=(lM n).map λi:N=>(i:o)
def uU(st:o)(n:N):M o:=permA (n-1) st (pn n)
def axr:∀(i:N) (st:o) (l:M o),i<l.length->(permA i st l).Perm l:=by
 intro i;induction i with
 |zero=>intro st l _;exact .refl _
 |succ i aM=>intro st l h;have h3:=Qc (uR (kB st)) (show(i:o)+2≠0 by omega);have a7:=Qd (uR (kB st)) (show 0<(i:o)+2 by omega);unfold permA;exact(aM _ _ (by rw[pw];omega)).trans (Ex h (by omega))
def akD(st:o)(n:N):(uU st n).Perm (pn n):=by
 unfold uU;cases n with
 |zero=>exact .refl _|succ n=>exact axr _ _ _ (by simp[pn])
def Ar(u:H)(src:N):Prop:=∃st,u src=some (.cells #[.int .u64 st] 215 (0,0))
def H.no(u:H)(b:N):H:=λc=>if c=b then none else u c
def KO{b c:N}(h:c≠b):H.no u b c=u c:=aF h
def Ul(u:H)(b:N):H.no u b b=none:=a1 rfl
def PA(u:H)(b:N):(H.no u b).le u:=λc z h=>by by_cases e:c=b;rw[e,Ul] at h;cases h;rw[KO e] at h;exact h
def av7{v:H}{b:N}(h:v.le u)(ab:v b=none):v.le (H.no u b):=λc z I=>by rw[KO (λe=>by rw[e,ab] at I;cases I)];exact h c z I
structure mY(ub u:H)(src:N)(s:U)(l:M az)(d:o)(u':H)(n:av):Prop where
 one:∀x∈n.bM,hM u' x
 nodup:n.own.Nodup
 out:∀c∈n.own,ub c=none/\u' c≠none/\c≠src
 all:n.bA.all.Perm (l.map az.bz)
 ok:ga d n.bA
 rows:∀x∈n.bM,∀r∈x.1.rows,r∈l
 size:n.bM.length+1<=2*l.length
 tY:∀c z,u c=some z->s.aj≠some c->c≠src->u' c=some z
 src:Ar u' src
 od:lG 3 n.bA
 bin:jR n.bA
namespace lS
def Mf:hn aH 127=ak:=by kernel_rfl
def aoa:hn aH 130=ak:=by kernel_rfl
def WN:hn aH 131=ak:=by kernel_rfl
def WW(a b:N):kG aH 211 2 #[(0,.pointer (some ⟨a,0,none⟩)),(1,.pointer (some ⟨b,0,none⟩))]=some (167,[.pointer (some ⟨a,0,none⟩),.pointer (some ⟨b,0,none⟩)]):=by kernel_rfl
abbrev yQ(n0 b4:N):ap:=.func (.func 127) #[] #[.pointer (some ⟨n0,0,none⟩),.pointer (some ⟨b4,0,none⟩)]
abbrev R5(n10:N):ap:=.func (.func 130) #[] #[.pointer (some ⟨n10,0,none⟩)]
structure wX(ub:H)(n0 b4 cZ src:N)(leaf:o):Prop where
 bJ:ub.cell? ⟨n0,0,none⟩=some (.pointer (some ⟨cZ,0,none⟩))
 c1:ub.cell? ⟨b4,0,none⟩=some (yQ n0 b4)
 qU:ub.cell? ((cB cZ 0 none).add 1)=some (.int .i64 leaf)
 ck:ub.cell? ((cB cZ 0 none).add 2)=some (.pointer (some ⟨src,0,none⟩))
def wX.mono{ub:H}{n0 b4 cZ src:N}{leaf:o}(h:wX ub n0 b4 cZ src leaf)(k:ub.le u):wX u n0 b4 cZ src leaf:=⟨H.le.cell k h.bJ,H.le.cell k h.c1,H.le.cell k h.qU,H.le.cell k h.ck⟩
def Xd{ub:H}{n10 n24:N}{fP:U}{c:M o}{l:M az}{d:o}(M3:ub.cell? ⟨n24,0,none⟩=some (R5 n10))(MY:ub.cell? ⟨n10,0,none⟩=some (.slice fP.a fP.n fP.c))(o0:Ints ub fP c)(I:dj c)(lW:(c.length:o)=d)(aw:1<=d)(aA:∀r∈l,Ints ub r.s r.v)(bE:hD l d):
  LZ ub l (.func (.func 131) #[] #[.pointer (some ⟨n24,0,none⟩)]):=by
 intro a b v K aE ab hle au
 refine⟨_,_,_,rfl,hh WN,aG.aeg a.id a.s b.id b.s ⟨n24,0,none⟩ v K ?_⟩
 have afj:=H.le.cell hle M3
 have aoP:=H.le.cell hle MY
 have Q6:=o0.mono hle
 have eB:∀{r:az} {Q:o->o->H->Prop},r∈l->(∀x y,dh x->dh y->Q x y v)->hY aH (R5 n10) #[.agg #[.int .i64 r.id,.slice r.s.a r.s.n r.s.c]] [.agg [.int .u64,.int .u64]] v Q:=λ{r Q} O fb=>by obtain⟨l2,p8⟩:=bE.v r O;exact⟨_,_,_,rfl,hh aoa,aG.aef r.id r.s ⟨n10,0,none⟩ v Q ⟨fP,aoP,spec.lD Q6 ((aA r O).mono hle) I (by omega) p8 (by omega) λx y J ah _=>fb x y J ah⟩⟩
 exact⟨_,afj,_,afj,eB aE λx y J ah=>⟨H.le.refl _,eB ab λnH mW fT j9=>spec.mr ah j9 (au _)⟩⟩
def spec.Xc{n0 b4 cZ src:N}{d leaf:o}(A5:1<=leaf):∀(dg:N) {ub u:H} {s:U} {l:M az} {K:ay bc->H->Prop},l.length<=dg->wX ub n0 b4 cZ src leaf->ub src=none->Ar u src->s.aj≠some src->aJ ub u 52 2 s (l.flatMap cR)->(∀r∈l,Ints ub r.s r.v)->hD l d->
  (l=[]->K none u)->(l≠[]->∀u' n,mY ub u src s l d u' n->K (some ⟨n.b,0,none⟩) u')->C.Ra s ⟨n0,0,none⟩ ⟨b4,0,none⟩ u K:=by
 intro dg
 induction dg with
 |zero=>intro ub u s l K eF b6 _ _ _ aa aA bE h0 _;have ar:l=[]:=kN (by omega);have dw:s.n=l.length:=gW fI (by decide) aa.own.cE;apply aG.Ra;refine⟨λ_=>h0 ar,λal=>aW (by rw[dw,ar];rfl) al⟩
 |succ dg aM=>
  intro ub u s l K eF b6 Bv rr vV aa aA bE h0 au;have dw:s.n=l.length:=gW fI (by decide) aa.own.cE;have aw:=bE.an;have aqM:=bE.len;apply aG.Ra;refine⟨λaC=>h0 (kN (by omega)),λZX=>?_⟩;have al:l≠[]:=λe=>ZX (by rw[dw,e];rfl);have au:=au al;have b9:=aa.le;obtain⟨st,dW⟩:=rr;refine⟨_,H.le.cell b9 b6.bJ,_,rfl,_,H.le.cell b9 b6.ck,spec.ax2 dW (by omega) (by omega) ?_⟩;obtain⟨fA,ry⟩:∃fA,fA=u.ins src (.cells #[.int .u64 (kB st)] 215 (0,0)):=⟨_,rfl⟩;rw[<-ry];have lB:fA src=some (.cells #[.int .u64 (kB st)] 215 (0,0)):=by rw[ry];exact H.bh _ _ _
  have gw:∀c z,u c=some z->c≠src->fA c=some z:=λc z I al=>by rw[ry,H.bq _ _ al];exact I
  have Pw:∀{c},fA c=none->u c=none:=λ{c} I=>by by_cases e:c=src;rw[e,lB] at I;cases I;rw[ry,H.bq _ _ e] at I;exact I
  have vX:ub.le fA:=λc z I=>gw c z (b9 c z I) λe=>by rw[e,Bv] at I;cases I
  have Bh:aJ ub fA 52 2 s (l.flatMap cR):=⟨aa.own.le λc z I J=>gw c z J λe=>vV (by rw[I,e]),vX,aa.fresh⟩;have agW:en fA s l:=⟨Bh.own.cE,λr O=>(aA r O).mono vX⟩;obtain⟨aeS,YK⟩:∃x,x=uR (kB st)%(s.n:o):=⟨_,rfl⟩;have ac:0<=aeS:=by rw[YK];exact Qc _ (by omega)
  have a2:aeS<s.n:=by rw[YK];exact Qd _ (by omega)
  rw[<-YK];obtain⟨acu,aul,su,pb,_,c1,c2⟩:=agW.at ac a2;have auF:su∈l:=dK pb;obtain⟨b3,cu⟩:=bE.v su auF;have aCg:=c2.len;refine⟨acu,aul,⟨ac,a2⟩,su.s,c1,spec.iH c2 (by omega) λfP py rn _=>?_⟩;have ajZ:=rn.le;intro n10 air;refine mT (zs:=[.slice none 0 0]) rfl (by simp[cT]) ?_;obtain⟨Af,aaJ⟩:∃Af,Af=py.ins n10 (.cells [ec fP.a fP.n fP.c].toArray 30 (0,0)):=⟨_,rfl⟩;rw[<-aaJ];have T5:py.le Af:=by rw[aaJ];exact H.b1 _ air
  have d10:Af n10=some (.cells [ec fP.a fP.n fP.c].toArray 30 (0,0)):=by rw[aaJ];exact H.bh _ _ _
  have Pj:fA.le Af:=ajZ.trans T5;have arE:en Af s l:=agW.mono Pj;have o0:Ints Af fP su.v:=rn.ints.mono T5;refine⟨fP,H.ba d10 0,spec.Cr o0 cu arE (by rw[b3];exact bE) λbi i18 fa h1=>?_⟩;have Ud:Af.le fa:=h1.le;obtain⟨R,bX⟩:∃R,R=oI su.v l l.length:=⟨_,rfl⟩;rw[<-bX];have anJ:mw R:=by rw[bX];exact ak9 cu (by rw[b3];exact bE) _ (cA _)
  have G2:fA.le fa:=Pj.trans Ud;have k0:ub.le fa:=vX.trans G2;have HY:fa src=some (.cells #[.int .u64 (kB st)] 215 (0,0)):=G2 _ _ lB;have fresh:∀{c},Af c=none->ub c=none/\c≠src/\s.aj≠some c:=λ{c} I=>⟨vX.none (Pj.none I),(λe=>by have jE:=Pj.none I;rw[e,lB] at jE;cases jE),λe=>dE Bh e (Pj.none I)⟩
  have kd:∀rows kids,oR ((bF.mk 3 su.v [] R rows kids).hA []) d:=λrows kids=>⟨aw,p4,λx J=>(by cases J),.inr (.inr ⟨rfl,rfl,cu,b3,anJ⟩)⟩;have ins:∀rows kids,∀Y∈l.map az.bz,mZ ((bF.mk 3 su.v [] R rows kids).hA []) Y.2:=λrows kids Y aC=>by obtain⟨r,O,rfl⟩:=bf.1 aC;refine⟨λh=>(by cases h),λ_=>?_⟩;obtain⟨i,hi,S6⟩:=pt O;show fE su.v r.v su.v.length<=R;rw[bX];exact(ak8 su.v l l.length).2 i r hi (by rw[cr hi,S6])
  have zm:∀g,bi.aj=some g->fa g≠none:=λg W=>dE h1 W;have qp:∀g,bi.aj=some g->Af g=none:=λg W=>h1.fresh g W;have ajV:∀g,s.aj=some g->fa g≠none:=λg W=>dE (Bh.mono G2) W;intro aAU Jj;have Pn:∀n31,fa n31=none->K (some ⟨n31,0,none⟩) (fa.ins n31 (.cells #[.int .i64 3,.slice bi.a bi.n bi.c,.slice none 0 0,.int .u64 (dk R),.int .u64 (dr R),.slice none 0 0,.slice s.a s.n s.c,.slice none 0 0] 213 (0,0))):=by
   intro n31 sb;obtain⟨qv,iD⟩:∃bU:er,bU=⟨n31,3,bi,⟨none,0,0⟩,su.v,[],R,s,l,⟨none,0,0⟩⟩:=⟨_,rfl⟩;have rB:=H.b1 (u:=fa) (b:=n31) (.cells (eS qv).toArray 213 (0,0)) sb;have key:=au (fa.ins n31 (.cells (eS qv).toArray 213 (0,0))) (.mk qv []);have pR:(av.mk qv []).own=n31::(bi.aj.toList++s.aj.toList):=by rw[av.rG,iD];simp[av.h,av.kids,er.dv,U.aj]
   have fS:(bC #[.int .i64 3,.slice bi.a bi.n bi.c,.slice none 0 0,.int .u64 (dk R),.int .u64 (dr R),.slice none 0 0,.slice s.a s.n s.c,.slice none 0 0] 213 (0,0))=.cells (eS qv).toArray 213 (0,0):=by rw[iD];rfl
   rw[fS];have JB:(av.mk qv []).b=n31:=by rw[iD];rfl
   rw[JB] at key;have f31:=fresh (Ud.none sb);refine key ⟨λy ah=>?_,?_,λc I=>?_,?_,?_,λy ah r O=>?_,?_,λc z I lj dD=>rB c z (G2 c z (gw c z I dD)),⟨_,rB _ _ HY⟩,by rw[av.hx,iD];exact .mk rfl λk hk=>(by cases hk),RG (.inl rfl) λk hk=>(by cases hk)⟩;rw[av.iu] at ah;obtain rfl:y=(qv,[]):=by simpa[av.h,av.kids] using ah
   subst iD;exact⟨H.bh _ _ _,(h1.mono rB).own,Own.nil _ _ _,((Bh.mono G2).mono rB).own,λr O=>(aA r O).mono (k0.trans rB),⟨rfl,cA _,by show 0<=9223372036854775807;omega,.inl rfl⟩⟩;rw[pR,hI];refine⟨λhm=>?_,?_⟩;simp only[cN,so] at hm;rcases hm with hm|hm;exact zm n31 hm sb;exact ajV n31 hm sb;have eH:∀z:ay N,z.toList.Nodup:=λz=>by cases z<;>simp
   rw[gh];refine⟨eH _,eH _,λa aE b ab e=>?_⟩;rw[so] at aE ab;subst e;exact(fresh (qp a aE)).2.2 ab;rw[pR] at I;simp only[cJ,cN,so] at I;rcases I with rfl|I|I;exact⟨f31.1,by rw[H.bh];simp,f31.2.1⟩;have:=fresh (qp c I);exact⟨this.1,λe=>zm c I (rB.none e),this.2.1⟩;exact⟨aa.fresh c I,λe=>ajV c I (rB.none e),λe=>vV (by rw[<-e];exact I)⟩;rw[av.tm,av.iu];subst iD;simp[av.h,av.kids];rw[av.hx];subst iD;refine .mk (kd _ _) (λY aC=>ins _ _ Y ?_) λk hk=>(by cases hk);rw[bF.all_eq] at aC;have By:Y∈l.map az.bz++ []:=aC;rwa[ly] at By;rw[av.iu] at ah;obtain rfl:y=(qv,[]):=by simpa[av.h,av.kids] using ah
   subst iD;exact O;rw[av.iu];have:=wx.2 al;simp[av.kids];omega
  refine⟨_,H.le.cell k0 b6.bJ,_,rfl,leaf,H.le.cell k0 b6.qU,λ_=>Pn,λxv=>⟨λ_=>Pn,λ_=>Jj none fa λn24 ait=>?_⟩⟩;refine mT (zs:=[.nilFunc]) rfl (by simp[cT]) ?_;obtain⟨w,hw⟩:∃w,w=fa.ins n24 (.cells [R5 n10].toArray 219 (0,0)):=⟨_,rfl⟩;rw[<-hw];have KD:fa.le w:=by rw[hw];exact H.b1 _ ait
  have d24:w n24=some (.cells [R5 n10].toArray 219 (0,0)):=by rw[hw];exact H.bh _ _ _
  have apn:w n10=some (.cells [ec fP.a fP.n fP.c].toArray 30 (0,0)):=KD _ _ (Ud _ _ d10);have zr:fA.le w:=G2.trans KD;have amN:ub.le w:=k0.trans KD;have Oo:aJ ub w 52 2 s (l.flatMap cR):=Bh.mono zr;have aau:∀c,s.aj=some c->fA c≠none:=λc I=>dE Bh I;obtain⟨sz,Bu⟩:∃sz:H,sz=H.nC w s:=⟨_,rfl⟩;have bu:ub.le sz:=λc z I=>by rw[Bu,nD (λe=>by rw[aa.fresh c e] at I;cases I)];exact amN c z I
  have aeG:sz n24=w n24:=by rw[Bu];exact nD λe=>aau _ e (G2.none ait)
  have aeF:sz n10=w n10:=by rw[Bu];exact nD λe=>aau _ e (ajZ.none air)
  have anL:Ints sz fP su.v:=br.else (o0.mono (Ud.trans KD)) λg z W J=>by rw[Bu,nD (λe=>aau _ e (rn.fresh g W))];exact J
  refine spec.Cf Oo (by rw[Bu];exact Eo _ _) (λb ab=>by rw[Bu];exact a1 ab) (Xd (n10:=n10) (by rw[d24] at aeG;exact H.ba aeG 0) (by rw[apn] at aeF;exact H.ba aeF 0) anL cu b3 aw.1 (λr O=>(aA r O).mono bu) bE) (by omega) λu32 m ad oA AX=>?_;have pP:=ad.length_eq;have mK:ub.le u32:=λc z I=>AX c z (amN c z I) λe=>by have:=aa.fresh c e;rw[I] at this;cases this
  have oL:Ar u32 src:=⟨_,AX _ _ (KD _ _ HY) vV⟩;have ZI:hD m d:=bE.mix ad;have s7:∀r∈m,Ints ub r.s r.v:=λr O=>aA r (ad.mem_iff.1 O);have SA:en u32 s m:=⟨oA.own.cE,λr O=>(s7 r O).mono mK⟩;have ir:=br.cap oA.own.cE;obtain⟨e4,N2⟩:∃e4:N,e4=s.n/2:=⟨_,rfl⟩;have Xx:gR (s.n:o) 2=(e4:o):=by rw[Lf (by omega)];omega
  rw[Xx];have QG:∀{Y:H} {Q:U->H->Prop},Q (s.part 0 e4 s.c 2) Y->dd aH (h6 22 (.slice s.a s.n s.c) none (some (.int .i64 (e4:o))) none) [.one .slice] Y Q:=λfb=>
   oM (P:=aH) kF (l:=0) (h:=e4) (m:=s.c) (.inl ⟨rfl,rfl⟩) (.inr rfl) (.inl ⟨rfl,rfl⟩) (by omega) (by omega) (cA _) ir fb
  have Cc:∀{Y:H} {Q:U->H->Prop},Q (s.part e4 s.n s.c 2) Y->dd aH (h6 22 (.slice s.a s.n s.c) (some (.int .i64 (e4:o))) none none) [.one .slice] Y Q:=λfb=>
   oM (P:=aH) kF (l:=e4) (h:=s.n) (m:=s.c) (.inr rfl) (.inl ⟨rfl,rfl⟩) (.inl ⟨rfl,rfl⟩) (by omega) ir (cA _) ir fb
  have gn:(m.take e4).length=e4:=by rw[gZ];omega
  have h4:(m.drop e4).length=m.length-e4:=by rw[oH]
  have Gk:m.take e4≠[]:=λe=>by rw[e] at gn;simp at gn;omega
  have rl:m.drop e4≠[]:=λe=>by rw[e] at h4;simp at h4;omega
  have ayB:∀{Y:H},(∀c z,u32 c=some z->c≠src->Y c=some z)->en Y s m:=λ{Y} aC=>⟨br.else oA.own.cE λc z I J=>aC c z J λe=>vV (by rw[I,e]),λr O=>(s7 r O).mono λc z I=>aC c z (mK c z I) λe=>by rw[e,Bv] at I;cases I⟩;have tl:∀{Y:H},en Y s m->en Y (s.part 0 e4 s.c 2) (m.take e4):=λaC=>by have:=aC.part (l:=0) (h:=e4) (m:=s.c) (by omega) (by omega) (by omega) (cA _);simpa using this
  have axk:∀{Y:H},en Y s m->en Y (s.part e4 s.n s.c 2) (m.drop e4):=λaC=>by have:=aC.part (l:=e4) (h:=s.n) (m:=s.c) (by omega) (cA _) ir (cA _);rwa[hR (by rw[oH];omega)] at this
  have lub:∀{Y:H},(∀c z,u32 c=some z->c≠src->Y c=some z)->ub.le Y:=λaC c z I=>aC c z (mK c z I) λe=>by rw[e,Bv] at I;cases I
  have Eh:∀{Y fm:H} {t:U} {k:M az} {Q:ay bc->H->Prop},(∀c z,u32 c=some z->c≠src->Y c=some z)->Ar Y src->aJ Y fm 52 2 t (k.flatMap cR)->k≠[]->k.length<=dg->k.Sublist m->(∀u' n,mY (H.no Y src) fm src t k d u' n->(∀c z,Y c=some z->c≠src->u' c=some z)->Q (some ⟨n.b,0,none⟩) u')->
    hY aH (yQ n0 b4) #[.slice t.a t.n t.c] [.one .ptr] fm Q:=λ{Y fm t k Q} aC ag jb hk Zt sa fb=>by
   have DW:ub.le (H.no Y src):=av7 (lub aC) Bv
   obtain⟨oe,vW⟩:=ag
   have fi:t.aj≠some src:=λe=>by have:=jb.fresh src e;rw[vW] at this;cases this
   exact⟨_,_,_,rfl,hh Mf,aM Zt (b6.mono DW) (Ul _ _) ⟨oe,jb.le _ _ vW⟩ fi ⟨jb.own,(PA _ _).trans jb.le,λg W=>(PA Y src).none (jb.fresh g W)⟩ (λr O=>(s7 r (sa.mem O)).mono DW) (ZI.sub sa) (λe=>aW e hk) λ_ u' n I=>fb u' n I λc z bP dD=>I.tY c z (jb.le c z bP) (λe=>by have:=jb.fresh c e;rw[bP] at this;cases this) dD⟩
  have PK:Own u32 3 1 bi (su.v.flatMap encI):=(h1.mono KD).own.le λc z I bP=>AX c z bP λe=>(fresh (qp c I)).2.2 e;have second:∀{Y LV jk:H} {t:U} {ff:av},(∀c z,u32 c=some z->c≠src->LV c=some z)->(∀c z,LV c=some z->c≠src->Y c=some z)->mY (H.no LV src) jk src t (m.take e4) d Y ff->C.kO (s.part e4 s.n s.c 2) Y (λ(sx:U) (EA:H)=>(H.le ub EA)/\(hY aH (yQ n0 b4) #[.slice sx.a sx.n sx.c] [.one .ptr] EA (λ(acs:ay bc) (mq:H)=>(H.le ub mq)/\(dd aH (dL 211 2 #[(0,.pointer (some ⟨ff.b,0,none⟩)),(1,.pointer acs)]) [.one .slice] mq (λ(mn:U) (gT:H)=>(H.le ub gT)/\(∀n49:N,(gT n49=none)->K (some ⟨n49,0,none⟩) (gT.ins n49 (.cells #[.int .i64 3,.slice bi.a bi.n bi.c,.slice none 0 0,.int .u64 (dk R),.int .u64 (dr R),.slice none 0 0,.slice none 0 0,.slice mn.a mn.n mn.c] 213 (0,0))))))))):=by
   intro Y LV jk t ff aa9 ajB I;have aC:∀c z,u32 c=some z->c≠src->Y c=some z:=λc z h1 h2=>ajB c z (aa9 c z h1 h2) h2;have aj9:=lub aC;refine spec.kO (axk (ayB aC)).1 (by show s.n-e4<=_;omega) λsx EA Oi _=>⟨aj9.trans Oi.le,Eh aC I.src Oi rl (by omega) (HI _ _) λmq cb ab v7=>?_⟩;have GO:∀c z,u32 c=some z->c≠src->mq c=some z:=λc z h1 h2=>v7 c z (aC c z h1 h2) h2;refine⟨lub GO,?_⟩;refine mo (WW ff.b cb.b) λg W=>?_;have pU:=H.b1 (u:=mq) (b:=g) (.cells [hy (some ⟨ff.b,0,none⟩),.pointer (some ⟨cb.b,0,none⟩)].toArray 167 (0,0)) W;have mk:=aJ.make (k:=1) (H.le.refl mq) W (cells:=[hy (some ⟨ff.b,0,none⟩),.pointer (some ⟨cb.b,0,none⟩)].toArray) (e:=167) (n:=2) (by omega) rfl;obtain⟨gT,OT⟩:∃gT,gT=mq.ins g (.cells [hy (some ⟨ff.b,0,none⟩),.pointer (some ⟨cb.b,0,none⟩)].toArray 167 (0,0)):=⟨_,rfl⟩;have Zc:gT g≠none:=by rw[OT,H.bh];simp
   rw[<-OT] at pU mk ⊢;refine⟨(lub GO).trans pU,λn49 Dv=>?_⟩;obtain⟨kq,iD⟩:∃bU:er,bU=⟨n49,3,bi,⟨none,0,0⟩,su.v,[],R,⟨none,0,0⟩,[],⟨some ⟨g,0,none⟩,2,2⟩⟩:=⟨_,rfl⟩;have fS:(bC #[.int .i64 3,.slice bi.a bi.n bi.c,.slice none 0 0,.int .u64 (dk R),.int .u64 (dr R),.slice none 0 0,.slice none 0 0,.slice (some ⟨g,0,none⟩) 2 2] 213 (0,0))=.cells (eS kq).toArray 213 (0,0):=by rw[iD];rfl
   show K (some ⟨n49,0,none⟩) (gT.ins n49 (bC #[.int .i64 3,.slice bi.a bi.n bi.c,.slice none 0 0,.int .u64 (dk R),.int .u64 (dr R),.slice none 0 0,.slice none 0 0,.slice (some ⟨g,0,none⟩) 2 2] 213 (0,0)));rw[fS];have zq:=H.b1 (u:=gT) (b:=n49) (.cells (eS kq).toArray 213 (0,0)) Dv;obtain⟨Iu,ajb⟩:∃Iu,Iu=gT.ins n49 (.cells (eS kq).toArray 213 (0,0)):=⟨_,rfl⟩;have key:=au Iu (.mk kq [ff,cb]);have d49:Iu n49=some (.cells (eS kq).toArray 213 (0,0)):=by rw[ajb];exact H.bh _ _ _
   rw[<-ajb] at zq ⊢;have YM:(av.mk kq [ff,cb]).b=n49:=by rw[iD];rfl
   rw[YM] at key;have T9:mq.le Iu:=pU.trans zq;have aeu:∀c z,u32 c=some z->c≠src->Iu c=some z:=λc z h1 h2=>T9 c z (GO c z h1 h2);have amL:=lub aeu;have T3:∀c,bi.aj=some c->u32 c≠none/\c≠src:=λc I=>⟨aco PK I,(fresh (qp c I)).2.1⟩;have KB:∀{a b:H},(∀c z,a c=some z->c≠src->b c=some z)->∀{c},a c≠none->c≠src->b c≠none:=λ{a b} h {c} I ag=>by obtain⟨z,bP⟩:=e9.1 I;rw[h c z bP ag];simp
   have DQ:∀{c},mq c≠none->gT c≠none:=λI e=>I (pU.none e);have abr:∀{c},gT c≠none->Iu c≠none:=λI e=>I (zq.none e);have al7:∀{c},mq c=none->c≠src:=λI e=>by obtain⟨oe,vW⟩:=ab.src;rw[e,vW] at I;cases I
   have ang:∀{c},H.no LV src c=none->c≠src->LV c=none:=λh ag=>by rw[KO ag] at h;exact h
   have aex:∀{c},H.no Y src c=none->c≠src->Y c=none:=λh ag=>by rw[KO ag] at h;exact h
   have amM:∀{Y:H},ub.le Y->∀{c},Y c=none->ub c=none:=λ{_} h {_} I=>H.le.none h I;have pR:(av.mk kq [ff,cb]).own=n49::((bi.aj.toList++ [g])++(ff.own++cb.own)):=by rw[av.rG,iD];simp[av.h,av.kids,er.dv,U.aj]
   have F2:(av.mk kq [ff,cb]).bM=(kq,[ff.b,cb.b])::(ff.bM++cb.bM):=by rw[av.iu];simp[av.h,av.kids]
   have Kz:∀c∈(bi.aj.toList++ [g])++(ff.own++cb.own),ub c=none/\gT c≠none/\c≠src:=λc cH=>by simp only[cN,so,fV] at cH;rcases cH with(cH|rfl)|cH|cH;obtain⟨cM,c6⟩:=T3 c cH;exact⟨(fresh (qp c cH)).1,DQ (KB GO cM c6),c6⟩;exact⟨(lub GO).none W,Zc,al7 W⟩;obtain⟨cM,c6,da⟩:=I.out c cH;exact⟨amM (lub aa9) (ang cM da),DQ (KB v7 c6 da),da⟩;obtain⟨cM,c6,da⟩:=ab.out c cH;exact⟨amM aj9 (aex cM da),DQ c6,da⟩
   refine key ⟨λy ah=>?_,?_,λc cH=>?_,?_,?_,λy ah r O=>?_,?_,λc z YY lj dD=>aeu c z (AX c z (zr c z (gw c z YY dD)) lj) dD,?_,?_,?_⟩;rw[F2] at ah;rcases cJ.1 ah with rfl|ah;subst iD;exact⟨d49,PK.le λc z c9 bP=>aeu c z bP (T3 c c9).2,Own.nil _ _ _,Own.nil _ _ _,λr O=>(by cases O),(mk.mono zq).own.cE⟩;rcases cN.1 ah with ah|ah;exact(I.one y ah).bN (λc z cH bP=>T9 c z (v7 c z bP (I.out c (ej.2 ⟨y,ah,cH⟩)).2.2)) λr O=>(s7 r (oa (I.rows y ah r O))).mono amL;exact(ab.one y ah).bN (λc z _ bP=>T9 c z bP) λr O=>(s7 r (ye (ab.rows y ah r O))).mono amL;rw[pR,hI];refine⟨λhm=>(Kz n49 hm).2.1 Dv,?_⟩;have eH:∀z:ay N,z.toList.Nodup:=λz=>by cases z<;>simp
   rw[gh,gh,gh];refine⟨⟨eH _,by simp,λa aE b eG e=>?_⟩,⟨I.nodup,ab.nodup,λa aE b eG e=>?_⟩,λa aE b eG e=>?_⟩;rw[fV] at eG;rw[so] at aE;rw[<-e] at eG;subst eG;obtain⟨cM,c6⟩:=T3 a aE;exact KB GO cM c6 W;subst e;obtain⟨_,c6,da⟩:=I.out a aE;exact c6 (aex (ab.out a eG).1 da);subst e;simp only[cN,so,fV] at aE eG;rcases aE with aE|rfl;obtain⟨cM,c6⟩:=T3 a aE;rcases eG with eG|eG;exact KB aa9 cM c6 (ang (I.out a eG).1 c6);exact KB aC cM c6 (aex (ab.out a eG).1 c6);rcases eG with eG|eG;obtain⟨_,c6,da⟩:=I.out a eG;exact KB v7 c6 da W;exact(ab.out a eG).2.1 W;rw[pR] at cH;rcases cJ.1 cH with rfl|cH;exact⟨(lub GO).none (pU.none Dv),by rw[d49];simp,al7 (pU.none Dv)⟩;obtain⟨cM,c6,da⟩:=Kz c cH;exact⟨cM,abr c6,da⟩;rw[av.hx,bF.all_eq,iD];show([]++bF.jS ([ff,cb].map av.bA)).Perm _;rw[nz];show(ff.bA.all++(cb.bA.all++ [])).Perm _;rw[ly];refine(I.all.append ab.all).trans ?_;rw[<-ek,u2];exact ad.map _;rw[av.hx];have dX:∀x,x∈(bF.mk kq.aD kq.bH kq.hi kq.cG (kq.rows.map az.bz) ([ff,cb].map av.bA)).all->x∈l.map az.bz:=λx J=>by rw[bF.all_eq] at J;subst iD;have fT:x∈[]++(ff.bA.all++(cb.bA.all++ [])):=J;rw[nz,ly] at fT;refine(ad.map az.bz).mem_iff.1 ?_;rcases cN.1 fT with fT|fT;obtain⟨r,O,rfl⟩:=bf.1 (I.all.mem_iff.1 fT);exact h7 (oa O);obtain⟨r,O,rfl⟩:=bf.1 (ab.all.mem_iff.1 fT);exact h7 (ye O)
   subst iD;refine .mk (kd [] []) (λx J=>ins [] [] x (dX x J)) λk hk=>?_;have dA:k∈[ff.bA,cb.bA]:=hk;simp only[cJ,qL,qM] at dA;rcases dA with rfl|rfl;exact I.ok;exact ab.ok;rw[F2] at ah;rcases cJ.1 ah with rfl|ah;subst iD;cases O;rcases cN.1 ah with ah|ah;exact ad.mem_iff.1 (oa (I.rows y ah r O));exact ad.mem_iff.1 (ye (ab.rows y ah r O));rw[F2,hX,ez];have aS:=I.size;have aB:=ab.size;omega;obtain⟨oe,vW⟩:=ab.src;exact⟨oe,T9 _ _ vW⟩;rw[av.hx,iD];refine .mk rfl λk hk=>?_;have dA:k∈[ff.bA,cb.bA]:=hk;simp only[cJ,qL,qM] at dA;rcases dA with rfl|rfl;exact I.od;exact ab.od;refine RG (.inr rfl) λk hk=>?_;simp only[cJ,qL,qM] at hk;rcases hk with rfl|rfl;exact I.bin;exact ab.bin
  have z0:∀c z,u32 c=some z->c≠src->u32 c=some z:=λ_ _ h _=>h;have left:∀{Q:U->H->Prop},(∀t fm,aJ u32 fm 52 2 t ((m.take e4).flatMap cR)->Q t fm)->C.kO (s.part 0 e4 s.c 2) u32 Q:=λ{Q} fb=>
   spec.kO (tl SA).1 (by show e4-0<=_;omega) λaq u' bP _=>fb aq u' bP
  have first:∀{t fm} {Q:ay bc->H->Prop},aJ u32 fm 52 2 t ((m.take e4).flatMap cR)->(∀Y ff,mY (H.no u32 src) fm src t (m.take e4) d Y ff->(∀c z,u32 c=some z->c≠src->Y c=some z)->Q (some ⟨ff.b,0,none⟩) Y)->hY aH (yQ n0 b4) #[.slice t.a t.n t.c] [.one .ptr] fm Q:=λjb fb=>
   Eh z0 oL jb Gk (by omega) (rN _ _) λu' n I aC=>fb u' n I aC
  refine⟨by decide,⟨by omega,by omega⟩,ub,mK,_,b6.c1,_,b6.c1,?_,?_⟩;refine QG ⟨mK,left λt fm jb=>⟨mK.trans jb.le,?_,?_⟩,?_⟩;exact first jb λY ff I aC=>⟨lub aC,Cc ⟨lub aC,second z0 aC I⟩⟩
  exact Cc ⟨mK.trans jb.le,first jb λY ff I aC=>⟨lub aC,second z0 aC I⟩⟩;exact Cc ⟨mK,left λt fm jb=>⟨mK.trans jb.le,first jb λY ff I aC=>⟨lub aC,second z0 aC I⟩⟩⟩;exact Cc ⟨mK,QG ⟨mK,left λt fm jb=>⟨mK.trans jb.le,first jb λY ff I aC=>⟨lub aC,second z0 aC I⟩⟩⟩⟩
end lS
end
namespace lS
section
variable{u ai ub u':H}{b:N}{h:er}{d:o}{s:U}{v q:M o}{f:H->Prop}{K:aK->o->H->Prop}{ks:M av}
def Mg:hn aH 276=ak:=by kernel_rfl
def WQ:hn aH 277=ak:=by kernel_rfl
def Xm{n0:N}{id:o}(bJ:ub.cell? ⟨n0,0,none⟩=some (.int .i64 id)):Rs ub (.func (.func 277) #[] #[.pointer (some ⟨n0,0,none⟩)]) λr=>decide (r.id=id):=λr v K aA au=>
 .inl ⟨_,_,_,rfl,hh WQ,aG.aee r.id r.s ⟨n0,0,none⟩ v K ⟨_,H.le.cell (show ub.le v from aA) bJ,au⟩⟩
def spec.drop{n0 b4:N}{id:o}(bJ:ub.cell? ⟨n0,0,none⟩=some (.int .i64 id))(c1:ub.cell? ⟨b4,0,none⟩=some (.func (.func 276) #[] #[.pointer (some ⟨n0,0,none⟩),.pointer (some ⟨b4,0,none⟩)])):
  ∀(n:av) {u:H} {K:H->Prop},ub.le u->(∀x∈n.bM,hM u x)->n.own.Nodup->(∀c∈n.own,ub c=none)->(∀x∈n.bM,∀r∈x.1.rows,Ints ub r.s r.v)->n.bM.length<=10000000->(∀u' n',IE id n u' n'->(∀c z,u c=some z->c∉n.own->u' c=some z)->(∀c,u c≠none->u' c≠none)->K u')->
   C.Wf (some ⟨n.b,0,none⟩) ⟨n0,0,none⟩ ⟨b4,0,none⟩ u K:=by
 intro n
 induction n using av.ind with
 |h n aM=>
  intro u K b9 o9 bS ig ln cI au;have bU:(n.h,n.kids.map av.b)∈n.bM:=by rw[av.iu];exact fW ..
  have h0:=o9 _ bU;have ab:n.b=n.h.b:=rfl;rw[av.rG] at bS ig;have nW:=bS;rw[gh] at nW;obtain⟨gp,ft,s8⟩:=nW;have OK:∀g,n.h.sr.aj=some g->g∈n.h.dv:=λg W=>by simp[er.dv,W]
  have OL:n.h.sr.aj≠some n.h.b:=λe=>by unfold er.dv at gp;rw[hI] at gp;exact gp.1 (by simp[e])
  have av0:n.kids.length<=10000000:=by
   have h1:n.bM.length=1+(n.kids.flatMap av.bM).length:=by rw[av.iu,hX];omega
   have h2:∀ks:M av,ks.length<=(ks.flatMap av.bM).length:=λks=>by
    induction ks with
    |nil=>simp|cons k ks GP=>rw[gy,ez,hX];have:=k.SP;omega
   have:=h2 n.kids;omega
  apply aG.Wf;refine⟨_,rfl,n.h.sr,H.ba h0.cell 6,?_⟩;refine spec.Cd h0.rws.f (Xm bJ) b9 (λg W=>ig g (iQ _ (OK g W))) λs2 j0 dI kJ ic=>?_;have A1:(n.h.rows.filter λr=>!decide (r.id=id))=n.h.rows.filter λr=>r.id !=id:=List.filter_congr λr _=>by by_cases e:r.id=id<;>simp[e]
  rw[A1] at dI;refine⟨_,rfl,?_⟩;have YU:j0 n.h.b=some (.cells (eS n.h).toArray 213 (0,0)):=ic _ _ h0.cell OL;refine VJ YU s2 (n.h.rows.filter λr=>r.id !=id) ?_;obtain⟨bQ,mc⟩:∃bQ:er,bQ={n.h with sr:=s2,rows:=n.h.rows.filter λr=>r.id !=id}:=⟨_,rfl⟩;rw[<-mc];have eG:bQ.b=n.h.b:=by rw[mc]
  have Nq:bQ.dv=n.h.dv:=by rw[mc];unfold er.dv;simp[kJ]
  obtain⟨fA,ry⟩:∃fA,fA=j0.ins n.h.b (.cells (eS bQ).toArray 213 (0,0)):=⟨_,rfl⟩;rw[<-ry];have lB:fA n.h.b=some (.cells (eS bQ).toArray 213 (0,0)):=by rw[ry];exact H.bh _ _ _
  have tX:∀c z,j0 c=some z->c≠n.h.b->fA c=some z:=λc z I al=>by rw[ry,H.bq _ _ al];exact I
  have gw:∀c z,u c=some z->c∉n.h.dv->fA c=some z:=λc z I al=>tX c z (ic c z I λe=>al (OK c e)) λe=>al (by rw[e];exact fW ..);have abF:∀c,u c≠none->fA c≠none:=λc I=>by by_cases e:c=n.h.b;rw[e,lB];simp;obtain⟨z,aa⟩:=e9.1 I;by_cases aB:n.h.sr.aj=some c;obtain⟨zB,mf⟩:=e9.1 (dE dI (g:=c) (by rw[kJ];exact aB));rw[tX c zB mf e];simp;rw[tX c z (ic c z aa aB) e];simp
  have vX:ub.le fA:=λc z I=>gw c z (b9 c z I) λhm=>by rw[ig c (iQ _ hm)] at I;cases I
  have PL:∀{e k:N} {s:U} {xs:M ap},Own u e k s xs->(∀g,s.aj=some g->g≠n.h.b/\n.h.sr.aj≠some g)->Own fA e k s xs:=λaa al=>aa.le λc z I hu=>tX c z (ic c z hu λe=>(al c I).2 e) (al c I).1;have j5:(∀g,n.h.bi.aj=some g->g≠n.h.b/\n.h.sr.aj≠some g)/\(∀g,n.h.fp.aj=some g->g≠n.h.b/\n.h.sr.aj≠some g)/\(∀g,n.h.db.aj=some g->g≠n.h.b/\n.h.sr.aj≠some g):=by unfold er.dv at gp;rw[hI] at gp;obtain⟨cM,c6⟩:=gp;have aN:∀g,g∈n.h.bi.aj.toList++n.h.fp.aj.toList++n.h.sr.aj.toList++n.h.db.aj.toList->g≠n.h.b:=λg W e=>cM (by rw[<-e];exact W);rw[gh,gh,gh] at c6;obtain⟨⟨⟨_,_,da⟩,_,fk⟩,_,pZ⟩:=c6;refine⟨λg W=>⟨aN g (by simp[W]),λe=>fk g (by simp[W]) g (by simp[e]) rfl⟩,λg W=>⟨aN g (by simp[W]),λe=>fk g (by simp[W]) g (by simp[e]) rfl⟩,λg W=>⟨aN g (by simp[W]),λe=>pZ g (by simp[e]) g (by simp[W]) rfl⟩⟩
  have Nj:∀tg,tg=n.kids.map av.b->hM fA (bQ,tg):=λtg Zu=>by subst Zu;subst mc;refine⟨lB,PL h0.bH j5.1,PL h0.hi j5.2.1,dI.own.le λc z I hu=>tX c z hu λe=>OL (by rw[<-kJ,I,e]),λr O=>(ln _ bU r (iT.1 O).1).mono vX,br.else h0.lY λg z W aa=>tX g z (ic g z aa λe=>(j5.2.2 g W).2 e) (j5.2.2 g W).1⟩
  have GA:bQ.db=n.h.db:=by rw[mc]
  refine⟨_,rfl,bQ.db,by rw[ab];exact H.ba lB 7,?_⟩;refine⟨λx w=>0<=x/\x<=n.kids.length/\(∀c z,fA c=some z->c∉n.kids.flatMap av.own->w c=some z)/\(∀c,fA c≠none->w c≠none)/\∃ds:M av,ds.length=x.toNat/\(∀(i:N) d k,ds[i]?=some d->n.kids[i]?=some k->IE id k w d)/\(∀(i:N) k,x.toNat<=i->n.kids[i]?=some k->∀y∈k.bM,hM w y),
   λx _=>((n.kids.length:o)-x).toNat,⟨by omega,by omega,λc z I _=>I,λc I=>I,[],rfl,λi d k aw=>by simp at aw,λi k _ hk y ah=>?_⟩,?_⟩
  obtain⟨jk,z2⟩:k.own ⊆ n.kids.flatMap av.own/\True:=⟨λc I=>ej.2 ⟨k,dK hk,I⟩,trivial⟩;have GN:y∈n.bM:=by rw[av.iu];exact gi _ (ej.2 ⟨k,dK hk,ah⟩)
  refine(o9 y GN).bN (λc z I aa=>gw c z aa λhm=>s8 c hm c (jk (ej.2 ⟨y,ah,I⟩)) rfl) λr O=>(ln y GN r O).mono vX;rintro x w ⟨bL,dC,ta,o8,ds,y7,r6,tc⟩;have k0:ub.le w:=λc z I=>ta c z (vX c z I) λhm=>by rw[ig c (lz _ hm)] at I;cases I
  have aaw:bQ.db.n=n.kids.length:=by rw[GA];have:=h0.lY.len;simp at this;omega
  have F8:∀{Y:N} {k:av},n.kids[Y]?=some k->(∀y∈k.bM,y∈n.bM)/\(∀c∈k.own,c∈n.kids.flatMap av.own):=λhk=>⟨λy ah=>by rw[av.iu];exact gi _ (ej.2 ⟨_,dK hk,ah⟩),λc I=>ej.2 ⟨_,dK hk,I⟩⟩;refine⟨λJ=>?_,λJ=>?_⟩;have eR:x.toNat<n.kids.length:=by omega
  obtain⟨k,hk⟩:∃k,n.kids[x.toNat]?=some k:=⟨_,cr eR⟩;have aav:br fA n.h.db 1 ((n.kids.map av.b).map λn=>.pointer (some ⟨n,0,none⟩)):=(Nj _ rfl).lY|>λh=>by rw[GA] at h;exact h
  have aay:br w n.h.db 1 ((n.kids.map av.b).map λn=>.pointer (some ⟨n,0,none⟩)):=br.else aav λg z W aa=>ta g z aa λhm=>s8 g (by simp[er.dv,W]) g hm rfl;have r9:((n.kids.map av.b).map λn=>hy (some ⟨n,0,none⟩))[x.toNat]?=some (.pointer (some ⟨k.b,0,none⟩)):=by simp[hk]
  obtain⟨p,ad,fS⟩:=aay.at'|>.resolve_left (λe=>by rw[e] at r9;simp at r9);have ow:=fS _ _ r9;obtain⟨b3,cu⟩:=F8 hk;have jU:k.own.Nodup:=ft.sublist (U2 (h7 (f:=av.own) (dK hk)));have OO:k.bM.length<=10000000:=by
   have h1:n.bM.length=1+(n.kids.flatMap av.bM).length:=by rw[av.iu,hX];omega
   have h2:k.bM.length<=(n.kids.flatMap av.bM).length:=(U2 (h7 (f:=av.bM) (dK hk))).length_le;omega
  refine⟨p,by rw[GA];exact ad,⟨bL,by omega⟩,_,by unfold a8;rw[B1];exact ow,_,k0.cell c1,.inl ⟨_,_,_,rfl,hh Mg,?_⟩⟩;refine aM k (dK hk) k0 (tc x.toNat k (cA _) hk) jU (λc I=>ig c (lz _ (cu c I))) (λy ah=>ln y (b3 y ah)) OO λw' d aw eC JP=>?_;have OV:ub.le w':=λc z I=>eC c z (k0 c z I) λe=>by rw[ig c (lz _ (cu c e))] at I;cases I
  have other:∀{i:N} {dT:av},n.kids[i]?=some dT->i≠x.toNat->∀c∈dT.own,c∉k.own:=λdA al c I=>aga ft dA hk al I;refine⟨⟨by omega,by omega⟩,⟨by omega,by omega,λc z I hm=>eC c z (ta c z I hm) λe=>hm (cu c e),λc I=>JP c (o8 c I),ds++ [d],by rw[ez,y7];simp;omega,λi lI dT r5 dA=>?_,λi dT hi dA y ah=>?_⟩,by dsimp only;omega⟩;by_cases e:i<ds.length;rw[qJ e] at r5;have hold:=r6 i lI dT r5 dA;have al:=other dA (by omega);refine⟨λy ah=>(hold.one y ah).bN (λc z I aa=>eC c z aa (al c (by rw[<-hold.own];exact ej.2 ⟨y,ah,I⟩))) λr O=>?_,hold.own,hold.b,hold.bA,hold.rows⟩;obtain⟨Y,aC,nr⟩:=hold.rows y ah r O;exact(ln Y ((F8 dA).1 Y aC) r nr).mono OV;have eO:i<(ds++ [d]).length:=(jM.1 r5).1;rw[ez,rO] at eO;have sN:i=x.toNat:=by omega
  rw[K2 (by omega),show i-ds.length=0 by omega] at r5;obtain rfl:=cU (show some d=some lI from r5);rw[sN,hk] at dA;obtain rfl:=cU dA;exact aw;refine(tc i dT (by omega) dA y ah).bN (λc z I aa=>eC c z aa (other dA (by omega) c (ej.2 ⟨y,ah,I⟩))) λr O=>(ln y ((F8 dA).1 y ah) r O).mono OV;have eR:x.toNat=n.kids.length:=by omega
  have aso:ds.length=n.kids.length:=by omega
  have Fl:∀{γ:Type} (f g:av->γ),(∀(i:N) d k,ds[i]?=some d->n.kids[i]?=some k->f d=g k)->ds.map f=n.kids.map g:=λf g ND=>by apply sk;intro i;rw[iR,iR];by_cases e:i<ds.length;have h1:ds[i]?=some ds[i]:=cr e;have h2:n.kids[i]?=some n.kids[i]:=cr (by omega);rw[h1,h2,tr,tr,ND i _ _ h1 h2];rw[iy (by omega),iy (by omega)];rfl
  have Mz:ds.map av.b=n.kids.map av.b:=Fl _ _ λi d k h1 h2=>(r6 i d k h1 h2).b;have XC:ds.flatMap av.own=n.kids.flatMap av.own:=by rw[Lp,Lp,Fl av.own av.own λi d k h1 h2=>(r6 i d k h1 h2).own]
  have Fq:ds.map av.bA=n.kids.map λk=>k.bA.del id:=Fl _ _ λi d k h1 h2=>(r6 i d k h1 h2).bA;have mem:∀d∈ds,∃k∈n.kids,IE id k w d:=λd aw=>by obtain⟨i,hi,rfl⟩:=pt aw;exact⟨_,kE (show i<n.kids.length by omega),r6 i _ _ (cr hi) (cr (by omega))⟩
  refine au w (.mk bQ ds) ⟨λy ah=>?_,?_,eG,?_,λy ah r O=>?_⟩ (λc z I hm=>?_) λc I=>o8 c (abF c I);rw[av.iu] at ah;rcases cJ.1 ah with rfl|ah;refine(Nj _ Mz).bN (λc z I aa=>ta c z aa λhm=>s8 c (by rw[<-Nq];exact I) c hm rfl) λr O=>?_;have dG:r∈n.h.rows:=by rw[mc] at O;exact(iT.1 O).1
  exact(ln _ bU r dG).mono k0;obtain⟨d,aw,ah⟩:=ej.1 ah;obtain⟨k,_,hk⟩:=mem d aw;exact hk.one y ah;rw[av.rG,av.rG];show bQ.dv++ds.flatMap av.own=_;rw[Nq,XC];rw[av.hx,av.hx,bF.del_eq];show bF.mk bQ.aD bQ.bH bQ.hi bQ.cG (bQ.rows.map az.bz) (ds.map av.bA)=bF.mk n.h.aD n.h.bH n.h.hi n.h.cG ((n.h.rows.map az.bz).filter λx=>x.1 !=id) ((n.kids.map av.bA).map (bF.del id));rw[Fq,ep,tw,mc];rfl;rw[av.iu] at ah;rcases cJ.1 ah with rfl|ah;have dG:r∈n.h.rows:=by have:r∈bQ.rows:=O;rw[mc] at this;exact(iT.1 this).1
  exact⟨_,bU,dG⟩;obtain⟨d,aw,ah⟩:=ej.1 ah;obtain⟨k,sa,hk⟩:=mem d aw;obtain⟨Y,aC,nr⟩:=hk.rows y ah r O;exact⟨Y,by rw[av.iu];exact gi _ (ej.2 ⟨k,sa,aC⟩),nr⟩;rw[av.rG] at hm;exact ta c z (gw c z I λh=>hm (iQ _ h)) λh=>hm (lz _ h)
def spec.cut{cZ src:N}{leaf:o}{l:M az}{K:ay bc->H->Prop}(A5:1<=leaf)(qU:ub.cell? ((cB cZ 0 none).add 1)=some (.int .i64 leaf))(ck:ub.cell? ((cB cZ 0 none).add 2)=some (.pointer (some ⟨src,0,none⟩)))(Bv:ub src=none)(dW:Ar u src)(vV:s.aj≠some src)
  (aa:aJ ub u 52 2 s (l.flatMap cR)) (aA:∀r∈l,Ints ub r.s r.v) (bE:hD l d) (h0:l=[]->∀u',u.le u'->K none u') (au:l≠[]->∀u' n,mY ub u src s l d u' n->K (some ⟨n.b,0,none⟩) u'):C.EF (some ⟨cZ,0,none⟩) s u K:=by
 have b9:=aa.le
 apply aG.EF
 intro n0 eX b4 gp
 obtain⟨fK,j7⟩:∃fK,fK=(bC #[hy (some ⟨cZ,0,none⟩)] 116 (0,0)):=⟨_,rfl⟩
 rw[<-j7] at gp ⊢
 have uw:n0≠b4:=λe=>by rw[<-e,H.bh] at gp;cases gp
 have Gi:u b4=none:=by rw[H.bq _ _ (dz uw)] at gp;exact gp
 refine mT (zs:=[.nilFunc]) rfl (by simp[cT]) ?_
 obtain⟨eH,kv⟩:∃eH,eH=(bC [yQ n0 b4].toArray 170 (0,0)):=⟨_,rfl⟩
 rw[<-kv]
 obtain⟨dc,sd⟩:∃dc,dc=(u.ins n0 fK).ins b4 eH:=⟨_,rfl⟩
 rw[<-sd]
 have zu:u.le dc:=by rw[sd];exact(H.b1 _ eX).trans (H.b1 _ gp)
 have d0:dc n0=some fK:=by rw[sd,H.bq _ _ uw,H.bh]
 have d1:dc b4=some eH:=by rw[sd,H.bh]
 obtain⟨gu,GI⟩:∃gu:H,gu=λc=>if c=n0 then some fK else if c=b4 then some eH else ub c:=⟨_,rfl⟩
 have gd:gu n0=some fK:=by rw[GI];exact a1 rfl
 have hE:gu b4=some eH:=by rw[GI];show(if b4=n0 then _ else if b4=b4 then _ else _)=_;rw[aF (dz uw),a1 rfl]
 have fM:∀{c},c≠n0->c≠b4->gu c=ub c:=λ{c} h1 h2=>by rw[GI];show(if c=n0 then _ else if c=b4 then _ else _)=_;rw[aF h1,aF h2]
 have qD:ub.le gu:=λc z I=>by rw[fM (λe=>by rw[e,b9.none eX] at I;cases I) (λe=>by rw[e,b9.none Gi] at I;cases I)];exact I
 have Pm:gu.le dc:=λc z I=>by by_cases e7:c=n0;rw[e7,gd] at I;rw[e7,d0];exact I;by_cases aS:c=b4;rw[aS,hE] at I;rw[aS,d1];exact I;rw[fM e7 aS] at I;exact zu c z (b9 c z I)
 have dI:aJ gu dc 52 2 s (l.flatMap cR):=⟨(aa.mono zu).own,Pm,λg W=>by rw[fM (λe=>dE aa W (by rw[e];exact eX)) (λe=>dE aa W (by rw[e];exact Gi))];exact aa.fresh g W⟩
 have b6:wX gu n0 b4 cZ src leaf:=⟨by rw[j7] at gd;exact H.ba gd 0,by rw[kv] at hE;exact H.ba hE 0,H.le.cell qD qU,H.le.cell qD ck⟩
 obtain⟨st,dW⟩:=dW
 have aAg:gu src=none:=by rw[fM (λe=>by rw[<-e,dW] at eX;cases eX) (λe=>by rw[<-e,dW] at Gi;cases Gi)];exact Bv
 refine⟨_,H.le.cell Pm b6.c1,.inl ⟨_,_,_,rfl,hh Mf,?_⟩⟩
 exact spec.Xc A5 l.length (cA _) b6 aAg ⟨st,zu _ _ dW⟩ vV dI (λr O=>(aA r O).mono qD) bE (λe=>h0 e dc zu) λal u' n I=>au al u' n ⟨I.one,I.nodup,λc hm=>⟨qD.none (I.out c hm).1,(I.out c hm).2⟩,I.all,I.ok,I.rows,I.size,λc z h1 h2 h3=>I.tY c z (zu c z h1) h2 h3,I.src,I.od,I.bin⟩
inductive bp where
 |tree|map|node|vec|src
structure aQ where
 an:o
 leaf:o
 src:N
 root:ay av
 m:N
 w:M (o×(U×M o))
 eV:N
def aQ.bY(T:aQ):o:=T.leaf
def fj(T:aQ):M ap:=[.int .i64 T.an,.int .i64 T.leaf,.pointer (some ⟨T.src,0,none⟩),.pointer (T.root.map λn=>⟨n.b,0,none⟩),.map (some T.m)]
def ea(w:M (o×(U×M o))):M (o×ap):=w.map λe=>(e.1,.slice e.2.1.a e.2.1.n e.2.1.c)
structure ed(af:N->ay bp)(u:H)(b:N)(T:aQ):Prop where
 cell:u b=some (.cells (fj T).toArray 174 (0,0))
 dN:af b=some .tree
 map:fx u T.m (ea T.w)
 dn:af T.m=some .map
 src:Ar u T.src
 h9:af T.src=some .src
 vec:∀e∈T.w,Ints u e.2.1 e.2.2/\∀g,e.2.1.aj=some g->af g=some .vec
 one:∀n,T.root=some n->(∀x∈n.bM,hM u x)/\n.own.Nodup/\(∀c∈n.own,af c=some .node)/\∀x∈n.bM,∀r∈x.1.rows,∀g,r.s.aj=some g->af g=some .vec
def ed.bN{af aX:N->ay bp}{T:aQ}(h:ed af u b T)(Z:∀c,af c≠none->aX c=af c)(hu:∀c z,u c=some z->af c≠none->u' c=some z):ed aX u' b T where
 cell:=hu _ _ h.cell (by rw[h.dN];simp)
 dN:=by rw[Z _ (by rw[h.dN];simp)];exact h.dN
 map:=h.map.else λz aa=>hu _ _ aa (by rw[h.dn];simp)
 dn:=by rw[Z _ (by rw[h.dn];simp)];exact h.dn
 src:=h.src.elim λst ag=>⟨st,hu _ _ ag (by rw[h.h9];simp)⟩
 h9:=by rw[Z _ (by rw[h.h9];simp)];exact h.h9
 vec e he:=by obtain⟨h1,h2⟩:=h.vec e he;exact⟨br.else h1 λg z W aa=>hu g z aa (by rw[h2 g W];simp),λg W=>by rw[Z g (by rw[h2 g W];simp)];exact h2 g W⟩
 one n ae:=by obtain⟨h1,h2,h3,a7⟩:=h.one n ae;refine⟨λx J=>(h1 x J).bN (λc z I aa=>hu c z aa (by rw[h3 c (ej.2 ⟨x,J,I⟩)];simp)) λr O=>br.else ((h1 x J).vec r O) λg z W aa=>hu g z aa (by rw[a7 x J r O g W];simp),h2,λc I=>by rw[Z c (by rw[h3 c I];simp)];exact h3 c I,λx J r O g W=>by rw[Z g (by rw[a7 x J r O g W];simp)];exact a7 x J r O g W⟩
def bN:yD ed:=⟨λh Z hu=>h.bN Z hu⟩
abbrev In:=mx ed
def lA(T:aQ):M j2:=match T.root with
 |none=>[]|some n=>n.bA.all
def aR(X:aQ):M (o×M o):=X.w.map λe=>(e.1,e.2.2)
structure dS(T:aQ):Prop where
 hl:1<=T.an/\T.an<=64
 BF:1<=T.leaf/\T.leaf<=64
 ids:∀e∈T.w,1<=e.1/\e.1<=1000000000
 vec:∀e∈T.w,(e.2.2.length:o)=T.an/\dj e.2.2
 small:T.w.length<=512
 rows:(lA T).Perm (aR T)
 ok:∀n,T.root=some n->ga T.an n.bA
 od:∀n,T.root=some n->lG 3 n.bA
 bin:∀n,T.root=some n->jR n.bA
 size:∀n,T.root=some n->n.bM.length<=1100*T.eV+2000
def iO:om aH 125 3 30 (.slice none 0 0):=⟨by kernel_rfl,by kernel_rfl,λ_=>by kernel_rfl⟩
def ME(T:aQ):(ea T.w).length=(aR T).length:=by simp[ea,aR]
def ed.rT{af:N->ay bp}{T:aQ}(h:ed af u b T):((aR T).map (·.1)).Nodup:=by obtain⟨es,cl,_,he⟩:=h.map;have:=he.nodup;unfold ea at this;rw[ep] at this;unfold aR;rw[ep];exact this
def spec.An{af:N->ay bp}{T:aQ}{K:o->H->Prop}(h:In ai u af b T)(au:K (aR T).length u):C.Wg (some ⟨b,0,none⟩) u K:=by apply aG.Wg;refine⟨λe=>(by cases e),λ_=>⟨_,rfl,_,H.ba h.aI.cell 4,wJ iO h.aI.map ?_⟩⟩;rw[ME];exact au
structure Am(ai u:H)(af:N->ay bp)(b:N)(T:aQ)(id:o)(u':H)(aX:N->ay bp)(bt:aQ):Prop where
 is:In ai u' aX b bt
 eP:hN u af u' aX
 ok:dS bt
 rows:aR bt=(aR T).filter λx=>x.1 !=id
 an:bt.an=T.an
 leaf:bt.leaf=T.leaf
 eV:bt.eV=T.eV
def sR(w:M (o×(U×M o)))(x:o):(fR (ea w) x=none/\x∉w.map (·.1))∨∃e,e∈w/\e.1=x/\fR (ea w) x=some (.slice e.2.1.a e.2.1.n e.2.1.c):=by
 cases h:fR (ea w) x with
 |none=>left;have:=yX.1 h;unfold ea at this;rw[ep] at this;exact⟨rfl,this⟩|some v=>right;have:=MS h;obtain⟨e,he,aB⟩:=bf.1 this;have cW:e.1=x:=ei sq aB;have fN:ec e.2.1.a e.2.1.n e.2.1.c=v:=ei tv aB;exact⟨e,he,cW,by rw[fN]⟩
def nv(T:aQ):(aR T).map (·.1)=T.w.map (·.1):=by unfold aR;rw[ep];rfl
def C1(w:M (o×(U×M o)))(id:o):(ea w).filter (λp=>p.1 !=id)=ea (w.filter λe=>e.1 !=id):=by unfold ea;rw[tw];rfl
def spec.vk{af:N->ay bp}{T:aQ}{id:o}(h:In ai u af b T)(aT:dS T)(iC:T.eV<=4000)(dV:id∉T.w.map (·.1)->∀u',u.le u'->K ax 0 u')
  (kz:id∈T.w.map (·.1)->∀u' aX bt,Am ai u af b T id u' aX bt->K ak 0 u'):C.LP (some ⟨b,0,none⟩) id u K:=by
 apply aG.LP
 intro n0 eX
 obtain⟨aU,hr⟩:∃aU,aU=u.ins n0 (.cells #[.int .i64 id] 3 (0,0)):=⟨_,rfl⟩
 have e3:u.le aU:=by rw[hr];exact H.b1 _ eX
 have d0:aU n0=some (.cells #[.int .i64 id] 3 (0,0)):=by rw[hr];exact H.bh _ _ _
 rw[<-hr]
 have i1:=mx.mono bN h e3
 have aI:=i1.aI
 refine⟨λe=>(by cases e),λ_=>⟨_,rfl,_,H.ba aI.cell 4,id,H.ba d0 0,?_⟩⟩
 rcases sR T.w id with⟨W,hm⟩|⟨e,he,ch,W⟩
 refine tB iO aI.map (ct:=.slice) (⟨none,0,0⟩:U) (by rw[W];rfl) ⟨λ_=>dV hm aU e3,λJ=>?_⟩
 rw[W] at J;cases J
 have b6:id∈T.w.map (·.1):=bf.2 ⟨e,he,ch⟩
 refine tB iO aI.map (ct:=.slice) e.2.1 (by rw[W];rfl) ⟨λJ=>?_,λ_=>?_⟩
 rw[W] at J;exact aW rfl J
 refine⟨_,rfl,_,H.ba aI.cell 4,id,H.ba d0 0,?_⟩
 refine Qv iO aI.map λz iw=>?_
 obtain⟨hJ,uG⟩:∃hJ,hJ=aU.ins T.m z:=⟨_,rfl⟩
 rw[<-uG] at iw ⊢
 have jH:∀{c},af c≠some .map->c≠T.m:=λI e=>I (by rw[e];exact aI.dn)
 have Mv:∀c z,aU c=some z->c≠T.m->hJ c=some z:=λc b5 I al=>by rw[uG,H.bq _ _ al];exact I
 have m10:hJ T.m=some z:=by rw[uG];exact H.bh _ _ _
 have ab6:n0≠T.m:=λe=>by have:=h.known T.m (by rw[h.aI.dn];simp);rw[<-e] at this;exact this eX
 intro n11 ux
 refine mT (zs:=[.nilFunc]) rfl (by simp[cT]) ?_
 obtain⟨rF,qz⟩:∃rF,rF=(bC [jv (.func 276) #[] #[.pointer (some ⟨n0,0,none⟩),.pointer (some ⟨n11,0,none⟩)]].toArray 324 (0,0)):=⟨_,rfl⟩
 rw[<-qz]
 obtain⟨gz,xO⟩:∃gz,gz=hJ.ins n11 rF:=⟨_,rfl⟩
 rw[<-xO]
 have rA:hJ.le gz:=by rw[xO];exact H.b1 _ ux
 have d11:gz n11=some rF:=by rw[xO];exact H.bh _ _ _
 have oY:∀c b5,aU c=some b5->c≠T.m->gz c=some b5:=λc b5 I al=>rA c b5 (Mv c b5 I al)
 have Ml:gz b=some (.cells (fj T).toArray 174 (0,0)):=oY b _ aI.cell (jH (by rw[aI.dN];simp))
 obtain⟨n,ae⟩:∃n,T.root=some n:=by
  cases O:T.root with
  |some n=>exact⟨n,rfl⟩|none=>have h1:=aT.rows.length_eq;unfold lA at h1;rw[O] at h1;have h2:=U3 he;simp[aR] at h1;omega
 obtain⟨cM,c6,da,fk⟩:=aI.one n ae
 have uj:gz.cell? ((cB b 0 none).add 3)=some (.pointer (some ⟨n.b,0,none⟩)):=by
  have J:fj T=[.int .i64 T.an,.int .i64 T.leaf,.pointer (some ⟨T.src,0,none⟩),.pointer (some ⟨n.b,0,none⟩),.map (some T.m)]:=by simp[fj,ae]
  rw[J] at Ml;exact H.ba Ml 3
 refine⟨_,rfl,_,by rw[qz] at d11;exact H.ba d11 0,_,uj,_,_,_,rfl,hh Mg,?_⟩
 obtain⟨ub,b9⟩:∃ub:H,ub=λc=>open Classical in if c∈n.own then none else gz c:=⟨_,rfl⟩
 have yu:∀{c},c∈n.own->ub c=none:=λI=>by rw[b9];exact a1 I
 have gu:∀{c},c∉n.own->ub c=gz c:=λI=>by rw[b9];exact aF I
 have lub:ub.le gz:=λc b5 I=>by by_cases e:c∈n.own;rw[yu e] at I;cases I;rw[gu e] at I;exact I
 have lK:∀{c},af c≠some .node->c∉n.own:=λI e=>I (da _ e)
 have ab7:n0∉n.own:=λe=>h.known n0 (by rw[da n0 e];simp) eX
 have ab8:n11∉n.own:=λe=>by have h1:=i1.known n11 (by rw[da n11 e];simp);obtain⟨b5,bP⟩:=e9.1 h1;have:=Mv n11 b5 bP (jH (by rw[da n11 e];simp));rw[ux] at this;cases this
 have o2:ub.cell? ⟨n0,0,none⟩=some (.int .i64 id):=by
  have z0:ub n0=some (.cells #[.int .i64 id] 3 (0,0)):=by rw[gu ab7];exact oY _ _ d0 ab6
  exact H.ba z0 0
 have ho:ub.cell? ⟨n11,0,none⟩=some (.func (.func 276) #[] #[.pointer (some ⟨n0,0,none⟩),.pointer (some ⟨n11,0,none⟩)]):=by
  have jk:ub n11=some rF:=by rw[gu ab8];exact d11
  rw[qz] at jk;exact H.ba jk 0
 have jc:∀x∈n.bM,hM gz x:=λx J=>(cM x J).bN (λc b5 I bP=>oY c b5 bP (jH (by rw[da c (ej.2 ⟨x,J,I⟩)];simp))) λr O=>br.else ((cM x J).vec r O) λg b5 W bP=>oY g b5 bP (jH (by rw[fk x J r O g W];simp))
 have ln:∀x∈n.bM,∀r∈x.1.rows,Ints ub r.s r.v:=λx J r O=>br.else ((cM x J).vec r O) λg b5 W bP=>by rw[gu (lK (by rw[fk x J r O g W];simp))];exact oY g b5 bP (jH (by rw[fk x J r O g W];simp))
 have cI:=aT.size n ae
 refine spec.drop o2 ho n lub jc c6 (λc I=>yu I) ln (by omega) λu16 n' aw eC jU=>?_
 have yR:∀c b5,aU c=some b5->c≠T.m->c∉n.own->u16 c=some b5:=λc b5 I al ZQ=>eC c b5 (oY c b5 I al) ZQ
 have WK:u16 b=some (.cells (fj T).toArray 174 (0,0)):=yR b _ aI.cell (jH (by rw[aI.dN];simp)) (lK (by rw[aI.dN];simp))
 have ZG:fx u16 T.m (ea (T.w.filter λe=>e.1 !=id)):=by rw[<-C1];exact iw.else λb5 bP=>eC _ _ (rA _ _ bP) (lK (by rw[aI.dn];simp))
 have aed:∀{s:U} {v:M o},Ints aU s v->(∀g,s.aj=some g->af g=some .vec)->Ints u16 s v:=λhi W=>br.else hi λg b5 ca bP=>yR g b5 bP (jH (by rw[W g ca];simp)) (lK (by rw[W g ca];simp))
 obtain⟨bt,et⟩:∃bt:aQ,bt={T with root:=some n',w:=T.w.filter λe=>e.1 !=id}:=⟨_,rfl⟩
 have A1:aR bt=(aR T).filter λx=>x.1 !=id:=by rw[et];unfold aR;rw[tw];rfl
 have abq:∀c,aU c≠none->u16 c≠none:=λc I=>jU c λe=>by by_cases aB:c=T.m;rw[aB,rA _ _ m10] at e;cases e;obtain⟨b5,bP⟩:=e9.1 I;rw[oY c b5 bP aB] at e;cases e
 refine kz b6 u16 af bt ⟨⟨?_,λc b5 I=>?_,h.out,λc I=>abq c (i1.known c I)⟩,⟨λc b5 I Z=>yR c b5 (e3 c b5 I) (jH (by rw[Z];simp)) (lK (by rw[Z];simp)),λc I=>.inl I⟩,?_,A1,by rw[et],by rw[et],by rw[et]⟩
 subst et
 refine⟨?_,aI.dN,ZG,aI.dn,aI.src.elim λst ag=>⟨st,yR _ _ ag (jH (by rw[aI.h9];simp)) (lK (by rw[aI.h9];simp))⟩,aI.h9,λgv gf=>?_,λeb ft=>?_⟩
 rw[WK]
 simp[fj,ae,aw.b]
 obtain⟨v1,v2⟩:=aI.vec gv (iT.1 gf).1
 exact⟨aed v1 v2,v2⟩
 obtain rfl:=cU (show some n'=some eb from ft)
 exact⟨aw.one,by rw[aw.own];exact c6,λc I=>da c (by rw[<-aw.own];exact I),λx J r O g W=>by obtain⟨y,ah,OC⟩:=aw.rows x J r O;exact fk y ah r OC g W⟩
 have AZ:=h.out
 have h1:=h.le c b5 I
 have Z:af c=none:=by
  cases e:af c with
  |none=>rfl|some t=>have:=h.out c (by rw[e];simp);rw[I] at this;cases this
 exact yR c b5 (e3 c b5 h1) (jH (by rw[Z];simp)) (lK (by rw[Z];simp))
 have Kb:=aT.ok n ae
 refine⟨by rw[et];exact aT.hl,by rw[et];exact aT.BF,λgv gf=>?_,λgv gf=>?_,?_,?_,λeb ft=>?_,λeb ft=>?_,λeb ft=>?_,λeb ft=>?_⟩
 rw[et] at gf;exact aT.ids gv (iT.1 gf).1
 rw[et] at gf ⊢;exact aT.vec gv (iT.1 gf).1
 rw[et];exact jg (wB _ _) aT.small
 rw[A1]
 have O:=aT.rows
 rw[et]
 unfold lA at O ⊢
 rw[ae] at O
 show n'.bA.all.Perm _
 rw[aw.bA,bF.Xh]
 exact O.filter _
 rw[et] at ft ⊢
 obtain rfl:=cU (show some n'=some eb from ft)
 rw[aw.bA]
 exact bF.afB Kb
 rw[et] at ft
 obtain rfl:=cU (show some n'=some eb from ft)
 rw[aw.bA]
 exact(aT.od n ae).del
 rw[et] at ft
 obtain rfl:=cU (show some n'=some eb from ft)
 rw[aw.bA]
 exact(aT.bin n ae).del
 rw[et] at ft ⊢
 obtain rfl:=cU (show some n'=some eb from ft)
 rw[<-av.KU,aw.bA,bF.afC,av.KU]
 exact cI
def pj{α:Type}:∀{a b:M α},a.Nodup->(∀x∈a,x∈b)->a.length<=b.length/\(b.length<=a.length->a.Perm b)
 | [],b,_,_=>⟨p2 _,λh=>by have:b=[]:=kN (by simpa using h);rw[this]⟩|x::a,b,ae,ag=>by
  obtain⟨s,t,rfl⟩:=acX (ag x (fW ..));rw[hI] at ae;have gr:∀y∈a,y∈s++t:=λy ah=>by have:=ag y (gi _ ah);rw[cN,cJ] at this;rw[cN];rcases this with h|rfl|h;exact .inl h;exact aW ah ae.1;exact .inr h
  obtain⟨h1,h2⟩:=pj ae.2 gr;rw[ez] at h1 h2;refine⟨by simp;omega,λar=>?_⟩;have:=h2 (by simp at ar;omega);exact(kc x this).trans B4.symm
def zz{α β:Type}{f:α->β}:∀{l:M α},(l.map f).Nodup->l.Nodup
 | [],_=>.nil|x::l,h=>by rw[gm,hI] at h;rw[hI];exact⟨λJ=>h.1 (h7 J),zz h.2⟩
def spec.Rows{af:N->ay bp}{T:aQ}{K:U->H->Prop}(h:In ai u af b T)(aT:dS T)(au:∀s ls u',rU u u' s ls->(ls.map az.bz).Perm (aR T)->(ls.Pairwise λa b=>a.id<=b.id)->K s u'):
  C.Wi (some ⟨b,0,none⟩) u K:=by
 have fB:=aT.small
 apply aG.Wi
 refine⟨λe=>(by cases e),λ_=>⟨_,rfl,_,H.ba h.aI.cell 4,LB iO h.aI.map λr z O xw=>?_⟩⟩
 have jf:=H.b1 (u:=u) (b:=r) z O
 refine⟨λs w=>∃rw:M az,na w r T.m (ea T.w) (rw.map λx=>(x.id,.slice x.s.a x.s.n x.s.c))/\aJ u w 52 2 s (rw.flatMap cR)/\s.aj≠some r/\∀x∈rw,(x.id,(x.s,x.v))∈T.w,λs _=>1000000-s.n,
  ⟨[],xw,aJ.nil jf _ _,by simp[U.aj],λx J=>(by cases J)⟩,?_⟩
 rintro s w ⟨rw,iM,aa,rq,kZ⟩
 have dw:s.n=rw.length:=gW fI (by decide) aa.own.cE
 have kX:rw.length<=512:=by have h1:=iM.sub;have h2:=iM.CW;rw[ep] at h2;have h3:(rw.map (·.id)).length<=(T.w.map (·.1)).length:=(pj h2 λx J=>by obtain⟨y,ah,rfl⟩:=bf.1 J;exact bf.2 ⟨_,kZ y ah,rfl⟩).1;rw[de,de] at h3;omega
 refine KN iM (λh5=>?_) λp hQ ad Bc pO=>?_
 have bX:en w s rw:=⟨aa.own.cE,λx J=>((h.aI.vec _ (kZ x J)).1).mono aa.le⟩
 have np:(rw.map az.bz).Perm (aR T):=by
  have bS:=iM.CW;rw[ep] at bS;have hlen:=h5.length_eq;simp only[de,ea] at hlen;have nW:(T.w.map (·.1)).Nodup:=by rw[<-nv];exact h.aI.rT
  have gJ:∀x∈rw.map az.bz,x∈aR T:=λx J=>by obtain⟨y,ah,rfl⟩:=bf.1 J;exact bf.2 ⟨_,kZ y ah,rfl⟩
  have s8:(rw.map az.bz).Nodup:=by have:(rw.map (·.id)).Nodup:=bS;rw[show rw.map (·.id)=(rw.map az.bz).map (·.1) by rw[ep];rfl] at this;exact zz this
  exact(pj s8 gJ).2 (by simp[aR];omega)
 refine spec.kV bX (λx J=>aT.ids _ (kZ x J)) (by omega) (λx J=>?_) λs2 ls dc ma eY dB=>?_
 have o0:(x.v.length:o)=T.an:=(aT.vec _ (kZ x J)).1
 have:=aT.hl
 omega
 exact au s2 ls dc ⟨ma.own.weaken aa.le,λr O=>(ma.inner r O).weaken aa.le,ma.eB,ma.apart⟩ (eY.trans np) dB
 obtain⟨e,he,Ou⟩:=bf.1 ad
 subst Ou
 refine I9 pO ?_
 have dI:aJ u (w.ins r hQ) 52 2 s (rw.flatMap cR):=aa.xU O rq hQ
 refine oc kF (yM e.1 e.2.1) (by decide) rfl (by simp[cT]) dI (by show s.n<_;omega) (by show(s.n+1)*_<=_;omega) λaq u' bP hW gf eu _=>⟨⟨rw++ [⟨e.1,e.2.1,e.2.2⟩],?_,?_,λaB=>?_,λx J=>?_⟩,?_⟩
 rw[ek]
 refine pO.else (λb5 mf=>gf _ _ mf λcW=>?_) λb5 mf=>gf _ _ mf rq
 have:=aa.fresh _ cW
 exact h.known T.m (by rw[h.aI.dn];simp) this
 rw[hz];exact bP
 rcases eu r aB with a7|a7
 exact rq a7
 rw[H.bh] at a7;cases a7
 rcases cN.1 J with J|J
 exact kZ x J
 obtain rfl:=fV.1 J
 exact he
 show 1000000-aq.n<1000000-s.n
 omega
def parts(X:aQ):M bF:=(X.root.map av.bA).toList
def aeo(X:aQ)(q:M o)(k bud:o):mB:=oO q k bud (parts X)
def il(X:aQ)(q:M o)(k bud:o):M bO:=yr q k (aeo X q k bud)
def fU(X:aQ)(q:M o)(k bud:o):M o:=dQ ((aeo X q k bud).seen.map (·.1))
def jF(X:aQ)(q:M o)(k bud:o):M (o×o×M o×M o×M o):=(n3 (aeo X q k bud)).map pE
def Hp(X:aQ):bF.jS (parts X)=lA X:=by
 unfold parts lA;cases X.root with
 |none=>rfl|some n=>show n.bA.all++ []=_;rw[ly]
def adT:kH aH 211=some (167,1,8,[.pointer none]):=by kernel_rfl
def WX(n:N):kG aH 211 1 #[(0,.pointer (some ⟨n,0,none⟩))]=some (167,[.pointer (some ⟨n,0,none⟩)]):=by kernel_rfl
def spec.Search{af:N->ay bp}{T:aQ}{t:U}{k bud:o}{K:U->U->U->o->H->Prop}(h:In ai u af b T)(aT:dS T)(iC:T.eV<=2700)(ht:Ints u t q)
  (di:gE q T.an k bud≠0->K ⟨none,0,0⟩ ⟨none,0,0⟩ ⟨none,0,0⟩ (gE q T.an k bud) u)
  (bE:gE q T.an k bud=0->∀aD ss sr rest u',jQ u u' aD ss sr (il T q k bud) (fU T q k bud) rest->rest.map cn.core=jF T q k bud->K aD ss sr 0 u'):C.Wj (some ⟨b,0,none⟩) t k bud u K:=by
 apply aG.Wj
 refine⟨λe=>(by cases e),λ_=>⟨_,rfl,_,H.ba h.aI.cell 0,spec.qq ht ⟨λal=>di al,λhe=>?_⟩⟩⟩
 obtain⟨aA,b3,cu,gd,hE⟩:=w3.1 he
 obtain⟨_,_,qA,Bx⟩:=oh aA
 have bE:=bE he
 have xk:(bF.jS (parts T)).length<=100000:=by rw[Hp,aT.rows.length_eq];have:=aT.small;simp[aR];omega
 have j8:∀x∈bF.jS (parts T),(x.2.length:o)=q.length/\dj x.2:=λx J=>by rw[Hp] at J;obtain⟨e,gf,rfl⟩:=bf.1 (aT.rows.mem_iff.1 J);obtain⟨v1,v2⟩:=aT.vec e gf;exact⟨by rw[v1,qA],v2⟩
 have cI:bF.hB (parts T)<=4000000:=by
  unfold parts;cases O:T.root with
  |none=>show 0<=_;omega|some n=>have:=aT.size n O;show n.bA.size+0<=_;rw[av.KU];omega
 have aad:∀p∈parts T,ga q.length p:=λp ad=>by
  unfold parts at ad;cases O:T.root with
  |none=>rw[O] at ad;cases ad
  |some n=>
   rw[O] at ad;obtain rfl:p=n.bA:=by simpa using ad
   rw[qA];exact aT.ok n O
 have walk:∀(s:U) (ms:M N) (Y:H),u.le Y->br Y s 1 (ms.map λn=>.pointer (some ⟨n,0,none⟩))->ms.length=(parts T).length->(∀(i:N) m p,ms[i]?=some m->(parts T)[i]?=some p->nc Y m p)->C.ua s t k bud Y (λob Qs fP py=>K ob Qs fP 0 py):=by intro s ms Y aC ag hlen ad;refine spec.ua ag hlen ad aad (ht.mono aC) Bx b3 cu gd hE cI xk j8 λaD ss sr R u' aE FN=>bE aD ss sr R u' ?_ FN;exact⟨aE.h.weaken aC,aE.s.weaken aC,aE.r.weaken aC,λr O=>⟨(aE.g r O).l.weaken aC,(aE.g r O).h.weaken aC,(aE.g r O).i.weaken aC⟩,aE.eB⟩
 obtain⟨sj,zg⟩:∃sj:ay bc,sj=T.root.map λn=>⟨n.b,0,none⟩:=⟨_,rfl⟩
 have Mo:u.cell? ((cB b 0 none).add 3)=some (.pointer sj):=by rw[zg];exact H.ba h.aI.cell 3
 refine⟨_,rfl,sj,Mo,λsZ=>?_,λal=>⟨_,rfl,sj,Mo,?_⟩⟩
 cases O:T.root with
 |some n=>rw[O] at zg;rw[sZ] at zg;cases zg
 |none=>exact walk ⟨none,0,0⟩ [] u (H.le.refl u) ⟨rfl,cA _,by decide,.inl rfl⟩ (by unfold parts;rw[O];rfl) λi m p hm=>by simp at hm
 cases O:T.root with
 |none=>rw[O] at zg;exact aW zg al
 |some n=>
  rw[O] at zg;rw[show sj=some ⟨n.b,0,none⟩ from zg];refine mo (WX n.b) λg W=>?_;obtain⟨cM,_⟩:=h.aI.one n O;have e3:=H.b1 (u:=u) (b:=g) (.cells [hy (some ⟨n.b,0,none⟩)].toArray 167 (0,0)) W;have mk:=aJ.make (k:=1) (H.le.refl u) W (cells:=[hy (some ⟨n.b,0,none⟩)].toArray) (e:=167) (n:=1) (by omega) rfl;refine walk _ [n.b] _ e3 mk.own.cE (by unfold parts;rw[O];rfl) λi m p hm ad=>?_;have hi:i=0:=by have:=(jM.1 hm).1;simpa using this
  subst hi;obtain rfl:n.b=m:=cU hm;have kx:p=n.bA:=by unfold parts at ad;rw[O] at ad;exact(cU ad).symm
  rw[kx];exact(Ap.part cM).mono e3
def QT{X:aQ}(h:dS X){k bud:o}(hk:1<=k)(ab:0<=bud)(aw:(q.length:o)=X.an){L:M az}(cX:(L.map az.bz).Perm (aR X))(aN:kk L q){rest:M cn}(O:rest.map cn.core=jF X q k bud):
  Sound L q k (il X q k bud) (fU X q k bud) rest/\((fU X q k bud).length:o)<=bud/\(((fU X q k bud).length:o)=bud∨(fU X q k bud).length=L.length∨Aj q k (il X q k bud) rest):=by
 refine aep ab hk (λp ad=>?_) aN ?_ O
 unfold parts at ad
 cases dG:X.root with
 |none=>rw[dG] at ad;cases ad
 |some n=>
  rw[dG] at ad;obtain rfl:p=n.bA:=by simpa using ad
  rw[aw];exact h.ok n dG
 rw[Hp]
 exact cX.trans h.rows.symm
def jr(l:M az)(an a:o):o:=if oJ l an≠0 then oJ l an else if a<1∨64<a then 1 else 0
structure EK(u:H)(l:M az)(hl a:o)(u':H)(dR:N)(af:N->ay bp)(T:aQ):Prop where
 is:In u u' af dR T
 ok:dS T
 rows:(aR T).Perm (l.map az.bz)
 an:T.an=hl
 leaf:T.leaf=a
 eV:T.eV=0
def xc(r:az):o×(U×M o):=(r.id,(r.s,r.v))
def QO{n src:N}{a:o}{p wk:ay bc}{m:ay N}(h:u n=some (.cells #[.int .i64 d,.int .i64 a,.pointer (some ⟨src,0,none⟩),.pointer p,.map m] 174 (0,0)))
  (Z:f (u.ins n (.cells #[.int .i64 d,.int .i64 a,.pointer (some ⟨src,0,none⟩),.pointer wk,.map m] 174 (0,0)))):H.aO u (ev (cB n 0 none) 3) [.pointer wk] f:=
 ⟨_,_,h,rfl,by simp[jh],by simp[cT],Z⟩
def spec.Build{l:M az}{an a eJ:o}{K:ay bc->o->H->Prop}(ag:en u s l)(di:jr l an a≠0->K none (jr l an a) u)
  (bE:jr l an a=0->∀u' dR af T,EK u l an a u' dR af T->K (some ⟨dR,0,none⟩) 0 u'):C.Q9 s an a eJ u K:=by
 have bad:∀Y,jr l an a=Y->Y≠0->K none Y u:=λY e aC=>by subst e;exact di aC
 apply aG.Q9
 refine spec.qt ag ⟨λal=>bad _ (by unfold jr;rw[a1 al]) al,λhe=>?_⟩
 have one:(a<1∨64<a)->K none 1 u:=λI=>bad 1 (by unfold jr;rw[aF (by simpa using he),a1 I]) (by decide)
 intro pA h2
 refine⟨λh=>one (.inl h),λac=>⟨λh=>one (.inr h),λa2=>h2 _ _ _ ?_⟩⟩
 have bE:=bE (by unfold jr;rw[aF (by simpa using he),aF (by omega)])
 clear bad one di h2 pA
 have fz:=B9.1 he
 obtain⟨Mr,Ms⟩:=fz.an
 have Zx:=fz.len
 apply aG.Ef
 intro n6 qy
 obtain⟨tH,Kj⟩:∃tH,tH=u.ins n6 (.cells #[.int .u64 eJ] 215 (0,0)):=⟨_,rfl⟩
 have zt:u.le tH:=by rw[Kj];exact H.b1 _ qy
 have d6:tH n6=some (.cells #[.int .u64 eJ] 215 (0,0)):=by rw[Kj];exact H.bh _ _ _
 rw[<-Kj]
 refine H6 λm pX hm iw=>?_
 have A7:u m=none:=zt.none hm
 have Sm:n6≠m:=λe=>by rw[<-e,d6] at hm;cases hm
 have qF:=H.b1 (u:=tH) (b:=m) pX hm
 obtain⟨iU,se⟩:∃iU,iU=tH.ins m pX:=⟨_,rfl⟩
 have NZ:iU m≠none:=by rw[se,H.bh];simp
 rw[<-se] at iw qF ⊢
 intro n8 nV
 have nX:n8≠m:=λe=>by rw[e] at nV;exact NZ nV
 have ZW:tH n8=none:=qF.none nV
 have vQ:u n8=none:=zt.none ZW
 have M4:n6≠n8:=λe=>by rw[<-e,d6] at ZW;cases ZW
 obtain⟨l1,rn⟩:∃l1,l1=(bC #[.int .i64 an,.int .i64 a,.pointer (some ⟨n6,0,none⟩),.pointer none,.map (some m)] 174 (0,0)):=⟨_,rfl⟩
 show C.kV s (iU.ins n8 (bC #[.int .i64 an,.int .i64 a,.pointer (some ⟨n6,0,none⟩),.pointer none,.map (some m)] 174 (0,0))) _
 rw[<-rn]
 have rD:=H.b1 (u:=iU) (b:=n8) l1 nV
 obtain⟨u8,pe⟩:∃u8,u8=iU.ins n8 l1:=⟨_,rfl⟩
 have uc:u8 n8=some l1:=by rw[pe];exact H.bh _ _ _
 rw[<-pe] at rD ⊢
 have Du:u8 m≠none:=λe=>NZ (rD.none e)
 have BI:u.le u8:=zt.trans (qF.trans rD)
 have d68:u8 n6=some (.cells #[.int .u64 eJ] 215 (0,0)):=rD _ _ (qF _ _ d6)
 refine spec.kV (ag.mono BI) fz.id (by omega) (λr O=>by have:=(fz.v r O).1;omega) λgM ls hJ bX ad qC=>?_
 have Jw:ls.length=l.length:=by simpa using ad.length_eq
 have A6:hD ls an:=by refine Ek fz.an (by omega) ?_ λp kx=>?_;rw[show ls.map (·.id)=(ls.map az.bz).map (·.1) by rw[ep];rfl,(ad.map (·.1)).nodup_iff,ep];exact fz.nodup;obtain⟨r,O,rfl⟩:=bf.1 (ad.mem_iff.1 kx);exact⟨(fz.id r O).1,(fz.id r O).2,(fz.v r O).1,(fz.v r O).2⟩
 have ti:=bX.own.le
 have agB:gM.n=ls.length:=bX.rws.len
 have Bm:gM.aj≠some m:=λe=>Du (bX.own.fresh m e)
 have OF:gM.aj≠some n8:=λe=>by have:=bX.own.fresh n8 e;rw[uc] at this;cases this
 have hq:∀r∈ls,r.s.aj≠some m:=λr O e=>Du ((bX.inner r O).fresh m e)
 have aal:∀r∈ls,r.s.aj≠some n8:=λr O e=>by have:=(bX.inner r O).fresh n8 e;rw[uc] at this;cases this
 have auM:gM.aj≠some n6:=λe=>by have:=bX.own.fresh n6 e;rw[d68] at this;cases this
 have aak:∀r∈ls,r.s.aj≠some n6:=λr O e=>by have:=(bX.inner r O).fresh n6 e;rw[d68] at this;cases this
 refine⟨λx w=>0<=x/\x<=gM.n/\fx w m (ea ((ls.take x.toNat).map xc))/\(∀c z,hJ c=some z->c≠m->w c=some z)/\w m≠none,λx _=>((gM.n:o)-x).toNat,⟨by omega,by omega,(iw.mono rD).mono ti,λc z I _=>I,λe=>Du (ti.none e)⟩,?_⟩
 rintro x w ⟨bL,dC,vN,pL,sa⟩
 have ud:w n8=some l1:=pL _ _ (ti _ _ uc) nX
 have afw:w n6=some (.cells #[.int .u64 eJ] 215 (0,0)):=pL _ _ (ti _ _ d68) Sm
 have vD:en w gM ls:=⟨br.else bX.own.own.cE λg z W aa=>pL g z aa λe=>Bm (by rw[W,e]),λr O=>br.else (bX.inner r O).ints λg z W aa=>pL g z aa λe=>hq r O (by rw[W,e])⟩
 refine⟨λJ=>?_,λJ=>?_⟩
 obtain⟨p,jd,r,O,bJ,c1,_⟩:=vD.at bL J
 have eR:x.toNat<ls.length:=by omega
 refine⟨p,jd,⟨bL,J⟩,_,bJ,_,c1,_,by rw[rn] at ud;exact H.ba ud 4,?_⟩
 have al:fR (ea ((ls.take x.toNat).map xc)) r.id=none:=yX.2 λoy=>by unfold ea at oy;rw[ep,ep] at oy;obtain⟨Y,aC,uK⟩:=bf.1 oy;have abb:Y.id=r.id:=uK;have bS:=A6.nodup;rw[<-u2 x.toNat ls,ek,gh] at bS;refine bS.2.2 Y.id (h7 aC) r.id (h7 ?_) abb;exact dK (i:=0) (by rw[uX,UZ];exact O)
 refine Ep iO vN al λz Gg=>⟨⟨by omega,by omega⟩,⟨by omega,by omega,?_,λc b5 I lj=>?_,by rw[H.bh];simp⟩,by dsimp only;omega⟩
 rw[show(x+1).toNat=x.toNat+1 by omega,gS,O,ek]
 unfold ea at Gg ⊢
 rw[ek]
 exact Gg
 rw[H.bq _ _ lj];exact pL c b5 I lj
 .rw[hR (by omega)] at vN;obtain⟨ub,b9⟩:∃ub,ub=H.no (H.nC w gM) n6:=⟨_,rfl⟩;have aAa:ub n6=none:=by rw[b9];exact Ul _ _
  have QW:∀{c},c≠n6->gM.aj≠some c->ub c=w c:=λh1 h2=>by rw[b9,KO h1,nD h2]
  have lub:ub.le w:=by rw[b9];exact(PA _ _).trans (Eo _ _)
  have Oo:aJ ub w 52 2 gM (ls.flatMap cR):=⟨bX.own.own.le λc z I aa=>pL c z aa λe=>Bm (by rw[I,e]),lub,λg W=>by rw[b9];refine(PA _ _).none ?_;unfold H.nC;exact a1 W⟩
  have Cp:ub n8=some l1:=by rw[QW (dz M4) OF];exact ud
  have Bw:∀r∈ls,Ints ub r.s r.v:=λr O=>br.else (vD.2 r O) λg z W aa=>by rw[QW (λe=>aak r O (by rw[W,e])) ((bX.eB r O).symm g W)];exact aa
  have rz:∀r∈ls,∀g,r.s.aj=some g->ub g≠none/\g≠n8/\g≠m/\g≠n6:=λr O g W=>by have aS:g≠m:=λe=>hq r O (by rw[W,e]);have nk:g≠n6:=λe=>aak r O (by rw[W,e]);refine⟨λe=>?_,λe=>aal r O (by rw[W,e]),aS,nk⟩;obtain⟨z,aa⟩:=e9.1 (dE (bX.inner r O) W);rw[QW nk ((bX.eB r O).symm g W),pL g z aa aS] at e;cases e
  have Q5:∀c z,u c=some z->w c=some z/\gM.aj≠some c:=λc z I=>⟨pL c z (ti c z (BI c z I)) (λe=>(by rw[e,A7] at I;cases I)),λe=>(by have:=bX.own.fresh c e;rw[BI c z I] at this;cases this)⟩;have EE:u.le ub:=λc z I=>by obtain⟨h1,h2⟩:=Q5 c z I;rw[QW (λe=>by rw[e,qy] at I;cases I) h2];exact h1
  have ad8:ub m≠none:=by rw[QW (dz Sm) Bm];exact sa
  have fin:∀(root:ay av) (ke:H),(∀c z,w c=some z->gM.aj≠some c->c≠n6->ke c=some z)->Ar ke n6->(∀n,root=some n->(∀x∈n.bM,hM ke x)/\n.own.Nodup/\(∀c∈n.own,ub c=none/\ke c≠none/\c≠n6)/\(∀x∈n.bM,∀r∈x.1.rows,r∈ls)/\ga an n.bA/\lG 3 n.bA/\jR n.bA/\n.bM.length+1<=2*ls.length)->
    (match root with|none=>([]:M j2)|some n=>n.bA.all).Perm (ls.map az.bz)->H.aO ke (ev (cB n8 0 none) 3) [.pointer (root.map λn=>⟨n.b,0,none⟩)] λkf=>K (some ⟨n8,0,none⟩) 0 kf:=by
   intro root ke f1 afZ f2 f3
   have M5:ke n8=some l1:=f1 _ _ ud OF (dz M4)
   rw[rn] at M5
   refine QO M5 ?_
   obtain⟨T,aT⟩:∃T:aQ,T=⟨an,a,n6,root,m,ls.map xc,0⟩:=⟨_,rfl⟩
   obtain⟨kf,GG⟩:∃kf,kf=ke.ins n8 (.cells #[.int .i64 an,.int .i64 a,.pointer (some ⟨n6,0,none⟩),.pointer (root.map λn=>⟨n.b,0,none⟩),.map (some m)] 174 (0,0)):=⟨_,rfl⟩
   rw[<-GG]
   have g1:∀c z,ke c=some z->c≠n8->kf c=some z:=λc z I al=>by rw[GG,H.bq _ _ al];exact I
   have BQ:∀n,root=some n->n8∉n.own/\m∉n.own/\∀r∈ls,∀g,r.s.aj=some g->g∉n.own:=λn ae=>by obtain⟨_,_,da,_⟩:=f2 n ae;exact⟨λe=>(by have:=(da n8 e).1;rw[Cp] at this;cases this),λe=>ad8 (da m e).1,λr O g W e=>(rz r O g W).1 (da g e).1⟩
   obtain⟨af,hV⟩:∃af:N->ay bp,af=λc=>open Classical in if c=n8 then some .tree else if c=m then some .map else if ∃n,root=some n/\c∈n.own then some .node else if ∃r∈ls,r.s.aj=some c then some .vec else if c=n6 then some .src else none:=⟨_,rfl⟩
   have gX:af n8=some .tree:=by rw[hV];exact a1 rfl
   have dy:af m=some .map:=by rw[hV];show(if m=n8 then _ else _)=_;rw[aF (dz nX),a1 rfl]
   have lL:∀n c,root=some n->c∈n.own->af c=some .node:=λn c ae I=>by obtain⟨aS,aB,_⟩:=BQ n ae;rw[hV];show(if c=n8 then _ else _)=_;rw[aF (λe=>aS (by rw[<-e];exact I)),aF (λe=>aB (by rw[<-e];exact I)),a1 ⟨n,ae,I⟩]
   have pY:∀r∈ls,∀g,r.s.aj=some g->af g=some .vec:=λr O g W=>by obtain⟨_,aS,aB,_⟩:=rz r O g W;rw[hV];show(if g=n8 then _ else _)=_;rw[aF aS,aF aB,aF (λ⟨n,ae,I⟩=>(BQ n ae).2.2 r O g W I),a1 ⟨r,O,W⟩]
   have acu:af n6=some .src:=by rw[hV];show(if n6=n8 then _ else _)=_;rw[aF M4,aF Sm,aF (λ⟨n,ae,I⟩=>((f2 n ae).2.2.1 n6 I).2.2 rfl),aF (λ⟨r,O,W⟩=>aak r O W),a1 rfl]
   have sj:∀c,af c≠none->c=n8∨c=m∨(∃n,root=some n/\c∈n.own)∨(∃r∈ls,r.s.aj=some c)∨c=n6:=λc I=>by rw[hV] at I;by_cases aS:c=n8;exact .inl aS;by_cases aB:c=m;exact .inr (.inl aB);by_cases cW:∃n,root=some n/\c∈n.own;exact .inr (.inr (.inl cW));by_cases fN:∃r∈ls,r.s.aj=some c;exact .inr (.inr (.inr (.inl fN)));by_cases gw:c=n6;exact .inr (.inr (.inr (.inr gw)));exact aW (by show(if c=n8 then _ else _)=_;rw[aF aS,aF aB,aF cW,aF fN,aF gw]) I
   have Q8:∀r∈ls,Ints kf r.s r.v:=λr O=>br.else (vD.2 r O) λg z W aa=>g1 g z (f1 g z aa ((bX.eB r O).symm g W) (rz r O g W).2.2.2) (rz r O g W).2.1
   have NM:aR T=ls.map az.bz:=by rw[aT];unfold aR;rw[ep];rfl
   have M1:kf n8=some (.cells (fj T).toArray 174 (0,0)):=by rw[GG,H.bh,aT];rfl
   have NY:fx kf m (ea (ls.map xc)):=vN.else λz aa=>g1 m z (f1 m z aa Bm (dz Sm)) (dz nX)
   refine bE kf n8 af T ⟨⟨⟨M1,gX,by rw[aT];exact NY,by rw[aT];exact dy,by rw[aT];exact afZ.elim λst dW=>⟨st,g1 _ _ dW M4⟩,by rw[aT];exact acu,λe kr=>?_,λn ae=>?_⟩,λc z I=>?_,λc I=>?_,λc I=>?_⟩,⟨by rw[aT];exact⟨Mr,Ms⟩,by rw[aT];exact⟨by show 1<=a;omega,by show a<=64;omega⟩,λe kr=>?_,λe kr=>?_,by rw[aT];show(ls.map xc).length<=512;rw[de];omega,?_,λn ae=>?_,λn ae=>(by rw[aT] at ae;exact(f2 n ae).2.2.2.2.2.1),λn ae=>(by rw[aT] at ae;exact(f2 n ae).2.2.2.2.2.2.1),λn ae=>?_⟩,by rw[NM];exact ad,by rw[aT],by rw[aT],by rw[aT]⟩
   rw[aT] at kr
   obtain⟨r,O,rfl⟩:=bf.1 kr
   exact⟨Q8 r O,pY r O⟩
   rw[aT] at ae
   obtain⟨cM,c6,da,fk,_⟩:=f2 n ae
   obtain⟨aS,_,_⟩:=BQ n ae
   refine⟨λx J=>(cM x J).bN (λc z I aa=>g1 c z aa λe=>aS (by rw[<-e];exact ej.2 ⟨x,J,I⟩)) λr O=>Q8 r (fk x J r O),c6,λc I=>lL n c ae I,λx J r O g W=>pY r (fk x J r O) g W⟩
   obtain⟨h1,h3⟩:=Q5 c z I
   exact g1 c z (f1 c z h1 h3 λe=>by rw[e,qy] at I;cases I) λe=>by rw[e,vQ] at I;cases I
   rcases sj c I with rfl|rfl|⟨n,ae,o3⟩|⟨r,O,pb⟩|rfl
   exact vQ
   exact A7
   exact EE.none ((f2 n ae).2.2.1 c o3).1
   exact BI.none ((bX.inner r O).fresh c pb)
   exact qy
   rcases sj c I with rfl|rfl|⟨n,ae,o3⟩|⟨r,O,pb⟩|rfl
   rw[M1];simp
   obtain⟨_,_,a7,_⟩:=NY
   rw[a7];simp
   obtain⟨z,aa⟩:=e9.1 ((f2 n ae).2.2.1 c o3).2.1
   rw[g1 c z aa λe=>(BQ n ae).1 (by rw[<-e];exact o3)];simp
   obtain⟨z,aa⟩:=e9.1 (dE (bX.inner r O) pb)
   obtain⟨_,aS,aB,nk⟩:=rz r O c pb
   rw[g1 c z (f1 c z (pL c z aa aB) ((bX.eB r O).symm c pb) nk) aS];simp
   obtain⟨st,dW⟩:=afZ
   rw[g1 c _ dW M4];simp
   rw[aT] at kr
   obtain⟨r,O,rfl⟩:=bf.1 kr
   exact A6.id r O
   rw[aT] at kr ⊢
   obtain⟨r,O,rfl⟩:=bf.1 kr
   exact A6.v r O
   rw[NM,aT]
   exact f3
   rw[aT] at ae ⊢
   exact(f2 n ae).2.2.2.2.1
   rw[aT] at ae ⊢
   have:=(f2 n ae).2.2.2.2.2.2.2
   show n.bM.length<=1100*0+2000
   omega
  rw[rn] at Cp;refine spec.cut (src:=n6) (by omega) (H.ba Cp 1) (H.ba Cp 2) aAa ⟨_,afw⟩ auM Oo Bw A6 (λe7 u' lm=>?_) λal u' n I=>?_;exact fin none u' (λc z I _ _=>lm c z I) ⟨_,lm _ _ afw⟩ (λn ae=>by cases ae) (by rw[e7];exact .refl _);exact fin (some n) u' (λc z c9 lj Sj=>I.tY c z c9 lj Sj) I.src (λn' hW=>by obtain rfl:=cU hW;exact⟨I.one,I.nodup,I.out,I.rows,I.ok,I.od,I.bin,I.size⟩) I.all
def iK(h:er)(v:M o):er:={h with cG:=if h.cG<fE h.bH v h.bH.length then fE h.bH v h.bH.length else h.cG}
def WR(fo:h.aD=3)(ad:ga d (av.mk h ks).bA):1<=d/\d<=64/\h.hi=[]/\dj h.bH/\(h.bH.length:o)=d/\mw h.cG:=by have h1:=ad.kd;rw[av.hx] at h1;obtain⟨aw,_,_,ag⟩:=h1;rcases ag with⟨e,_⟩|⟨e,_⟩|⟨_,e⟩;have:h.aD=1:=e;omega;have:h.aD=2:=e;omega;exact⟨aw.1,aw.2,e.1,e.2.1,e.2.2.1,e.2.2.2⟩
def aqC(h:er)(v:M o):h.cG<=(iK h v).cG/\fE h.bH v h.bH.length<=(iK h v).cG:=by unfold iK;by_cases e:h.cG<fE h.bH v h.bH.length;simp only[a1 e];omega;simp only[aF e];omega
def X0(fo:h.aD=3)(ad:ga d (av.mk h ks).bA)(aA:dj v)(DI:(v.length:o)=d):ga d (av.mk (iK h v) ks).bA/\mZ ((av.mk (iK h v) ks).bA.hA []) v:=by
 obtain⟨d1,d2,NH,hE,fM,w4⟩:=WR fo ad;have h2:=ad.ins;have h3:=ad.kids;rw[av.hx] at h2 h3;obtain⟨g1,g2⟩:=aqC h v;have AI:mw (iK h v).cG:=by unfold iK;by_cases e:h.cG<fE h.bH v h.bH.length;simp only[a1 e];exact QM hE aA (by omega);simp only[aF e];exact w4
 have abe:mZ ((av.mk (iK h v) ks).bA.hA []) v:=by rw[av.hx];refine⟨λe=>?_,λ_=>g2⟩;have:h.aD=2:=e;omega
 refine⟨?_,abe⟩;rw[av.hx];refine .mk ⟨⟨d1,d2⟩,p4,λx J=>(by cases J),.inr (.inr ⟨fo,NH,hE,fM,AI⟩)⟩ (λx J=>?_) h3;have fT:x∈(bF.mk h.aD h.bH h.hi h.cG (h.rows.map az.bz) (ks.map av.bA)).all:=J;obtain⟨_,Y⟩:=h2 x fT;refine⟨λe=>?_,λ_=>Int.le_trans (Y fo) g1⟩;have:h.aD=2:=e;omega
def azi(I:u h.b=some (.cells (eS h).toArray 213 (0,0)))(r:o)
  (Z:f (u.ins h.b (.cells (eS {h with cG:=r}).toArray 213 (0,0)))):H.aO u ((cB h.b 0 none).add 3) [.int .u64 (dk r),.int .u64 (dr r)] f:=by
 exact⟨_,_,I,rfl,by simp[eS,jh],by simp[cT],Z⟩
def spec.grow{tg:M N}{K:o->o->H->Prop}(aA:Ints ub s v)(b9:ub.le u)(jc:hM u (h,tg))(bS:h.dv.Nodup)(ig:∀c∈h.dv,ub c=none)(Tr:∀r∈h.rows,Ints ub r.s r.v)(zc:dj h.bH)(rz:dj v)(h1:h.bH.length=v.length)(h0:1<=v.length)(DF:mw h.cG)
  (au:∀x y u',hM u' (iK h v,tg)->(∀c z,u c=some z->c∉h.dv->u' c=some z)->(∀c,u c≠none->u' c≠none)->K x y u'):C.Rb (some ⟨h.b,0,none⟩) s u K:=by
 have fS:u h.b=some (.cells (eS h).toArray 213 (0,0)):=jc.cell
 apply aG.Rb
 refine⟨_,rfl,h.bi,H.ba fS 1,spec.lD jc.bH.f.ints (aA.mono b9) zc (by show 1<=h.bH.length;omega) rz h1 λx y J ah hw=>⟨_,rfl,_,H.ba fS 3,_,H.ba fS 4,spec.mr ah (BG _) ?_⟩⟩
 have hw:fl x y=fE h.bH v h.bH.length:=hw
 rw[q0,hw]
 by_cases e:h.cG<fE h.bH v h.bH.length
 refine⟨λ_=>⟨_,rfl,?_⟩,λae=>aW ?_ ae⟩
 obtain⟨ex,vy⟩:=CC J ah
 rw[hw] at ex vy
 have W:iK h v={h with cG:=fE h.bH v h.bH.length}:=by unfold iK;rw[a1 e]
 have key:H.aO u ((cB h.b 0 none).add 3) [.int .u64 (dk (fE h.bH v h.bH.length)),.int .u64 (dr (fE h.bH v h.bH.length))] λgz=>K x y gz:=by
  refine azi fS _ ?_;rw[<-W];obtain⟨w,k2⟩:∃w,w=u.ins h.b (.cells (eS (iK h v)).toArray 213 (0,0)):=⟨_,rfl⟩;rw[<-k2];have sP:∀c z,u c=some z->c≠h.b->w c=some z:=λc z I al=>by rw[k2,H.bq _ _ al];exact I
  have k0:ub.le w:=λc z I=>sP c z (b9 c z I) λe=>by rw[e,ig h.b (fW ..)] at I;cases I
  have cb:∀g,(h.bi.aj=some g∨h.fp.aj=some g∨h.sr.aj=some g∨h.db.aj=some g)->g≠h.b:=λg W e=>by unfold er.dv at bS;rw[hI] at bS;refine bS.1 ?_;rw[<-e,cN,cN,cN];rcases W with e|e|e|e;exact .inl (.inl (.inl (by rw[e];simp)));exact .inl (.inl (.inr (by rw[e];simp)));exact .inl (.inr (by rw[e];simp));exact .inr (by rw[e];simp)
  refine au x y w ⟨?_,jc.bH.le λc z I aa=>sP c z aa (cb c (.inl I)),jc.hi.le λc z I aa=>sP c z aa (cb c (.inr (.inl I))),jc.rws.le λc z I aa=>sP c z aa (cb c (.inr (.inr (.inl I)))),λr O=>(Tr r O).mono k0,br.else jc.lY λc z I aa=>sP c z aa (cb c (.inr (.inr (.inr I))))⟩ (λc z I hm=>sP c z I λe=>hm (by rw[e];exact fW ..)) λc I=>?_;show w h.b=_;rw[k2];exact H.bh _ _ _;by_cases aB:c=h.b;rw[aB,k2,H.bh];simp;obtain⟨z,aa⟩:=e9.1 I;rw[sP c z aa aB];simp
 rw[<-ex,<-vy] at key
 exact key
 rw[aF (by omega),a1 e]
 decide
 have W:iK h v=h:=by unfold iK;rw[aF e]
 refine⟨λad=>aW ad ?_,λ_=>au x y u (by rw[W];exact jc) (λc z I _=>I) λc I=>I⟩
 rw[aF e]
 split<;>decide
structure tP(ai u:H)(af:N->ay bp)(b:N)(T:aQ)(id:o)(v:M o)(u':H)(aX:N->ay bp)(bt:aQ):Prop where
 is:In ai u' aX b bt
 eP:hN u af u' aX
 ok:dS bt
 rows:(aR bt).Perm ((id,v)::(aR T).filter λx=>x.1 !=id)
 an:bt.an=T.an
 leaf:bt.leaf=T.leaf
 eV:bt.eV<=T.eV+1
structure EQ(aU:H)(af:N->ay bp)(b:N)(T:aQ)(id:o)(s:U)(v:M o)(u':H)(r:av):Prop where
 cell:u' b=some (.cells (fj {T with root:=some r}).toArray 174 (0,0))
 map:fx u' T.m (ea (T.w++ [(id,(s,v))]))
 src:∃st,u' T.src=some (.cells #[.int .u64 st] 215 (0,0))
 sv:Ints u' s v
 db:∀g,s.aj=some g->aU g=none/\u' g≠none
 bN:∀c z,aU c=some z->af c=none∨af c=some .vec->u' c=some z
 kn:∀c,aU c≠none->af c≠some .node->u' c≠none
 one:∀x∈r.bM,hM u' x
 nodup:r.own.Nodup
 own:∀c∈r.own,(af c=some .node∨(aU c=none/\s.aj≠some c))/\u' c≠none
 rws:∀x∈r.bM,∀y∈x.1.rows,∀g,y.s.aj=some g->af g=some .vec∨s.aj=some g
 all:r.bA.all.Perm ((id,v)::lA T)
 ok:ga T.an r.bA
 od:lG 3 r.bA
 bin:jR r.bA
 size:r.bM.length<=1100*(T.eV+1)+2000
def EQ.ade{aU:H}{af:N->ay bp}{T:aQ}{id:o}{r:av}(f:EQ aU af b T id s v u' r)(h:In ai aU af b T)(aT:dS T)(ch:1<=id/\id<=1000000000)(aA:(v.length:o)=T.an/\dj v)(ar:T.w.length<512):
  ∃aX bt,In ai u' aX b bt/\hN aU af u' aX/\dS bt/\(aR bt).Perm ((id,v)::aR T)/\bt.an=T.an/\bt.leaf=T.leaf/\bt.eV<=T.eV+1:=by
 obtain⟨bt,et⟩:∃bt:aQ,bt={T with root:=some r,w:=T.w++ [(id,(s,v))],eV:=T.eV+1}:=⟨_,rfl⟩
 obtain⟨aX,hV⟩:∃aX:N->ay bp,aX=λc=>open Classical in if c∈r.own then some .node else if s.aj=some c then some .vec else if af c=some .node then none else af c:=⟨_,rfl⟩
 have cM:∀c∈r.own,aX c=some .node:=λc I=>by rw[hV];exact a1 I
 have c6:∀c,s.aj=some c->aX c=some .vec:=λc I=>by
  have dV:c∉r.own:=λhm=>by rcases(f.own c hm).1 with e|e;exact h.known c (by rw[e];simp) (f.db c I).1;exact e.2 I
  rw[hV];show(if c∈r.own then _ else _)=_;rw[aF dV,a1 I]
 have da:∀c t,af c=some t->t≠.node->aX c=some t:=λc t I ht=>by
  have hk:=h.known c (by rw[I];simp);have dV:c∉r.own:=λhm=>by rcases(f.own c hm).1 with e|e;rw[I] at e;exact ht (cU e);exact hk e.1
  have xF:s.aj≠some c:=λe=>hk (f.db c e).1;rw[hV];show(if c∈r.own then _ else _)=_;rw[aF dV,aF xF,aF (by rw[I];exact λe=>ht (cU e)),I]
 have fk:∀c,aX c≠none->c∈r.own∨s.aj=some c∨(af c≠none/\af c≠some .node):=λc I=>by by_cases aS:c∈r.own;exact .inl aS;by_cases aB:s.aj=some c;exact .inr (.inl aB);by_cases cW:af c=some .node;exact aW (by rw[hV];show(if c∈r.own then _ else _)=_;rw[aF aS,aF aB,a1 cW]) I;refine .inr (.inr ⟨λe=>I ?_,cW⟩);rw[hV];show(if c∈r.own then _ else _)=_;rw[aF aS,aF aB,aF cW,e]
 have aI:=h.aI
 refine⟨aX,bt,⟨⟨by rw[et];exact f.cell,da _ _ aI.dN (by simp),by rw[et];exact f.map,by rw[et];exact da _ _ aI.dn (by simp),by rw[et];exact f.src,by rw[et];exact da _ _ aI.h9 (by simp),λe he=>?_,λn ae=>?_⟩,λc z I=>?_,λc I=>?_,λc I=>?_⟩,⟨λc z I Z=>f.bN c z I (.inl Z),λc I=>?_⟩,
  ⟨by rw[et];exact aT.hl,by rw[et];exact aT.BF,λe he=>?_,λe he=>?_,?_,?_,λn ae=>?_,λn ae=>?_,λn ae=>?_,λn ae=>?_⟩,?_,by rw[et],by rw[et],by rw[et];exact cA _⟩
 rw[et] at he
 rcases cN.1 he with he|he
 obtain⟨v1,v2⟩:=aI.vec e he
 exact⟨br.else v1 λg z W aa=>f.bN g z aa (.inr (v2 g W)),λg W=>da g _ (v2 g W) (by simp)⟩
 rw[fV.1 he]
 exact⟨f.sv,c6⟩
 rw[et] at ae
 obtain rfl:=cU ae
 exact⟨f.one,f.nodup,cM,λx J y ah g W=>(f.rws x J y ah g W).elim (λe=>da g _ e (by simp)) λe=>c6 g e⟩
 refine f.bN c z (h.le c z I) (.inl ?_)
 cases e:af c with
 |none=>rfl
 |some t=>have:=h.out c (by rw[e];simp);rw[I] at this;cases this
 rcases fk c I with e|e|e
 rcases(f.own c e).1 with e|e
 exact h.out c (by rw[e];simp)
 exact h.le.none e.1
 exact h.le.none (f.db c e).1
 exact h.out c e.1
 rcases fk c I with e|e|e
 exact(f.own c e).2
 exact(f.db c e).2
 exact f.kn c (h.known c e.1) e.2
 rcases fk c I with e|e|e
 rcases(f.own c e).1 with e|e
 exact .inl (by rw[e];simp)
 exact .inr e.1
 exact .inr (f.db c e).1
 exact .inl e.1
 rw[et] at he
 rcases cN.1 he with he|he
 exact aT.ids e he
 rw[fV.1 he];exact ch
 rw[et] at he ⊢
 rcases cN.1 he with he|he
 exact aT.vec e he
 rw[fV.1 he];exact aA
 rw[et]
 show(T.w++ [(id,(s,v))]).length<=512
 rw[ez]
 simp only[hX,mi]
 omega
 rw[et]
 show r.bA.all.Perm ((T.w++ [(id,(s,v))]).map λe=>(e.1,e.2.2))
 rw[ek]
 exact f.all.trans ((kc _ aT.rows).trans (mR _ _).symm)
 rw[et] at ae ⊢
 obtain rfl:=cU ae
 exact f.ok
 rw[et] at ae
 obtain rfl:=cU ae
 exact f.od
 rw[et] at ae
 obtain rfl:=cU ae
 exact f.bin
 rw[et] at ae ⊢
 obtain rfl:=cU ae
 exact f.size
 rw[et]
 show((T.w++ [(id,(s,v))]).map λe=>(e.1,e.2.2)).Perm _
 rw[ek]
 exact mR _ _
def rY(h:er):h.dv.Perm (h.sr.aj.toList++(h.b::(h.bi.aj.toList++h.fp.aj.toList++h.db.aj.toList))):=by unfold er.dv;refine wy (kc _ ?_) B4.symm;generalize h.bi.aj.toList++h.fp.aj.toList=a;generalize h.sr.aj.toList=r;generalize h.db.aj.toList=k;rw[n5];exact ac0 a r k
def WS(ae:h.dv.Nodup)(rows:M az)(ag:∀g,s.aj=some g->h.sr.aj=some g∨g∉h.dv):({h with sr:=s,rows:=rows}:er).dv.Nodup:=by
 have h1:=(rY h).nodup_iff.1 ae;rw[(rY _).nodup_iff];rw[gh] at h1 ⊢;obtain⟨_,h3,a7⟩:=h1;refine⟨?_,h3,λc I ni c9 e=>?_⟩;show s.aj.toList.Nodup;cases s.aj<;>simp;subst e;have I:s.aj=some c:=by simpa using I
 rcases ag c I with bK|bK;exact a7 c (by rw[bK];simp) c c9 rfl;exact bK ((rY h).mem_iff.2 (lz _ c9))
def abQ(ad:ga d (av.mk h []).bA){id:o}{sv:U}(b6:mZ ((av.mk h []).bA.hA []) v):ga d (av.mk {h with sr:=s,rows:=h.rows++ [⟨id,sv,v⟩]} []).bA/\(av.mk {h with sr:=s,rows:=h.rows++ [⟨id,sv,v⟩]} []).bA.all.Perm ((id,v)::(av.mk h []).bA.all):=by
 have aS:(av.mk {h with sr:=s,rows:=h.rows++ [⟨id,sv,v⟩]} []).bA.all=(av.mk h []).bA.all++ [(id,v)]:=by rw[av.tm,av.tm,av.bM,av.bM,av.mH];simp[az.bz]
 have h1:=ad.kd;have h2:=ad.ins;refine⟨.mk h1 (λx J=>?_) λk hk=>(by rw[av.hx] at hk;cases hk),by rw[aS];exact mR _ _⟩;rw[aS] at J;rcases cN.1 J with J|J;exact h2 x J;rw[fV.1 J];exact b6
def adK{h1 h2:er}{p:N}(I:u p=some (.cells (eS h1).toArray 213 (0,0)))(Z:f (u.ins p (.cells (eS h2).toArray 213 (0,0)))):
  H.aO u (cB p 0 none) [.int .i64 h2.aD,.slice h2.bi.a h2.bi.n h2.bi.c,.slice h2.fp.a h2.fp.n h2.fp.c,.int .u64 (dk h2.cG),.int .u64 (dr h2.cG),.slice none 0 0,.slice h2.sr.a h2.sr.n h2.sr.c,.slice h2.db.a h2.db.n h2.db.c] f:=
 ⟨_,_,I,rfl,by simp[eS],by simp[cT],by
  have e:wr (eS h1).toArray 0 [.int .i64 h2.aD,.slice h2.bi.a h2.bi.n h2.bi.c,.slice h2.fp.a h2.fp.n h2.fp.c,.int .u64 (dk h2.cG),.int .u64 (dr h2.cG),.slice none 0 0,.slice h2.sr.a h2.sr.n h2.sr.c,.slice h2.db.a h2.db.n h2.db.c]=(eS h2).toArray:=by simp[wr,eS]
  show f (u.ins p (.cells (wr (eS h1).toArray 0 _) _ (0,0)));rw[e];exact Z⟩
def spec.leaf{leaf:o}{bd:N->Prop}{n0:av}{aY:M kj}{src:N}{id:o}{sv:U}{Fin:H->Prop}(w:Way 3 ub u d v (λc=>c≠src) bd n0 aY (.mk h []))(A5:1<=leaf)(qU:ub.cell? ((cB b 0 none).add 1)=some (.int .i64 leaf))(ck:ub.cell? ((cB b 0 none).add 2)=some (.pointer (some ⟨src,0,none⟩)))(rr:∃st,u src=some (.cells #[.int .u64 st] 215 (0,0)))(JC:jR (mN aY (.mk h [])).bA)
  (Kg:Ints ub sv v) (fz:hD (h.rows++ [⟨id,sv,v⟩]) d) (b6:mZ ((av.mk h []).bA.hA []) v) (uo:∀u' r,Down 3 ub u' d (id,v) (λc=>c≠src) (λy=>∀g,y.s.aj=some g->bd g∨sv.aj=some g) n0 r 1100->jR r.bA->(∃st,u' src=some (.cells #[.int .u64 st] 215 (0,0)))->Fin u'):
  (dd aH (dL 22 1 #[(0,(c3 #[(cY cq id),(ec sv.a sv.n sv.c)]))]) [(bg.one aL.slice)] u (λ(Cb:U) (Iw:H)=>(H.le u Iw)/\(dd aH (ey #[22,22] 22 #[(ec h.sr.a h.sr.n h.sr.c),(ec Cb.a Cb.n Cb.c)]) [(bg.one aL.slice)] Iw (λ(H2:U) (u64:H)=>∃Qh:bc,((some (cB h.b 0 none))=(some Qh))/\(H.aO u64 (ev Qh 6) [(ec H2.a H2.n H2.c)] (λ(hK:H)=>∃Qi:bc,((some (cB h.b 0 none))=(some Qi))/\(∃Qj:bc,((some (cB b 0 none))=(some Qj))/\(∃yl:U,((H.cell? hK (ev Qi 6))=(some (ec yl.a yl.n yl.c)))/\(∃ID:o,((H.cell? hK (ev Qj 1))=(some (cY cq ID)))/\(((ID<(yl.n:o))->∃Qk:bc,((some (cB h.b 0 none))=(some Qk))/\(∃ym:U,((H.cell? hK (ev Qk 6))=(some (ec ym.a ym.n ym.c)))/\(C.EF (some (cB b 0 none)) ym hK (λ(acv:(ay bc)) (kg:H)=>∃pu:bc,(acv=(some pu))/\(∃Rh:o,((H.cell? kg pu)=(some (cY cq Rh)))/\(∃u6:U,((H.cell? kg (ev pu 1))=(some (ec u6.a u6.n u6.c)))/\(∃u7:U,((H.cell? kg (ev pu 2))=(some (ec u7.a u7.n u7.c)))/\(∃Ri:o,((H.cell? kg (ev pu 3))=(some (cY bR Ri)))/\(∃Rj:o,((H.cell? kg (ev pu 4))=(some (cY bR Rj)))/\(∃u9:U,((H.cell? kg (ev pu 5))=(some (ec u9.a u9.n u9.c)))/\(∃va:U,((H.cell? kg (ev pu 6))=(some (ec va.a va.n va.c)))/\(∃qR:U,((H.cell? kg (ev pu 7))=(some (ec qR.a qR.n qR.c)))/\(∃Ql:bc,((some (cB h.b 0 none))=(some Ql))/\(H.aO kg Ql [(cY cq Rh),(ec u6.a u6.n u6.c),(ec u7.a u7.n u7.c),(cY bR Ri),(cY bR Rj),(ec u9.a u9.n u9.c),(ec va.a va.n va.c),(ec qR.a qR.n qR.c)] (λ(og:H)=>Fin og)))))))))))))))/\((¬(ID<(yl.n:o)))->Fin hK))))))))))):=by
 obtain⟨jc,bS,ig,ln,fo⟩:=w.head
 obtain⟨amb,Tv⟩:=rr
 have QV:ub src=none:=by
  cases e:ub src with
  |none=>rfl|some z=>exact aW rfl (w.known src (by rw[e];simp))
 have qb:src∉h.dv:=λhm=>(ig src hm).2.2 rfl
 have fS:u h.b=some (.cells (eS h).toArray 213 (0,0)):=jc.cell
 have hO:aJ ub u 52 2 h.sr (h.rows.flatMap cR):=⟨jc.rws,w.base,λg W=>(ig g (by simp[er.dv,W])).1⟩
 have dw:h.sr.n=h.rows.length:=gW fI (by decide) hO.own.cE
 have kX:=fz.len
 rw[ez] at kX
 simp only[hX,mi] at kX
 have aN:h.sr.aj≠some h.b:=λe=>by have h1:=(rY h).nodup_iff.1 bS;rw[gh] at h1;exact h1.2.2 h.b (by rw[e];simp) h.b (fW ..) rfl
 have Gt:∀g,(h.bi.aj=some g∨h.fp.aj=some g∨h.db.aj=some g)->g∈h.dv/\g≠h.b/\h.sr.aj≠some g:=λg W=>by
  have h1:=(rY h).nodup_iff.1 bS;rw[gh] at h1;have h2:g∈h.bi.aj.toList++h.fp.aj.toList++h.db.aj.toList:=by rw[cN,cN];rcases W with e|e|e;exact .inl (.inl (by rw[e];simp));exact .inl (.inr (by rw[e];simp));exact .inr (by rw[e];simp)
  exact⟨(rY h).mem_iff.2 (lz _ (gi _ h2)),λe=>(hI.1 h1.2.1).1 (by rw[<-e];exact h2),λe=>h1.2.2 g (by rw[e];simp) g (gi _ h2) rfl⟩
 refine Aa kF (yM id sv) (by decide) rfl (by simp[cT]) hO (by omega) (by rw[dw];show(h.rows.length+1)*_<=_;omega) λaq u64 bP hW gf eu _=>?_
 have bP:aJ ub u64 52 2 aq ((h.rows++ [(⟨id,sv,v⟩:az)]).flatMap cR):=by rw[hz];exact bP
 have sc:aq.aj≠some h.b:=λe=>by rcases eu _ e with e|e;exact aN e;rw[fS] at e;cases e
 have YT:u64 h.b=some (.cells (eS h).toArray 213 (0,0)):=gf _ _ fS aN
 refine⟨_,rfl,VJ YT aq (h.rows++ [⟨id,sv,v⟩]) ?_⟩
 obtain⟨g1,iv⟩:∃g1:er,g1={h with sr:=aq,rows:=h.rows++ [⟨id,sv,v⟩]}:=⟨_,rfl⟩
 have MP:g1.b=h.b:=by rw[iv]
 rw[<-iv]
 obtain⟨hK,GH⟩:∃hK,hK=u64.ins h.b (.cells (eS g1).toArray 213 (0,0)):=⟨_,rfl⟩
 rw[<-GH]
 have w6:hK h.b=some (.cells (eS g1).toArray 213 (0,0)):=by rw[GH];exact H.bh _ _ _
 have f66:∀c z,u64 c=some z->c≠h.b->hK c=some z:=λc z I al=>by rw[GH,H.bq _ _ al];exact I
 have Fi:∀c z,u c=some z->c≠h.b->h.sr.aj≠some c->hK c=some z:=λc z I h2 h3=>f66 c z (gf c z I h3) h2
 have wb:h.b∈h.dv:=fW ..
 have zv:∀{g},h.sr.aj=some g->g∈h.dv:=λ{g} e=>by simp[er.dv,e]
 have w9:∀c z,u c=some z->c∉h.dv->hK c=some z:=λc z I hm=>Fi c z I (λe=>hm (by rw[e];exact wb)) λe=>hm (zv e)
 have Bt:ub.le hK:=λc z I=>w9 c z (w.base c z I) λhm=>by rw[(ig c hm).1] at I;cases I
 have Hn:aJ ub hK 52 2 aq ((h.rows++ [(⟨id,sv,v⟩:az)]).flatMap cR):=⟨bP.own.le λc z I aa=>f66 c z aa λe=>sc (by rw[<-e];exact I),Bt,bP.fresh⟩
 have Mm:hK.cell? ((cB h.b 0 none).add 6)=some (.slice aq.a aq.n aq.c):=by
  have:g1.sr=aq:=by rw[iv]
  have jE:hK.cell? ((cB h.b 0 none).add 6)=some (.slice g1.sr.a g1.sr.n g1.sr.c):=H.ba w6 6;rw[this] at jE;exact jE
 have si:(av.mk h []).own=h.dv:=by unfold av.own;rw[av.bM,av.mH];simp
 have sf:∀r∈h.rows++ [(⟨id,sv,v⟩:az)],Ints ub r.s r.v/\∀g,r.s.aj=some g->bd g∨sv.aj=some g:=λr O=>by rcases cN.1 O with O|O;exact⟨(ln r O).1,λg W=>.inl ((ln r O).2 g W)⟩;rw[fV.1 O];exact⟨Kg,λg W=>.inr W⟩
 refine⟨_,rfl,_,rfl,aq,Mm,leaf,H.le.cell Bt qU,λ_=>?_,λ_=>?_⟩
 have adr:hK src=some (.cells #[.int .u64 amb] 215 (0,0)):=w9 _ _ Tv qb
 have QJ:aq.aj≠some src:=λe=>by rcases eu _ e with e|e;exact qb (zv e);rw[Tv] at e;cases e
 obtain⟨mV,oC⟩:∃mV:H,mV=λc=>if c=src then none else H.nC hK aq c:=⟨_,rfl⟩
 have Cq:∀{c},c≠src->mV c=H.nC hK aq c:=λ{c} I=>by rw[oC];exact aF I
 have amS:mV src=none:=by rw[oC];exact a1 rfl
 have aAh:mV.le hK:=λc z I=>by by_cases e:c=src;rw[e,amS] at I;cases I;rw[Cq e] at I;exact Eo _ _ c z I
 have BJ:ub.le mV:=λc z I=>by rw[Cq (λe=>by rw[e,QV] at I;cases I),nD (λe=>by rw[bP.fresh c e] at I;cases I)];exact Bt c z I
 refine⟨_,rfl,aq,Mm,spec.cut (ub:=mV) (src:=src) A5 (H.le.cell BJ qU) (H.le.cell BJ ck) amS ⟨_,adr⟩ QJ ⟨Hn.own,aAh,λg W=>by rw[Cq (λe=>QJ (by rw[<-e];exact W))];exact a1 W⟩ (λr O=>((sf r O).1).mono BJ) fz (λe=>aW e (by simp)) λ_ kg eb I=>?_⟩
 obtain⟨bU,dx⟩:=eb
 have o9:=I.one (bU,dx.map av.b) (by rw[av.bM];exact fW ..)
 have lV:kg bU.b=some (.cells (eS bU).toArray 213 (0,0)):=o9.cell
 refine⟨_,rfl,_,H.ba lV 0,bU.bi,H.ba lV 1,bU.fp,H.ba lV 2,_,H.ba lV 3,_,H.ba lV 4,⟨none,0,0⟩,H.ba lV 5,bU.sr,H.ba lV 6,bU.db,H.ba lV 7,_,rfl,?_⟩
 have W3:kg h.b=some (.cells (eS g1).toArray 213 (0,0)):=I.tY _ _ w6 sc (λe=>qb (by rw[<-e];exact wb))
 refine adK (h2:=bU) W3 ?_
 obtain⟨g2,gQ⟩:∃g2:er,g2={bU with b:=h.b}:=⟨_,rfl⟩
 have Xw:eS bU=eS g2:=by rw[gQ];rfl
 rw[Xw]
 obtain⟨og,Bs⟩:∃og,og=kg.ins h.b (.cells (eS g2).toArray 213 (0,0)):=⟨_,rfl⟩
 rw[<-Bs]
 have q6:∀c z,kg c=some z->c≠h.b->og c=some z:=λc z c9 al=>by rw[Bs,H.bq _ _ al];exact c9
 have A8:h.b∉(av.mk bU dx).own:=λhm=>by have:=(I.out _ hm).1;rw[Cq (λe=>qb (by rw[<-e];exact wb)),nD sc,w6] at this;cases this
 have BP:(av.mk bU dx).own=bU.b::((bU.bi.aj.toList++bU.fp.aj.toList++bU.sr.aj.toList++bU.db.aj.toList)++dx.flatMap av.own):=by rw[av.rG];rfl
 have PJ:(av.mk g2 dx).own=h.b::((bU.bi.aj.toList++bU.fp.aj.toList++bU.sr.aj.toList++bU.db.aj.toList)++dx.flatMap av.own):=by rw[av.rG,gQ];rfl
 have FP:(av.mk g2 dx).bM=(g2,dx.map av.b)::av.mH dx:=by rw[av.bM]
 have xp:(av.mk bU dx).bM=(bU,dx.map av.b)::av.mH dx:=by rw[av.bM]
 have D3:(av.mk g2 dx).bA=(av.mk bU dx).bA:=by rw[av.hx,av.hx,gQ];rfl
 have nW:=I.nodup
 have adO:∀c∈(av.mk g2 dx).own,c=h.b∨c∈(av.mk bU dx).own:=λc cH=>by rw[PJ] at cH;rcases cJ.1 cH with e|e;exact .inl e;exact .inr (by rw[BP];exact gi _ e)
 have MB:∀c z,u c=some z->c≠src->c∉(av.mk h []).own->og c=some z:=λc z c9 xF hm=>by rw[si] at hm;refine q6 c z (I.tY c z (w9 c z c9 hm) (λe=>?_) xF) λe=>hm (by rw[e];exact wb);rcases eu c e with e|e;exact hm (zv e);rw[c9] at e;cases e
 have OU:ub.le og:=λc z c9=>MB c z (w.base c z c9) (λe=>by rw[e,QV] at c9;cases c9) λhm=>by rw[si] at hm;rw[(ig c hm).1] at c9;cases c9
 have abB:∀{x:er×M N},hM kg x->(∀c∈x.1.dv,c≠h.b)->(∀r∈x.1.rows,r∈h.rows++ [(⟨id,sv,v⟩:az)])->hM og x:=λJ ab O=>J.bN (λc z cH aa=>q6 c z aa (ab c cH)) λr hq=>((sf r (O r hq)).1).mono OU
 refine uo og _ ?CW (Ut aY (n':=.mk g2 dx) JC (by rw[D3];exact I.bin)) (I.src.elim λst dW=>⟨st,q6 _ _ dW λe=>qb (by rw[e];exact wb)⟩)
 refine(Way.down w (n':=.mk g2 dx) (by rw[show(av.mk g2 dx).b=g2.b from rfl,gQ];rfl) (λx J=>?_) ?_ (λc z c9 xF hm=>MB c z c9 xF hm) (λc cH=>?_) (λx J y ah=>?_) (λy ah g W=>.inl (ah g W)) ?_ (by rw[D3];exact I.ok) (by rw[D3];exact I.od) ?_)
 rw[FP] at J
 rcases cJ.1 J with rfl|J
 have aC:∀g,(bU.bi.aj=some g∨bU.fp.aj=some g∨bU.sr.aj=some g∨bU.db.aj=some g)->g≠h.b:=λg W e=>A8 (by rw[BP,<-e];refine gi _ (iQ _ ?_);rw[cN,cN,cN];rcases W with e|e|e|e;exact .inl (.inl (.inl (by rw[e];simp)));exact .inl (.inl (.inr (by rw[e];simp)));exact .inl (.inr (by rw[e];simp));exact .inr (by rw[e];simp))
 have Gw:∀r∈bU.rows,r∈h.rows++ [(⟨id,sv,v⟩:az)]:=λr O=>I.rows (bU,dx.map av.b) (by rw[xp];exact fW ..) r O
 rw[gQ]
 refine⟨?_,o9.bH.le λc z kp aa=>q6 c z aa (aC c (.inl kp)),o9.hi.le λc z kp aa=>q6 c z aa (aC c (.inr (.inl kp))),o9.rws.le λc z kp aa=>q6 c z aa (aC c (.inr (.inr (.inl kp)))),λr O=>((sf r (Gw r O)).1).mono OU,br.else o9.lY λc z kp aa=>q6 c z aa (aC c (.inr (.inr (.inr kp))))⟩
 show og h.b=_
 rw[Bs,H.bh,gQ]
 have fT:x∈(av.mk bU dx).bM:=by rw[xp];exact gi _ J
 exact abB (I.one x fT) (λc cH e=>A8 (by rw[<-e];exact ej.2 ⟨x,fT,cH⟩)) (I.rows x fT)
 rw[PJ,hI]
 rw[BP,hI] at nW
 exact⟨λhm=>A8 (by rw[BP];exact gi _ hm),nW.2⟩
 rcases adO c cH with rfl|cH
 exact⟨.inl (by rw[si];exact wb),by rw[Bs,H.bh];simp⟩
 obtain⟨cM,c6,da⟩:=I.out c cH
 rw[Cq da] at cM
 refine⟨?_,?_⟩
 by_cases e:aq.aj=some c
 rcases eu c e with e|e
 exact .inl (by rw[si];exact zv e)
 exact .inr ⟨e,da⟩
 rw[nD e] at cM
 cases J:u c with
 |none=>exact .inr ⟨rfl,da⟩
 |some z=>left;rw[si];by_cases hm:c∈h.dv;exact hm;rw[w9 c z J hm] at cM;cases cM
 obtain⟨z,aa⟩:=e9.1 c6
 rw[q6 c z aa (λe=>A8 (by rw[<-e];exact cH))];simp
 rw[FP] at J
 rcases cJ.1 J with rfl|J
 exact(sf y (I.rows (bU,dx.map av.b) (by rw[xp];exact fW ..) y (by rw[gQ] at ah;exact ah))).2
 exact(sf y (I.rows x (by rw[xp];exact gi _ J) y ah)).2
 rw[D3]
 refine I.all.trans ?_
 rw[ek,av.tm,av.bM,av.mH]
 simp only[gy,HM,ly]
 exact mR _ _
 have:=I.size
 rw[xp] at this
 rw[FP]
 rw[ez] at this
 simp only[hX,mi] at this ⊢
 omega
 have ar:=abQ (id:=id) (sv:=sv) (s:=aq) (KT aY w.ok) b6
 rw[<-iv] at ar
 have PB:(av.mk g1 []).own=g1.dv:=by unfold av.own;rw[av.bM,av.mH];simp
 have Hg:(av.mk g1 []).bM=[(g1,[])]:=by rw[av.bM,av.mH];rfl
 have ab2:∀c∈g1.dv,c=h.b∨(h.bi.aj=some c∨h.fp.aj=some c∨h.db.aj=some c)∨aq.aj=some c:=λc I=>by rw[iv] at I;have I:=(rY _).mem_iff.1 I;rcases cN.1 I with I|I;exact .inr (.inr (by simpa using I));rcases cJ.1 I with I|I;exact .inl I;rw[cN,cN] at I;rcases I with(I|I)|I;exact .inr (.inl (.inl (by simpa using I)));exact .inr (.inl (.inr (.inl (by simpa using I))));exact .inr (.inl (.inr (.inr (by simpa using I))))
 refine uo hK _ ?aA2 (Ut aY (n':=.mk g1 []) JC (RG (.inl rfl) λk hk=>(by cases hk))) ⟨amb,w9 _ _ Tv qb⟩
 refine(Way.down w (n':=.mk g1 []) MP (λx J=>?_) ?_ (λc z I _ hm=>w9 c z I (by rw[<-si];exact hm)) (λc I=>?_) (λx J y ah=>?_) (λy ah g W=>.inl (ah g W)) ar.2 ar.1 ?_ (by rw[Hg];show 1<=_;have:=(av.mk h []).SP;omega))
 rw[Hg,fV] at J
 subst J
 have b3:∀{s:U} {c:N} {z:Obj},(h.bi.aj=some c∨h.fp.aj=some c∨h.db.aj=some c)->u c=some z->hK c=some z:=λ{s c z} I aa=>Fi c z aa (Gt c I).2.1 (Gt c I).2.2
 refine⟨by show hK g1.b=_;rw[MP];exact w6,?_,?_,?_,λr O=>?_,?_⟩
 rw[iv];exact jc.bH.le λc z I aa=>b3 (s:=h.bi) (.inl I) aa
 rw[iv];exact jc.hi.le λc z I aa=>b3 (s:=h.bi) (.inr (.inl I)) aa
 rw[iv];exact Hn.own
 rw[iv] at O;exact((sf r O).1).mono Bt
 rw[iv];exact br.else jc.lY λc z I aa=>b3 (s:=h.bi) (.inr (.inr I)) aa
 rw[PB,iv]
 refine WS bS _ λg W=>(eu g W).imp (λe=>e) λe hm=>(ig g hm).2.1 e
 rw[PB] at I
 rw[si]
 rcases ab2 c I with rfl|I|I
 exact⟨.inl wb,by rw[w6];simp⟩
 obtain⟨cM,c6,da⟩:=Gt c I
 obtain⟨z,aa⟩:=e9.1 (ig c cM).2.1
 exact⟨.inl cM,by rw[Fi c z aa c6 da];simp⟩
 exact⟨(eu c I).imp zv (λe=>⟨e,λaB=>by rw[aB,Tv] at e;cases e⟩),dE Hn I⟩
 rw[Hg,fV] at J
 subst J
 exact(sf y (by rw[iv] at ah;exact ah)).2
 rw[av.hx]
 refine .mk ?_ λk hk=>(by cases hk)
 show g1.aD=3
 rw[iv]
 exact fo
structure EM(ai u:H)(af:N->ay bp)(b:N)(T:aQ)(id:o)(u':H)(aX:N->ay bp)(bt:aQ):Prop where
 is:In ai u' aX b bt
 eP:hN u af u' aX
 ok:dS bt
 rows:aR bt=(aR T).filter λx=>x.1 !=id
 an:bt.an=T.an
 leaf:bt.leaf=T.leaf
 eV:bt.eV=T.eV
 no:id∉bt.w.map (·.1)
 vz:bt.w.length<512
def spec.EM{af:N->ay bp}{T:aQ}{id:o}(h:In ai u af b T)(aT:dS T)(iC:T.eV<=4000)(um:id∉T.w.map (·.1)->T.w.length<512)
  (au:∀dM u' aX bt,EM ai u af b T id u' aX bt->K dM 0 u'):C.LP (some ⟨b,0,none⟩) id u K:=by
 refine spec.vk h aT iC (λdV aU hr=>au _ aU af T ⟨h.mono bN hr,hN.mono hr,aT,?_,rfl,rfl,rfl,dV,um dV⟩) λb6 aU c5 bb O=>au _ aU c5 bb ⟨O.is,O.eP,O.ok,O.rows,O.an,O.leaf,O.eV,?_,?_⟩
 refine(p6.2 λx J=>?_).symm
 have:x.1≠id:=λe=>dV (by rw[<-nv];exact bf.2 ⟨x,J,e⟩)
 simpa using this
 rw[<-nv,O.rows]
 intro hm
 obtain⟨p,ad,e⟩:=bf.1 hm
 have:=(iT.1 ad).2
 simp[e] at this
 have ag:=aT.small
 have aS:bb.w.length=(aR bb).length:=by simp[aR]
 have aB:T.w.length=(aR T).length:=by simp[aR]
 rw[<-nv] at b6
 obtain⟨p,ad,e⟩:=bf.1 b6
 have:((aR T).filter λp=>p.1 !=id).length<(aR T).length:=Lr.2 ⟨p,ad,by simp[e]⟩
 rw[O.rows] at aS
 omega
def _root_.Go.Proofs.YtejdhbfjjgcljaaGreatDoor.hM.mono{x:er×M N}(h:hM u x)(hu:u.le u'):hM u' x:=h.bN (λc z _ aa=>hu c z aa) λr O=>(h.vec r O).mono hu
def _root_.Go.Proofs.YtejdhbfjjgcljaaGreatDoor.Way.mono{aD:o}{lQ bd:N->Prop}{n0:av}{aY:M kj}{n:av}(w:Way aD ub u d v lQ bd n0 aY n)(hu:u.le u'):Way aD ub u' d v lQ bd n0 aY n:=
 ⟨w.base.trans hu,λx J=>(w.one x J).mono hu,w.nodup,λc I=>(λY=>⟨Y.1,λe=>Y.2.1 (hu.none e),Y.2.2⟩) (w.out c I),w.known,w.vec,w.ok,w.ins,w.box,w.all,w.len,w.b⟩
def amc{n:N}{id:o}(h:u n=some (.cells #[.int .i64 0,.slice none 0 0] 52 (0,0)))(Z:f (u.ins n (.cells #[.int .i64 id,.slice s.a s.n s.c] 52 (0,0)))):
  H.aO u (cB n 0 none) [.int .i64 id,.slice s.a s.n s.c] f:=⟨_,_,h,rfl,by simp,by simp[cT],Z⟩
def Pt:∀{l:M N} {x:N},x∈l->x<=l.sum
 |y::l,x,h=>by rw[List.sum_cons];rcases cJ.1 h with rfl|h;omega;have:=Pt h;omega
def abE{i:N}(hi:i<ks.length):ks[i].bM.length<(av.mk h ks).bM.length:=by rw[av.bM,av.JH,hX,List.length_flatMap];have:ks[i].bM.length<=(ks.map λk=>k.bM.length).sum:=Pt (bf.2 ⟨ks[i],kE hi,rfl⟩);omega
def spec.CJ{af:N->ay bp}{T:aQ}{id:o}{t:U}(h:In ai u af b T)(aT:dS T)(iC:T.eV<=4000)(ht:Ints u t q)(o6:∀aU c5,ai.le aU->hN u af aU c5->Ints aU t q)
  (di:fu id q T.an (decide (id∈(aR T).map (·.1))) (aR T).length≠0->K ax (fu id q T.an (decide (id∈(aR T).map (·.1))) (aR T).length) u)
  (bE:fu id q T.an (decide (id∈(aR T).map (·.1))) (aR T).length=0->∀u' aX bt,tP ai u af b T id q u' aX bt->K (decide (id∉(aR T).map (·.1))) 0 u'):C.Wh (some ⟨b,0,none⟩) id t u K:=by
 apply aG.Wh
 refine⟨λe=>(by cases e),λ_=>⟨_,rfl,_,H.ba h.aI.cell 4,?_⟩⟩
 obtain⟨y,ah,iE⟩:∃y:U,(fR (ea T.w) id).getD (.slice none 0 0)=aL.slice.enc y/\(fR (ea T.w) id).isSome=decide (id∈(aR T).map (·.1)):=by rw[nv];rcases sR T.w id with⟨W,hm⟩|⟨e,he,ch,W⟩;exact⟨⟨none,0,0⟩,by rw[W];rfl,by rw[W,p7 hm];rfl⟩;exact⟨e.2.1,by rw[W];rfl,by rw[W,mm (bf.2 ⟨e,he,ch⟩)];rfl⟩
 refine tB iO h.aI.map (ct:=.slice) y ah ?_
 rw[iE]
 refine⟨_,rfl,_,rfl,_,H.ba h.aI.cell 0,_,H.ba h.aI.cell 4,wJ iO h.aI.map ⟨H.le.refl u,spec.q9 ht ?_⟩⟩
 rw[ME]
 refine⟨λal=>di al,λhe=>?_⟩
 have bE:=bE he
 obtain⟨d1,d2,uI,d4⟩:1<=id/\id<=1000000000/\gV q T.an=0/\(decide (id∈(aR T).map (·.1))=ax->((aR T).length:o)<512):=by unfold fu at he;split at he;cases he;rename_i h1;split at he;rename_i h2;exact aW he h2;rename_i h2;split at he;cases he;rename_i h3;refine⟨by omega,by omega,by simpa using h2,λe=>?_⟩;by_cases a7:((aR T).length:o)<512;exact a7;exact aW ⟨e,by omega⟩ h3
 obtain⟨aS,aB,cW,fN⟩:=oh uI
 have ab:(!decide (decide (id∈(aR T).map (·.1))=ak))=decide (id∉(aR T).map (·.1)):=by by_cases b6:id∈(aR T).map (·.1)<;>simp[b6]
 have eG:∀Y:H,K (decide (id∉(aR T).map (·.1))) 0 Y->K (!decide (decide (id∈(aR T).map (·.1))=ak)) 0 Y:=λY aC=>by rw[ab];exact aC
 refine spec.EM h aT iC (λdV=>?_) λ_ aU c5 bb W=>?_
 have:=d4 (p7 (by rw[nv];exact dV))
 have gw:T.w.length=(aR T).length:=by simp[aR]
 omega
 have i1:=W.is
 have lu:=W.ok
 have rh:=o6 aU c5 i1.le W.eP
 intro ans aqG
 suffices go:∀(cb:N) (dt:U) (gN:H),aU cb=none->dt.aj≠some cb->aJ aU gN 3 1 dt (q.flatMap encI)->gN cb=some (.cells #[.int .i64 id,.slice dt.a dt.n dt.c] 52 (0,0))->ans ⟨cb,0,none⟩ gN by
  have ahg:t.n<=1099511627776:=by have:=rh.len;omega
  refine⟨spec.iH rh ahg λdt gN fJ _=>⟨fJ.le,λn ae=>⟨fJ.le.trans (H.b1 _ ae),amc (H.bh _ _ _) ?_⟩⟩,λn ae=>⟨H.b1 _ ae,spec.iH (rh.mono (H.b1 _ ae)) ahg λdt gN fJ _=>⟨(H.b1 _ ae).trans fJ.le,amc (fJ.le _ _ (H.bh _ _ _)) ?_⟩⟩⟩;rw[H.abf];exact go n dt _ (fJ.le.none ae) (λe=>dE fJ e ae) (fJ.mono (H.b1 _ ae)) (H.bh _ _ _);have al:dt.aj≠some n:=λe=>by have:=fJ.fresh n e;rw[H.bh] at this;cases this
  have aa:aJ aU gN 3 1 dt (q.flatMap encI):=fJ.weaken (H.b1 _ ae);exact go n dt _ ae al ⟨aa.own.le λc z I J=>by rw[H.bq _ _ (λe=>al (by rw[I,e]))];exact J,λc z I=>by rw[H.bq _ _ (λe=>by rw[e,ae] at I;cases I)];exact aa.le c z I,aa.fresh⟩ (H.bh _ _ _)
 intro cb dt gN vO aB4 fJ Xj
 refine aqG _ _ ?_
 have uM:=fJ.le
 have aI:=(mx.mono bN i1 uM).aI
 refine⟨_,rfl,_,H.ba aI.cell 4,_,H.ba Xj 0,dt,H.ba Xj 1,Ep iO aI.map (yX.2 (by unfold ea;rw[ep];exact W.no)) λpX iw=>?_⟩
 obtain⟨fa,Bq⟩:∃fa,fa=gN.ins bb.m pX:=⟨_,rfl⟩
 rw[<-Bq] at iw ⊢
 have m20:fa bb.m=some pX:=by rw[Bq];exact H.bh _ _ _
 have nN:∀c z,gN c=some z->c≠bb.m->fa c=some z:=λc z I al=>by rw[Bq,H.bq _ _ al];exact I
 have jH:∀{c},c5 c≠some .map->c≠bb.m:=λI e=>I (by rw[e];exact aI.dn)
 have n20:∀{c},fa c=none->aU c=none/\dt.aj≠some c:=λ{c} I=>by
  have al:c≠bb.m:=λe=>by rw[e,m20] at I;cases I
  have xf:gN c=none:=by rw[Bq,H.bq _ _ al] at I;exact I
  exact⟨uM.none xf,λe=>dE fJ e xf⟩
 have smap:∀g,dt.aj=some g->aU g=none/\g≠bb.m:=λg ca=>⟨fJ.fresh g ca,λe=>by have:=i1.known bb.m (by rw[aI.dn];simp);rw[<-e] at this;exact this (fJ.fresh g ca)⟩
 have N0:fx fa bb.m (ea (bb.w++ [(id,(dt,q))])):=by
  have:ea (bb.w++ [(id,(dt,q))])=ea bb.w++ [(id,.slice dt.a dt.n dt.c)]:=by simp[ea]
  rw[this];exact iw
 have Cj:Ints fa dt q:=br.else fJ.ints λg z ca aa=>nN g z aa (smap g ca).2
 have b4:∀{c},c5 c≠none->c≠cb:=λI e=>i1.known _ I (by rw[e];exact vO)
 have d20:fa cb=some (.cells #[.int .i64 id,.slice dt.a dt.n dt.c] 52 (0,0)):=nN _ _ Xj (b4 (c:=bb.m) (by rw[aI.dn];simp)).symm
 obtain⟨st,dW⟩:=aI.src
 have HY:fa bb.src=some (.cells #[.int .u64 st] 215 (0,0)):=nN _ _ dW (jH (by rw[aI.h9];simp))
 have adG:dt.aj≠some bb.src:=λe=>i1.known bb.src (by rw[aI.h9];simp) (smap _ e).1
 have QN:bb.src≠b:=λe=>by have:=aI.h9;rw[e,aI.dN] at this;cases this
 have VH:bb.src≠bb.m:=λe=>by have:=aI.h9;rw[e,aI.dn] at this;cases this
 have nL:fa b=some (.cells (fj bb).toArray 174 (0,0)):=nN _ _ aI.cell (jH (by rw[aI.dN];simp))
 have amx:fa.cell? ((cB b 0 none).add 1)=some (.int .i64 bb.leaf):=H.ba nL 1
 have aCF:fa.cell? ((cB b 0 none).add 2)=some (.pointer (some ⟨bb.src,0,none⟩)):=H.ba nL 2
 have DE:(q.length:o)=bb.an:=by rw[W.an];exact cW
 have fin:∀u' r,EQ aU c5 b bb id dt q u' r->K (!decide (decide (id∈(aR T).map (·.1))=ak)) 0 u':=λu' r Z=>by obtain⟨aX,bt,f1,f2,f3,f4,f5,f6,f7⟩:=Z.ade i1 lu ⟨d1,d2⟩ ⟨DE,fN⟩ W.vz;refine eG _ (bE u' aX bt ⟨f1,W.eP.trans f2,f3,by rw[<-W.rows];exact f4,f5.trans W.an,f6.trans W.leaf,by rw[<-W.eV];exact f7⟩)
 have OA:∀l:M az,((l.map az.bz).Perm ((id,q)::lA bb)∨∃m:M j2,((l.map az.bz)++m).Perm ((id,q)::lA bb))->hD l bb.an:=λl ar=>by
  obtain⟨m,hm⟩:∃m:M j2,((l.map az.bz)++m).Perm ((id,q)::lA bb):=ar.elim (λh=>⟨[],by rw[ly];exact h⟩) λh=>h;have eY:((l.map az.bz)++m).Perm ((id,q)::aR bb):=hm.trans (kc _ lu.rows);have bS:(((id,q)::aR bb).map (·.1)).Nodup:=by rw[gm,hI];exact⟨by rw[nv];exact W.no,i1.aI.rT⟩
  have hlen:=eY.length_eq;have um:=W.vz;simp only[ez,de,hX,aR] at hlen;refine Ek lu.hl (by omega) ?_ λp ad=>?_;have:=(eY.map (·.1)).nodup_iff.2 bS;rw[ek,gh] at this;rw[show l.map (·.id)=(l.map az.bz).map (·.1) by rw[ep];rfl];exact this.1;rcases cJ.1 (eY.mem_iff.1 (iQ _ ad)) with rfl|ad;exact⟨d1,d2,DE,fN⟩;obtain⟨e,gf,rfl⟩:=bf.1 ad;exact⟨(lu.ids e gf).1,(lu.ids e gf).2,lu.vec e gf⟩
 cases kY:bb.root with
 |none=>
  have uj:fa.cell? ((cB b 0 none).add 3)=some (.pointer none):=by
   have J:fj bb=[.int .i64 bb.an,.int .i64 bb.leaf,.pointer (some ⟨bb.src,0,none⟩),.pointer none,.map (some bb.m)]:=by simp[fj,kY]
   rw[J] at nL;exact H.ba nL 3
  have xl:lA bb=[]:=by unfold lA;rw[kY]
  refine⟨_,rfl,none,uj,λ_=>⟨_,H.ba d20 0,dt,H.ba d20 1,?_⟩,λal=>aW rfl al⟩;refine mo (yM id dt) λg pN=>?_;obtain⟨BO,Ol⟩:∃BO,BO=(bC [cY .i64 id,.slice dt.a dt.n dt.c].toArray 52 (0,0)):=⟨_,rfl⟩;rw[<-Ol];have T8:fa.le (fa.ins g BO):=H.b1 _ pN;obtain⟨mV,oC⟩:∃mV,mV=H.no fa bb.src:=⟨_,rfl⟩;have BJ:mV.le fa:=by rw[oC];exact PA _ _
  have Cq:∀{c},c≠bb.src->mV c=fa c:=λI=>by rw[oC];exact KO I
  have nn:aJ mV (fa.ins g BO) 52 2 ⟨some ⟨g,0,none⟩,1,1⟩ (([⟨id,dt,q⟩]:M az).flatMap cR):=by rw[Ol];exact(aJ.make (H.le.refl fa) pN (cells:=[cY .i64 id,.slice dt.a dt.n dt.c].toArray) (n:=1) (by omega) rfl).weaken BJ
  have Xf:mV b=some (.cells (fj bb).toArray 174 (0,0)):=by rw[Cq (dz QN)];exact nL
  have azt:Ints mV dt q:=br.else Cj λc z I J=>by rw[Cq (λe=>adG (by rw[I,e]))];exact J
  refine spec.cut (ub:=mV) (src:=bb.src) (by have:=lu.BF;omega) (H.ba Xf 1) (H.ba Xf 2) (by rw[oC];exact Ul _ _) ⟨st,T8 _ _ HY⟩ (λe=>by
   have:g=bb.src:=by simpa[U.aj] using e
   rw[this,HY] at pN;cases pN) nn (λr O=>by rw[fV.1 O];exact azt) (OA _ (.inl (by rw[xl];exact .refl _))) (λe=>by cases e) λ_ qg eb I=>?_
  have XW:g≠b:=λe=>by rw[e,nL] at pN;cases pN
  have sg:∀c z,fa c=some z->c≠bb.src->qg c=some z:=λc z c9 xF=>I.tY c z (T8 c z c9) (λe=>by
   have:g=c:=by simpa[U.aj] using e
   rw[this,c9] at pN;cases pN) xF
  have CU:qg b=some (.cells #[.int .i64 bb.an,.int .i64 bb.leaf,.pointer (some ⟨bb.src,0,none⟩),.pointer none,.map (some bb.m)] 174 (0,0)):=by have:=sg _ _ nL (dz QN);rw[show fj bb=[.int .i64 bb.an,.int .i64 bb.leaf,.pointer (some ⟨bb.src,0,none⟩),.pointer none,.map (some bb.m)] by simp[fj,kY]] at this;exact this
  refine⟨_,rfl,QO CU ?_⟩;obtain⟨vh,Br⟩:∃vh,vh=qg.ins b (.cells #[.int .i64 bb.an,.int .i64 bb.leaf,.pointer (some ⟨bb.src,0,none⟩),.pointer (some ⟨eb.b,0,none⟩),.map (some bb.m)] 174 (0,0)):=⟨_,rfl⟩;rw[<-Br];have pf:∀c z,qg c=some z->c≠b->vh c=some z:=λc z c9 al=>by rw[Br,H.bq _ _ al];exact c9
  have Mk:b∉eb.own:=λe=>by have:=(I.out b e).1;rw[Xf] at this;cases this
  have tV:bb.m≠b:=λe=>by have h1:=aI.dn;rw[e,aI.dN] at h1;cases h1
  have fY:∀b0,dt.aj=some b0->b0≠b:=λb0 ca e=>by have:=i1.known b (by rw[aI.dN];simp);rw[<-e] at this;exact this (smap b0 ca).1
  have Pa:∀c z,aU c=some z->c≠bb.m->c≠b->c≠bb.src->vh c=some z:=λc z c9 h1 h2 h3=>pf c z (sg c z (nN c z (uM c z c9) h1) h3) h2;have ss:∀{b0},dt.aj=some b0->b0≠bb.src:=λca e=>adG (by rw[ca,e]);refine fin vh eb ⟨?_,N0.else λz aa=>pf _ z (sg _ z aa (dz VH)) tV,I.src.elim λoe vW=>⟨oe,pf _ _ vW QN⟩,br.else Cj λb0 z ca aa=>pf b0 z (sg b0 z aa (ss ca)) (fY b0 ca),λb0 ca=>⟨(smap b0 ca).1,?_⟩,λc z c9 Z=>?_,λc c9 Z=>?_,λx J=>?_,I.nodup,λc c9=>?_,λx J r O b0 ca=>?_,?_,I.ok,I.od,I.bin,?_⟩;rw[Br,H.bh];rfl;obtain⟨z,aa⟩:=e9.1 (dE fJ ca);rw[pf b0 z (sg b0 z (nN b0 z aa (smap b0 ca).2) (ss ca)) (fY b0 ca)];simp;refine Pa c z c9 (jH ?_) (λe=>?_) λe=>by rw[e,aI.h9] at Z;rcases Z with Z|Z<;>cases Z
  rcases Z with Z|Z<;>rw[Z]<;>simp;rw[e,aI.dN] at Z;rcases Z with Z|Z<;>cases Z;by_cases h1:c=bb.m;rw[h1,pf _ _ (sg _ _ m20 (dz VH)) tV];simp;by_cases h2:c=b;rw[h2,Br,H.bh];simp;by_cases h3:c=bb.src;obtain⟨oe,vW⟩:=I.src;rw[h3,pf _ _ vW QN];simp;obtain⟨z,aa⟩:=e9.1 c9;rw[Pa c z aa h1 h2 h3];simp;refine(I.one x J).bN (λc z cH aa=>pf c z aa λe=>Mk (by rw[<-e];exact ej.2 ⟨x,J,cH⟩)) λr O=>?_;rw[fV.1 (I.rows x J r O)];exact br.else Cj λb0 z ca aa=>pf b0 z (sg b0 z aa (ss ca)) (fY b0 ca);obtain⟨cM,c6,da⟩:=I.out c c9;rw[Cq da] at cM;obtain⟨z,aa⟩:=e9.1 c6;exact⟨.inr (n20 cM),by rw[pf c z aa (λe=>Mk (by rw[<-e];exact c9))];simp⟩;rw[fV.1 (I.rows x J r O)] at ca;exact .inr ca;rw[xl];exact I.all;have:=I.size;simp only[hX,mi] at this;omega
 |some n0=>
  obtain⟨cM,c6,da,fk⟩:=aI.one n0 kY;have uj:fa.cell? ((cB b 0 none).add 3)=some (.pointer (some ⟨n0.b,0,none⟩)):=by
   have J:fj bb=[.int .i64 bb.an,.int .i64 bb.leaf,.pointer (some ⟨bb.src,0,none⟩),.pointer (some ⟨n0.b,0,none⟩),.map (some bb.m)]:=by simp[fj,kY]
   rw[J] at nL;exact H.ba nL 3
  have xl:lA bb=n0.bA.all:=by unfold lA;rw[kY]
  obtain⟨ub,b9⟩:∃ub:H,ub=λc=>open Classical in if c∈n0.own∨c=bb.src then none else fa c:=⟨_,rfl⟩;have yu:∀{c},c∈n0.own->ub c=none:=λI=>by rw[b9];exact a1 (.inl I)
  have QV:ub bb.src=none:=by rw[b9];exact a1 (.inr rfl)
  have gu:∀{c},c∉n0.own->c≠bb.src->ub c=fa c:=λI ag=>by rw[b9];exact aF (λe=>e.elim I ag)
  have lub:ub.le fa:=λc b5 I=>by by_cases e:c∈n0.own;rw[yu e] at I;cases I;by_cases aB:c=bb.src;rw[aB,QV] at I;cases I;rw[gu e aB] at I;exact I
  have lK:∀{c},c5 c≠some .node->c∉n0.own:=λI e=>I (da _ e);have QL:∀g,dt.aj=some g->g∉n0.own:=λg ca e=>i1.known g (by rw[da g e];simp) (smap g ca).1;have QJ:∀{g},dt.aj=some g->g≠bb.src:=λca e=>adG (by rw[ca,e]);have sK:ub b=some (.cells (fj bb).toArray 174 (0,0)):=by rw[gu (lK (by rw[aI.dN];simp)) (dz QN)];exact nL
  have awR:cb∉n0.own:=λe=>b4 (by rw[da cb e];simp) rfl;have awS:cb≠bb.src:=λe=>b4 (c:=bb.src) (by rw[aI.h9];simp) e.symm;have afx:ub cb=some (.cells #[.int .i64 id,.slice dt.a dt.n dt.c] 52 (0,0)):=by rw[gu awR awS];exact d20
  have Ck:Ints ub dt q:=br.else Cj λg z ca aa=>by rw[gu (QL g ca) (QJ ca)];exact aa
  have Mw:∀c z,gN c=some z->c5 c≠some .map->c5 c≠some .node->c5 c≠some .src->ub c=some z:=λc z I h1 h2 h3=>by rw[gu (lK h2) (λe=>h3 (by rw[e];exact aI.h9))];exact nN c z I (jH h1)
  have OX:∀x∈n0.bM,∀r∈x.1.rows,Ints ub r.s r.v:=λx J r O=>br.else ((cM x J).vec r O) λg z ca aa=>Mw g z aa (by rw[fk x J r O g ca];simp) (by rw[fk x J r O g ca];simp) (by rw[fk x J r O g ca];simp);have wS:Way 3 ub fa bb.an q (λc=>c≠bb.src) (λg=>c5 g=some .vec) n0 [] n0:=by refine Way.start lub (λc I e=>I (by rw[e];exact QV)) (λx J=>(cM x J).bN (λc z I aa=>nN c z aa (jH ?_)) λr O=>(OX x J r O).mono lub) c6 (λc I=>⟨yu I,?_,λe=>by have:=da c I;rw[e,aI.h9] at this;cases this⟩) (λx J r O=>⟨OX x J r O,λg ca=>fk x J r O g ca⟩) (lu.ok n0 kY) (lu.od n0 kY);rw[da c (ej.2 ⟨x,J,I⟩)];simp;have hk:=i1.known c (by rw[da c I];simp);obtain⟨z,aa⟩:=e9.1 hk;rw[nN c z (uM c z aa) (jH (by rw[da c I];simp))];simp
  refine⟨_,rfl,_,uj,λe=>(by cases e),λ_=>⟨_,rfl,_,uj,?_⟩⟩
  let At:ay bc->H->N->Prop:=λp w f=>∃aY n,p=some ⟨n.b,0,none⟩/\Way 3 ub w bb.an q (λc=>c≠bb.src) (λg=>c5 g=some .vec) n0 aY n/\Ar w bb.src/\jR (mN aY n).bA/\n.bM.length=f
  refine⟨λp w=>∃f,At p w f,λp w=>least (At p w),⟨_,[],n0,rfl,wS,⟨st,HY⟩,lu.bin n0 kY,rfl⟩,λPM l5 cv=>?_⟩;have mI:=G5 cv;generalize NC:least (At PM l5)=f at mI;obtain⟨aY,n,ad,w,⟨st1,dO⟩,JC,atW⟩:=mI;obtain⟨e8,ks⟩:=n;obtain rfl:PM=some ⟨e8.b,0,none⟩:=ad;obtain⟨jc,bS,ig,ln,fo⟩:=w.head;have tb:=KT aY w.ok;obtain⟨Mr,Ms,_,ae6,aot,aou⟩:=WR fo tb;have RO:∀{Y:H},ub.le Y->Y.cell? ((cB cb 0 none).add 1)=some (.slice dt.a dt.n dt.c):=λaC=>H.ba (aC _ _ afx) 1;refine⟨dt,RO w.base,spec.grow Ck w.base jc bS (λc I=>(ig c I).1) (λr O=>(ln r O).1) ae6 fN (by omega) (by omega) aou λ_ _ hb Gq eC jU=>?_⟩;obtain⟨MX,Fy⟩:=X0 (ks:=ks) fo tb fN DE;have tI:Way 3 ub hb bb.an q (λc=>c≠bb.src) (λg=>c5 g=some .vec) n0 aY (.mk (iK e8 q) ks):=w.eP rfl rfl rfl Gq eC jU MX;have adn:Ar hb bb.src:=⟨st1,eC _ _ dO λhm=>(ig _ hm).2.2 rfl⟩;have ae4:jR (mN aY (.mk (iK e8 q) ks)).bA:=Ut aY JC (by obtain⟨hE,fM⟩:=ae5 (RH aY JC);exact RG hE fM)
  have IX:hb e8.b=some (.cells (eS (iK e8 q)).toArray 213 (0,0)):=Gq.cell;have w7:∀{Y:H},hb.le Y->Y.cell? ((cB e8.b 0 none).add 7)=some (.slice e8.db.a e8.db.n e8.db.c):=λaC=>H.ba (aC _ _ IX) 7;have uD:br hb e8.db 1 ((ks.map av.b).map λn=>.pointer (some ⟨n,0,none⟩)):=Gq.lY;have aaw:e8.db.n=ks.length:=by have:=uD.len;simpa using this.symm
  refine⟨_,rfl,e8.db,w7 (H.le.refl _),λh0=>?_,λh0=>?_⟩;obtain rfl:ks=[]:=kN (by omega);refine⟨_,rfl,e8.sr,H.ba IX 6,_,H.ba (tI.base _ _ afx) 0,dt,RO tI.base,?_⟩;refine spec.leaf (h:=iK e8 q) tI (by have:=lu.BF;omega) (H.ba sK 1) (H.ba sK 2) adn ae4 Ck (OA _ (.inr ?_)) Fy λu' r aw fc rr=>fin u' r ?_;refine⟨(jD aY e8.b).flatMap λx=>x.1.rows.map az.bz,?_⟩;have gw:=(KS aY (.mk e8 [])).symm.trans w.all;rw[xl];have nk:(av.mk e8 []).bA.all=e8.rows.map az.bz:=by rw[av.tm,av.bM,av.mH];simp
  rw[nk] at gw;rw[ek];refine(List.Perm.append_right _ (mR _ _)).trans ?_;exact kc _ gw;have cK:fj {bb with root:=some r}=fj bb:=by simp[fj,kY,aw.b]
  refine⟨by rw[cK];exact aw.le _ _ sK,?_,rr,Ck.mono aw.le,λg ca=>⟨(smap g ca).1,?_⟩,λc z I Z=>?_,λc I Z=>?_,aw.one,aw.nodup,λc I=>⟨?_,(aw.own c I).2⟩,λx J y ah g ca=>aw.rws x J y ah g ca,by rw[xl];exact aw.all,aw.ok,aw.od,fc,?_⟩;exact N0.else λz aa=>aw.le _ _ (by rw[gu (lK (by rw[aI.dn];simp)) (dz VH)];exact aa);obtain⟨z,aa⟩:=e9.1 (dE fJ ca);rw[aw.le g z (by rw[gu (QL g ca) (QJ ca)];exact nN g z aa (smap g ca).2)];simp;exact aw.le c z (Mw c z (uM c z I) (by rcases Z with Z|Z<;>rw[Z]<;>simp) (by rcases Z with Z|Z<;>rw[Z]<;>simp) (by rcases Z with Z|Z<;>rw[Z]<;>simp));by_cases h1:c=bb.m;rw[h1,aw.le _ _ (by rw[gu (lK (by rw[aI.dn];simp)) (dz VH)];exact m20)];simp;by_cases h2:c=bb.src;obtain⟨oe,vW⟩:=rr;rw[h2,vW];simp;obtain⟨z,aa⟩:=e9.1 I;rw[aw.le c z (by rw[gu (lK Z) h2];exact nN c z (uM c z aa) h1)];simp;obtain⟨h1,h2⟩:=(aw.own c I).1;by_cases hm:c∈n0.own;exact .inl (da c hm);rw[gu hm h2] at h1;exact .inr (n20 h1);have h1:=aw.size;have h2:=lu.size n0 kY;omega;have jn:ks.length=2:=(ae5 (RH aY JC)).1.resolve_left λe=>h0 (by omega);have lY:∀(i:N) (hi:i<ks.length),hM hb (ks[i].h,ks[i].kids.map av.b)/\dj ks[i].h.bH/\(ks[i].h.bH.length:o)=bb.an:=λi hi=>by
   have ku:(ks[i].h,ks[i].kids.map av.b)∈(av.mk (iK e8 q) ks).bM++jD aY (av.mk (iK e8 q) ks).b:=by rw[av.bM,av.JH];refine iQ _ (gi _ (ej.2 ⟨ks[i],kE hi,?_⟩));rw[av.iu];exact fW ..
   have h3:=MX.kids ks[i].bA (by rw[av.hx];exact h7 (kE hi));have hk:ks[i]=.mk ks[i].h ks[i].kids:=by cases ks[i];rfl
   rw[hk] at h3;obtain⟨_,_,_,jk,z2,_⟩:=WR (show ks[i].h.aD=3 from tI.box _ ku) h3;exact⟨tI.one _ ku,jk,z2⟩
  obtain⟨a0,FL,o2⟩:=KV uD (i:=0) (by simp;omega);obtain⟨ac,re,ho⟩:=KV uD (i:=1) (by simp;omega);obtain rfl:ac=a0:=by rw[FL] at re;exact(cU re).symm
  rw[HQ] at o2 ho;have ahk:hb.cell? (ev ac 0)=some (.pointer (some ⟨(ks[0]'(by omega)).b,0,none⟩)):=by simpa using o2
  have ahl:hb.cell? (ev ac 1)=some (.pointer (some ⟨(ks[1]'(by omega)).b,0,none⟩)):=by simpa using ho
  have ajS:∀(i:N) (hi:i<ks.length) {Y:H},hb.le Y->Y.cell? ((cB ks[i].b 0 none).add 1)=some (.slice ks[i].h.bi.a ks[i].h.bi.n ks[i].h.bi.c):=λi hi Y aC=>by have DS:hb ks[i].b=some (.cells (eS ks[i].h).toArray 213 (0,0)):=(lY i hi).1.cell;exact H.ba (aC _ _ DS) 1
  have RV:∀(i:N) (hi:i<ks.length) {Y:H} {Q:o->o->o->H->Prop},hb.le Y->(∀x y,dh x->dh y->Q x y 0 Y)->C.lD ks[i].h.bi dt Y Q:=λi hi Y Q aC fb=>by obtain⟨b3,cu,jW⟩:=lY i hi;exact spec.lD (b3.bH.f.ints.mono aC) (Ck.mono (tI.base.trans aC)) cu (by show 1<=ks[i].h.bH.length;omega) fN (by show ks[i].h.bH.length=q.length;omega) λx y J ah _=>fb x y J ah
  have on:∀(i:N) (hi:i<ks.length) (Y:H),hb.le Y->(∃f,At (some ⟨ks[i].b,0,none⟩) Y f)/\least (At (some ⟨ks[i].b,0,none⟩) Y)<least (At (some ⟨e8.b,0,none⟩) l5):=λi hi Y aC=>by
   have o7:ks=ks.take i++ks[i]::ks.drop (i+1):=by rw[<-wo hi,u2]
   have aAz:=tI.mono aC;have hw:Way 3 ub Y bb.an q (λc=>c≠bb.src) (λg=>c5 g=some .vec) n0 (⟨iK e8 q,ks.take i,ks.drop (i+1)⟩::aY) ks[i]:=by refine Way.lY (by rw[<-o7];exact aAz) ?_;rw[av.hx] at Fy;exact Fy
   have kJ:jR (mN (⟨iK e8 q,ks.take i,ks.drop (i+1)⟩::aY) ks[i]).bA:=by show jR (mN aY (.mk (iK e8 q) (ks.take i++ks[i]::ks.drop (i+1)))).bA;rw[<-o7];exact ae4
   have bD:=abE (h:=e8) hi;have uh:At (some ⟨ks[i].b,0,none⟩) Y ks[i].bM.length:=⟨_,_,rfl,hw,adn.elim λa b=>⟨a,aC _ _ b⟩,kJ,rfl⟩;refine⟨⟨_,uh⟩,?_⟩;have:=least_le uh;rw[NC];omega
  intro anC aqT;have two:∀(ff:N) (x y:o) (Y:H),dh y->hb.le Y->Y ff=some (.cells [cY .u64 x,.int .u64 y].toArray 66 (0,0))->anC ⟨ff,0,none⟩ Y:=by
   intro ff x y Y ah aC afF;refine aqT _ _ ?_;intro anD aqU;have cmp:∀(D0:N) (nH mW:o) (fm:H),dh mW->Y.le fm->fm D0=some (.cells [cY .u64 nH,.int .u64 mW].toArray 66 (0,0))->anD ⟨D0,0,none⟩ fm:=by intro D0 nH mW fm j9 By afG;have Jl:=aC.trans By;refine aqU _ _ ⟨_,H.ba (By _ _ afF) 0,_,H.ba (By _ _ afF) 1,_,H.ba afG 0,_,H.ba afG 1,spec.mr ah j9 ⟨λ_=>?_,λ_=>?_⟩⟩;exact⟨_,rfl,e8.db,w7 Jl,ac,FL,⟨by omega,by omega⟩,_,H.le.cell Jl ahk,on 0 (by omega) fm Jl⟩;exact⟨_,rfl,e8.db,w7 Jl,ac,FL,⟨by omega,by omega⟩,_,H.le.cell Jl ahl,on 1 (by omega) fm Jl⟩
   refine⟨_,rfl,e8.db,w7 aC,ac,FL,⟨by omega,by omega⟩,_,H.le.cell aC ahl,_,rfl,_,ajS 1 (by omega) aC,dt,RO (tI.base.trans aC),?_,λn ae=>⟨H.b1 _ ae,?_⟩⟩;exact RV 1 (by omega) aC λnH mW _ j9 n ae=>⟨H.b1 _ ae,mT (zs:=[.int .u64 0,.int .u64 0]) rfl (by simp[cT]) (cmp n nH mW _ j9 (H.b1 _ ae) (H.bh _ _ _))⟩;exact RV 1 (by omega) (aC.trans (H.b1 _ ae)) λnH mW _ j9=>mT (zs:=[.int .u64 0,.int .u64 0]) rfl (by simp[cT]) (cmp n nH mW _ j9 (H.b1 _ ae) (H.bh _ _ _))
  refine⟨_,rfl,e8.db,w7 (H.le.refl _),ac,FL,⟨by omega,by omega⟩,_,ahk,_,rfl,_,ajS 0 (by omega) (H.le.refl _),dt,RO tI.base,?_,λn ae=>⟨H.b1 _ ae,?_⟩⟩;exact RV 0 (by omega) (H.le.refl _) λnH mW _ j9 n ae=>⟨H.b1 _ ae,mT (zs:=[.int .u64 0,.int .u64 0]) rfl (by simp[cT]) (two n nH mW _ j9 (H.b1 _ ae) (H.bh _ _ _))⟩;exact RV 0 (by omega) (H.b1 _ ae) λnH mW _ j9=>mT (zs:=[.int .u64 0,.int .u64 0]) rfl (by simp[cT]) (two n nH mW _ j9 (H.b1 _ ae) (H.bh _ _ _))
end
end lS
namespace j1
section
variable{u u':H}{b i k:N}{s:U}{l:M az}{x:o}{K:U->H->Prop}
inductive bp where
 |tree|yN|tW|n1|list (i:N)|vec|map
structure aQ where
 an:o
 k9:U
 cs:M (U×M o)
 bi:U
 ls:M (U×M az)
 m:N
 w:M (o×N)
def aQ.bY(T:aQ):M (M o):=T.cs.map (·.2)
def fj(T:aQ):M ap:=[.int .i64 T.an,.slice T.k9.a T.k9.n T.k9.c,.slice T.bi.a T.bi.n T.bi.c,.map (some T.m)]
def qh(w:M (o×N)):M (o×ap):=w.map λx=>(x.1,.int .i64 x.2)
structure CH(u:H)(s:U)(l:M az):Prop where
 cE:br u s 2 (l.flatMap cR)
 own:Own u 52 2 s (l.flatMap cR)∨s.n=s.c
structure ed(af:N->ay bp)(u:H)(b:N)(T:aQ):Prop where
 cell:u b=some (.cells (fj T).toArray 178 (0,0))
 dN:af b=some .tree
 yN:br u T.k9 1 (T.cs.flatMap λc=>encS c.1)
 vt:∀g,T.k9.aj=some g->af g=some .yN
 tW:∀(i:N) c,T.cs[i]?=some c->Ints u c.1 c.2/\∀g,c.1.aj=some g->af g=some .tW
 n1:Own u 22 1 T.bi (T.ls.flatMap λl=>encS l.1)
 qE:∀g,T.bi.aj=some g->af g=some .n1
 list:∀i l,T.ls[i]?=some l->CH u l.1 l.2/\(∀g,l.1.aj=some g->af g=some (.list i))/\∀r∈l.2,Ints u r.s r.v/\∀g,r.s.aj=some g->af g=some .vec
 map:fx u T.m (qh T.w)
 dn:af T.m=some .map
def CH.bN(h:CH u s l)(hu:∀c z,s.aj=some c->u c=some z->u' c=some z):CH u' s l:=
 ⟨br.else h.cE λg z W aa=>hu g z W aa,h.own.imp (λaa=>aa.le λb z ab b9=>hu b z ab b9) id⟩
def ed.bN{af aX:N->ay bp}{T:aQ}(h:ed af u b T)(Z:∀c,af c≠none->aX c=af c)(hu:∀c z,u c=some z->af c≠none->u' c=some z):ed aX u' b T where
 cell:=hu _ _ h.cell (by rw[h.dN];simp)
 dN:=by rw[Z _ (by rw[h.dN];simp)];exact h.dN
 yN:=br.else h.yN λg z W aa=>hu g z aa (by rw[h.vt g W];simp)
 vt g W:=by rw[Z _ (by rw[h.vt g W];simp)];exact h.vt g W
 tW i c I:=⟨br.else (h.tW i c I).1 λg z W aa=>hu g z aa (by rw[(h.tW i c I).2 g W];simp),λg W=>by rw[Z _ (by rw[(h.tW i c I).2 g W];simp)];exact(h.tW i c I).2 g W⟩
 n1:=h.n1.le λg z W aa=>hu g z aa (by rw[h.qE g W];simp)
 qE g W:=by rw[Z _ (by rw[h.qE g W];simp)];exact h.qE g W
 list i l ar:=by obtain⟨h1,h2,h3⟩:=h.list i l ar;refine⟨h1.bN λg z W aa=>hu g z aa (by rw[h2 g W];simp),λg W=>by rw[Z _ (by rw[h2 g W];simp)];exact h2 g W,λr O=>?_⟩;obtain⟨a7,bK⟩:=h3 r O;exact⟨br.else a7 λg z W aa=>hu g z aa (by rw[bK g W];simp),λg W=>by rw[Z _ (by rw[bK g W];simp)];exact bK g W⟩
 map:=h.map.else λz aa=>hu _ _ aa (by rw[h.dn];simp)
 dn:=by rw[Z _ (by rw[h.dn];simp)];exact h.dn
def bN:yD ed:=⟨λh h1 h2=>h.bN h1 h2⟩
abbrev In:=mx ed
structure dS(T:aQ):Prop where
 hl:1<=T.an/\T.an<=64
 many:T.cs.length=T.ls.length/\0<T.cs.length/\T.cs.length<=64
 I3:∀c∈T.cs,(c.2.length:o)=T.an/\dj c.2
 vec:∀l∈T.ls,∀r∈l.2,(r.v.length:o)=T.an/\dj r.v
 ids:∀l∈T.ls,∀r∈l.2,1<=r.id/\r.id<=1000000000
 nodup:((T.ls.flatMap (·.2)).map (·.id)).Nodup
 yy:∀id i,(id,i)∈T.w↔∃l,T.ls[i]?=some l/\id∈l.2.map (·.id)
 CB:T.w.length=(T.ls.flatMap (·.2)).length
 small:T.w.length<=512
 tj:∀i l,T.ls[i]?=some l->∀r∈l.2,(mg (T.cs.map (·.2)) r.v T.cs.length).1=i
def aR(X:aQ):M (o×M o):=(X.ls.flatMap (·.2)).map az.bz
def KR(c:M o)(l:M az):bF:=.mk 3 c [] (oI c l l.length) (l.map az.bz) []
def x4:M (U×M o)->M (U×M az)->M bF
 |c::cs,l::ls=>KR c.2 l.2::x4 cs ls|_,_=>[]
def akB:∀(cs:M (U×M o)) (ls:M (U×M az)),cs.length=ls.length->bF.jS (x4 cs ls)=(ls.flatMap (·.2)).map az.bz:=by
 intro cs;induction cs with
 |nil=>
  intro ls h;cases ls with
  |nil=>rfl|cons l ls=>simp at h
 |cons c cs aM=>
  intro ls h;cases ls with
  |nil=>simp at h|cons l ls=>have:=aM ls (by simpa using h);simp only[x4,bF.jS,this,gy,ek];congr 1;unfold KR;rw[bF.all_eq];show l.2.map az.bz++ []=_;rw[ly]
def axj{c:M o}{d:o}(I:(c.length:o)=d/\dj c)(ar:hD l d):ga d (KR c l):=by
 have fz:hD l c.length:=by rw[I.1];exact ar
 refine .mk ⟨ar.an,p4,λx J=>(by cases J),.inr (.inr ⟨rfl,rfl,I.2,I.1,ak9 I.2 fz _ (cA _)⟩)⟩ (λx J=>?_) (λk hk=>(by cases hk));have fT:x∈l.map az.bz:=by rw[bF.all_eq] at J;have h2:x∈l.map az.bz++ []:=J;rwa[ly] at h2
 obtain⟨r,O,rfl⟩:=bf.1 fT;obtain⟨i,hi,rfl⟩:=pt O;exact⟨λe=>(by cases e),λ_=>(ak8 c l l.length).2 i _ hi (cr hi)⟩
def akC{d:o}:∀(cs:M (U×M o)) (ls:M (U×M az)),(∀c∈cs,(c.2.length:o)=d/\dj c.2)->(∀l∈ls,hD l.2 d)->∀p∈x4 cs ls,ga d p:=by
 intro cs;induction cs with
 |nil=>intro ls _ _ p ad;cases ls<;>cases ad
 |cons c cs aM=>
  intro ls h1 h2 p ad;cases ls with
  |nil=>cases ad
  |cons l ls=>rcases cJ.1 ad with rfl|ad;exact axj (h1 c (fW ..)) (h2 l (fW ..));exact aM ls (λc I=>h1 c (gi _ I)) (λl ar=>h2 l (gi _ ar)) p ad
def aem(X:aQ)(q:M o)(k bud:o):mB:=oO q k bud (x4 X.cs X.ls)
def il(X:aQ)(q:M o)(k bud:o):M bO:=yr q k (aem X q k bud)
def fU(X:aQ)(q:M o)(k bud:o):M o:=dQ ((aem X q k bud).seen.map (·.1))
def jF(X:aQ)(q:M o)(k bud:o):M (o×o×M o×M o×M o):=(n3 (aem X q k bud)).map pE
def dS.Vg{X:aQ}(h:dS X):hD (X.ls.flatMap (·.2)) X.an:=
 ⟨h.hl,by rw[<-h.CB];exact h.small,λr O=>by obtain⟨l,ar,O⟩:=ej.1 O;exact h.ids l ar r O,h.nodup,λr O=>by obtain⟨l,ar,O⟩:=ej.1 O;exact h.vec l ar r O⟩
def QT{X:aQ}(h:dS X){q:M o}{k bud:o}(hk:1<=k)(ab:0<=bud)(aw:(q.length:o)=X.an){L:M az}(cX:(L.map az.bz).Perm (aR X))(aN:kk L q){rest:M cn}(O:rest.map cn.core=jF X q k bud):
  Sound L q k (il X q k bud) (fU X q k bud) rest/\((fU X q k bud).length:o)<=bud/\(((fU X q k bud).length:o)=bud∨(fU X q k bud).length=L.length∨Aj q k (il X q k bud) rest):=by
 have fz:=h.Vg
 refine aep ab hk (akC X.cs X.ls (λc I=>by rw[aw];exact h.I3 c I) λl ar=>?_) aN ?_ O
 rw[aw]
 exact fz.sub (Ev (f:=λl:U×M az=>l.2) ar)
 rw[akB _ _ h.many.1]
 exact cX
def azA:kH aH 176=some (22,1,24,[.slice none 0 0]):=by kernel_rfl
def LQ:om aH 175 3 3 (.int .i64 0):=⟨by kernel_rfl,by kernel_rfl,λ_=>by kernel_rfl⟩
def CY(c:U×M az):(encS c.1).length=1:=rfl
def kP{af:N->ay bp}{T:aQ}(h:ed af u b T):u.cell? ⟨b,0,none⟩=some (.int .i64 T.an)/\u.cell? ((cB b 0 none).add 1)=some (.slice T.k9.a T.k9.n T.k9.c)/\
  u.cell? ((cB b 0 none).add 2)=some (.slice T.bi.a T.bi.n T.bi.c)/\u.cell? ((cB b 0 none).add 3)=some (.map (some T.m)):=
 ⟨H.ba h.cell 0,H.ba h.cell 1,H.ba h.cell 2,H.ba h.cell 3⟩
def ed.abX{af:N->ay bp}{T:aQ}(h:ed af u b T):T.bi.n=T.ls.length:=gW CY (by decide) h.n1.cE
def ed.yv{af:N->ay bp}{T:aQ}(h:ed af u b T):mA u T.k9 T.cs:=⟨h.yN,λc I=>by obtain⟨i,hi,rfl⟩:=pt I;exact(h.tW i _ (cr hi)).1⟩
def dS.apk{T:aQ}(h:dS T):wW T.cs T.an:=⟨h.hl,h.many.2,h.I3⟩
def sS(w:M (o×N))(x:o):ay N:=(w.find? λp=>p.1==x).map (·.2)
def MT(w:M (o×N))(x:o):fR (qh w) x=(sS w x).map λi=>.int .i64 i:=by
 unfold fR sS qh;induction w with
 |nil=>rfl|cons p w aM=>
  simp only[gm,HP];by_cases e:p.1=x;simp[e];have aB:(p.1==x)=ax:=by simpa using e
  simp only[aB];exact aM
def Sb{w:M (o×N)}(h:sS w x=some i):(x,i)∈w:=by
 unfold sS at h;obtain⟨p,ad,rfl⟩:=UB.1 h;have h1:=K7 ad;have h2:=K8 ad;have:p.1=x:=by simpa using h2
 rw[<-this];exact h1
def Sc{w:M (o×N)}:sS w x=none↔x∉w.map (·.1):=by unfold sS;simp only[ac1,Ll,bf,not_exists,not_and];constructor;intro h p ad e;exact h p ad (by simp[e]);intro h p ad e;exact h p ad (by simpa using e)
def alE{xs:M ap}(h:br u s k xs)(Z:s.n=s.c)(hk:0<k):s=⟨none,0,0⟩∨s.a≠none:=by
 rcases h.at' with h1|⟨p,ad,_⟩;have ar:=h.len;rw[h1] at ar;simp only[mi] at ar;rcases UJ.1 ar.symm with h2|h2;cases s with
 |mk a n c=>
  simp only at Z h2;subst h2;subst Z;cases a with
  |none=>exact .inl rfl|some p=>exact .inr (by simp)
 omega;exact .inr (by rw[ad];simp)
def awj{id:o}{sv:U}{v:M o}(h:CH u s l)(ar:l.length<1000000)
  (au:∀aq u',Own u' 52 2 aq ((l++ [(⟨id,sv,v⟩:az)]).flatMap cR)->gO u u' s->(∀g,aq.aj=some g->s.aj=some g∨u g=none)->K aq u'):
  dd aH (dL 22 1 #[(0,.agg #[.int .i64 id,.slice sv.a sv.n sv.c])]) [.one .slice] u λs1 aU=>u.le aU/\dd aH (ey #[22,22] 22 #[.slice s.a s.n s.c,.slice s1.a s1.n s1.c]) [.one .slice] aU K:=by
 have dw:s.n=l.length:=gW fI (by decide) h.cE
 have afM:l.flatMap cR++ [.int .i64 id,.slice sv.a sv.n sv.c]=(l++ [(⟨id,sv,v⟩:az)]).flatMap cR:=by simp[cR]
 rcases h.own with aa|Z
 refine Aa kF (yM id sv) (by decide) rfl (by simp[cT]) aa.f (by omega) (by omega) λaq u' bP _ he ab _=>au aq u' ?_ he ab
 rw[<-afM]
 exact bP.own
 refine mo (yM id sv) λg W=>⟨H.b1 _ W,?_⟩
 have hle:=H.b1 (u:=u) (b:=g) (.cells [cY .i64 id,.slice sv.a sv.n sv.c].toArray 52 (0,0)) W
 have J:br (u.ins g (.cells [cY .i64 id,.slice sv.a sv.n sv.c].toArray 52 (0,0))) ⟨some ⟨g,0,none⟩,1,1⟩ 2 [cY .i64 id,.slice sv.a sv.n sv.c]:=by have:=(aJ.make (k:=2) (H.le.refl u) W (cells:=[cY .i64 id,.slice sv.a sv.n sv.c].toArray) (e:=52) (n:=1) (by omega) (by simp)).own.cE;simpa using this
 refine adw kF (h.cE.mono hle) J (by simp only;omega) (alE h.cE Z (by decide)) (by simp) (by simp only;omega) (by simp only;omega) λg2 c cur gQ dI=>au _ _ (by rw[<-afM];exact dI) (λb z ab _=>?_) λg3 ahO=>?_
 have h1:=hle b z ab
 rw[H.bq _ _ (λe=>by rw[e,gQ] at h1;cases h1)]
 exact h1
 have:g3=g2:=by simpa[U.aj] using ahO.symm
 rw[this]
 exact .inr (hle.none gQ)
def ed.alf{af aX:N->ay bp}{T:aQ}(h:ed af u b T){aq:U}{bw:M az}{w':M (o×N)}(ar:CH u' aq bw)(xN:∀g,aq.aj=some g->aX g=some (.list i))
  (j8:∀r∈bw,Ints u' r.s r.v/\∀g,r.s.aj=some g->aX g=some .vec) (JS:Own u' 22 1 T.bi ((T.ls.set i (aq,bw)).flatMap λl=>encS l.1)) (hm:fx u' T.m (qh w'))
  (hu:∀c z,u c=some z->af c≠none->af c≠some .n1->af c≠some (.list i)->af c≠some .map->u' c=some z) (Z:∀c,af c≠none->af c≠some (.list i)->aX c=af c):ed aX u' b {T with ls:=T.ls.set i (aq,bw),w:=w'} where
 cell:=hu _ _ h.cell (by rw[h.dN];simp) (by rw[h.dN];simp) (by rw[h.dN];simp) (by rw[h.dN];simp)
 dN:=by rw[Z _ (by rw[h.dN];simp) (by rw[h.dN];simp)];exact h.dN
 yN:=br.else h.yN λg z W aa=>hu g z aa (by rw[h.vt g W];simp) (by rw[h.vt g W];simp) (by rw[h.vt g W];simp) (by rw[h.vt g W];simp)
 vt g W:=by rw[Z _ (by rw[h.vt g W];simp) (by rw[h.vt g W];simp)];exact h.vt g W
 tW j c I:=by obtain⟨h1,h2⟩:=h.tW j c I;exact⟨br.else h1 λg z W aa=>hu g z aa (by rw[h2 g W];simp) (by rw[h2 g W];simp) (by rw[h2 g W];simp) (by rw[h2 g W];simp),λg W=>by rw[Z _ (by rw[h2 g W];simp) (by rw[h2 g W];simp)];exact h2 g W⟩
 n1:=JS
 qE g W:=by rw[Z _ (by rw[h.qE g W];simp) (by rw[h.qE g W];simp)];exact h.qE g W
 list j l aP:=by
  by_cases e:j=i;subst e;have:l=(aq,bw):=by rw[BX] at aP;split at aP;split at aP;exact(cU aP).symm;cases aP;rename_i al;exact aW rfl al
  subst this;exact⟨ar,xN,j8⟩;rw[u0 (dz e)] at aP;obtain⟨h1,h2,h3⟩:=h.list j l aP;refine⟨h1.bN λg z W aa=>hu g z aa (by rw[h2 g W];simp) (by rw[h2 g W];simp) (by rw[h2 g W];simpa using e) (by rw[h2 g W];simp),λg W=>by rw[Z _ (by rw[h2 g W];simp) (by rw[h2 g W];simpa using e)];exact h2 g W,λr O=>?_⟩;obtain⟨a7,bK⟩:=h3 r O;exact⟨br.else a7 λg z W aa=>hu g z aa (by rw[bK g W];simp) (by rw[bK g W];simp) (by rw[bK g W];simp) (by rw[bK g W];simp),λg W=>by rw[Z _ (by rw[bK g W];simp) (by rw[bK g W];simp)];exact bK g W⟩
 map:=hm
 dn:=by rw[Z _ (by rw[h.dn];simp) (by rw[h.dn];simp)];exact h.dn
def ayT{ls:M (U×M az)}{l:U×M az}(h:ls[i]?=some l)(aq:U)(r:az):((ls.set i (aq,l.2++ [r])).flatMap (·.2)).Perm (r::ls.flatMap (·.2)):=by
 induction ls generalizing i with
 |nil=>simp at h|cons x ls aM=>
  cases i with
  |zero=>simp only[BW,kb] at h;subst h;rw[P2,gy,gy,n5];exact B4|succ i=>simp only[x9] at h;rw[K6,gy,gy];exact((aM h).append_left _).trans B4
structure anH(ai u:H)(af:N->ay bp)(b:N)(T:aQ)(id:o)(v:M o)(u':H)(aX:N->ay bp)(bt:aQ):Prop where
 is:In ai u' aX b bt
 eP:hN u af u' aX
 ok:dS bt
 rows:(aR bt).Perm ((id,v)::aR T)
 an:bt.an=T.an
 cs:bt.cs=T.cs
 CB:bt.w.length=T.w.length+1
 w:∀x,x∈bt.w.map (·.1)↔x∈T.w.map (·.1)∨x=id
 wN:∀c,af c=some .vec->aX c=some .vec
 amV:∀c z,u c=some z->af c=some .vec->u' c=some z
def spec.lay{ai:H}{af:N->ay bp}{T:aQ}{id:o}{v:M o}{K:H->Prop}(h:In ai u af b T)(aT:dS T)(ch:id∉T.w.map (·.1))(hi:1<=id/\id<=1000000000)(aA:Ints u s v)
  (ag:∀g,s.aj=some g->af g=some .vec) (bE:(v.length:o)=T.an/\dj v) (hlen:T.w.length<512) (au:∀u' aX bt,anH ai u af b T id v u' aX bt->K u'):C.GS (some ⟨b,0,none⟩) id s u K:=by
 obtain⟨bJ,c1,c2,fg⟩:=kP h.aI
 have dD:=aT.apk
 obtain⟨k,hk⟩:∃k,(mg (T.cs.map (·.2)) v T.cs.length).1=k:=⟨_,rfl⟩
 have jn:k<T.cs.length:=by rw[<-hk];exact akm _ _ _ aT.many.2.1
 have ah7:k<T.ls.length:=by rw[<-aT.many.1];exact jn
 have Tc:=h.aI.abX
 apply aG.GS
 intro my h0
 refine⟨u,H.le.refl u,_,rfl,_,c1,?_⟩
 have main:my (k:o) u:=by
  refine h0 _ _ λanv h3=>?_;obtain⟨l,ar⟩:∃l,T.ls[k]?=some l:=⟨_,cr ah7⟩;obtain⟨cX,y1,Ng⟩:=h.aI.list k l ar;obtain⟨p,ad,I⟩:=br.elem CY (by decide) h.aI.n1.cE ar;have hG:=I 0 _ rfl;rw[Addr.add_zero'] at hG;have nl:∀{c t},af c=some t->t≠.list k->l.1.aj≠some c:=λI ht e=>ht (by have:=y1 _ e;rw[I] at this;exact cU this);have ahi:l.1.aj≠some b:=nl h.aI.dN (by simp);have Z7:∃g cur,T.bi.a=some ⟨g,0,none⟩/\u g=some (.cells cur 22 (0,0))/\T.bi.aj=some g:=by rcases h.aI.n1.is with h1|⟨g,cur,h1,h2,_⟩;rw[h1] at ad;cases ad;exact⟨g,cur,h1,h2,by simp[U.aj,h1]⟩
  obtain⟨g,cur,FZ,S3,JL⟩:=Z7;have xv:=h.aI.qE g JL;have ahQ:l.1.aj≠some g:=nl xv (by simp);obtain rfl:p=⟨g,0,none⟩:=by rw[FZ] at ad;exact(cU ad).symm
  have W6:∀{a:bc} {x:ap},u.cell? a=some x->l.1.aj≠some a.block->(H.nC u l.1).cell? a=some x:=λ{a x} J al=>by unfold H.cell? at J ⊢;rw[nD al];exact J
  refine⟨H.nC u l.1,Eo _ _,_,rfl,_,rfl,T.bi,W6 c2 ahi,T.bi,W6 c2 ahi,_,ad,⟨by omega,by omega⟩,l.1,?_,?_⟩;unfold a8;rw[zV];refine W6 hG ?_;rw[jh];exact ahQ;have xh:l.2.length<1000000:=by have h1:=(Ev (f:=λl:U×M az=>l.2) (dK ar)).length_le;rw[<-aT.CB] at h1;omega
  refine dd.QH (awj (v:=v) cX xh (K:=λadl It=>(H.nC u l.1).le It/\∃akU:bc,T.bi.a=some akU/\((0:o)<=(k:o)/\(k:o)<(T.bi.n:o))/\H.aO It (akU.add ((k:o).toNat*1)) [.slice adl.a adl.n adl.c] λke=>anv ke) ?_) λs1 v1 J=>⟨(Eo _ _).trans J.1,J.2⟩;intro aq aU aa he ab;refine⟨λc z I=>he c z (LA I).1 (LA I).2,_,ad,⟨by omega,by omega⟩,?_⟩;have ats:Own aU 22 1 T.bi (T.ls.flatMap λl=>encS l.1):=h.aI.n1.le λc z I hu=>he c z hu λe=>nl (h.aI.qE c I) (by simp) e;rw[zV];have Ts:aq.aj≠some g:=λe=>by rcases ab g e with h1|h1;exact ahQ h1;rw[S3] at h1;cases h1
  refine aJ.store (enc:=λl:U×M az=>encS l.1) CY ats.f (by decide) (i:=k) ah7 (y:=(aq,l.2++ [⟨id,s,v⟩])) (by simp[encS,cT]) FZ λdc dI ic ft=>h3 _ ?_;have oY:∀c z,u c=some z->af c≠some .n1->af c≠some (.list k)->dc c=some z:=λc z I h1 h2=>by refine ic c z (he c z I λe=>h2 (y1 c e)) λe=>h1 (h.aI.qE c e)
  have Xb:dc b=some (.cells (fj T).toArray 178 (0,0)):=oY b _ h.aI.cell (by rw[h.aI.dN];simp) (by rw[h.aI.dN];simp);have atA:fx dc T.m (qh T.w):=h.aI.map.else λz aa=>oY _ z aa (by rw[h.aI.dn];simp) (by rw[h.aI.dn];simp);refine⟨dc,H.le.refl _,_,rfl,_,H.ba Xb 3,Ep LQ atA (by rw[MT,Sc.2 ch];rfl) λz hm=>?_⟩;have ZE:∀c,af c≠some .map->c≠T.m:=λc I e=>I (by rw[e];exact h.aI.dn);have cW:∀c x,u c=some x->af c≠some .n1->af c≠some (.list k)->af c≠some .map->(dc.ins T.m z) c=some x:=λc x I h1 h2 h3=>by rw[H.bq _ _ (ZE c h3)];exact oY c x I h1 h2
  have ays:aq.aj≠some T.m:=λe=>by rcases ab _ e with h1|h1;exact nl h.aI.dn (by simp) h1;exact h.known T.m (by rw[h.aI.dn];simp) h1
  have Z5:Own (dc.ins T.m z) 52 2 aq ((l.2++ [(⟨id,s,v⟩:az)]).flatMap cR):=aa.le λc x I J=>by
   rw[H.bq _ _ (λe=>ays (by rw[I,e]))];exact ic c x J λe=>by
    have:c=g:=by rw[JL] at e;exact(cU e).symm
    exact Ts (by rw[I,this])
  have oz:∀c,aq.aj=some c->af c=some (.list k)∨u c=none:=λc I=>(ab c I).imp (y1 c) λh=>h
  let aX:N->ay bp:=λc=>open Classical in if aq.aj=some c then some (.list k) else if l.1.aj=some c then none else af c
  have f2:∀c,aq.aj=some c->aX c=some (.list k):=λc I=>a1 I;have f1:∀c,af c≠none->af c≠some (.list k)->aX c=af c:=λc I h2=>by
   have h1:aq.aj≠some c:=λe=>by rcases oz c e with h1|h1;exact h2 h1;exact I (h.fresh h1)
   show(if aq.aj=some c then _ else _)=_;rw[aF h1,aF λe=>h2 (y1 c e)]
  have f3:∀c,aX c≠none->(aq.aj=some c/\(af c≠none∨u c=none))∨(aq.aj≠some c/\l.1.aj≠some c/\af c≠none):=λc I=>by
   by_cases e:aq.aj=some c;exact .inl ⟨e,(oz c e).imp (λh1=>by rw[h1];simp) λh1=>h1⟩;by_cases aB:l.1.aj=some c;have:aX c=none:=by show(if aq.aj=some c then _ else _)=_;rw[aF e,a1 aB]
   exact aW this I;have:aX c=af c:=by show(if aq.aj=some c then _ else _)=_;rw[aF e,aF aB]
   rw[this] at I;exact .inr ⟨e,aB,I⟩
  have adi:∀r∈l.2++ [(⟨id,s,v⟩:az)],Ints (dc.ins T.m z) r.s r.v/\∀c,r.s.aj=some c->aX c=some .vec:=by
   intro r O;have both:Ints u r.s r.v/\∀c,r.s.aj=some c->af c=some .vec:=by rcases cN.1 O with h1|h1;exact Ng r h1;rw[fV.1 h1];exact⟨aA,ag⟩
   exact⟨br.else both.1 λc x I J=>cW c x J (by rw[both.2 c I];simp) (by rw[both.2 c I];simp) (by rw[both.2 c I];simp),λc I=>by rw[f1 c (by rw[both.2 c I];simp) (by rw[both.2 c I];simp)];exact both.2 c I⟩
  have oy:fx (dc.ins T.m z) T.m (qh (T.w++ [(id,k)])):=by
   have:qh (T.w++ [(id,k)])=qh T.w++ [(id,.int .i64 (k:o))]:=by simp[qh]
   rw[this];exact hm
  have S9:Own (dc.ins T.m z) 22 1 T.bi ((T.ls.set k (aq,l.2++ [(⟨id,s,v⟩:az)])).flatMap λl=>encS l.1):=dI.own.le λc x I J=>by rw[H.bq _ _ (λe=>by have:=h.aI.qE c I;rw[e,h.aI.dn] at this;cases this)];exact J
  have Yx:=h.aI.alf (i:=k) (w':=T.w++ [(id,k)]) ⟨Z5.cE,.inl Z5⟩ f2 adi S9 oy (λc x I _ h2 h3 a7=>cW c x I h2 h3 a7) f1;have ad2:ai.le (dc.ins T.m z):=λc x I=>by
   have hu:=h.le c x I;have Z:af c=none:=by
    cases e:af c with
    |none=>rfl|some t=>have:=h.out c (by rw[e];simp);rw[I] at this;cases this
   exact cW c x hu (by rw[Z];simp) (by rw[Z];simp) (by rw[Z];simp)
  have h5:=ayT ar aq (⟨id,s,v⟩:az);have as6:id∉(T.ls.flatMap (·.2)).map (·.id):=λhm=>by obtain⟨r,O,e⟩:=bf.1 hm;obtain⟨y,ah,OC⟩:=ej.1 O;obtain⟨j,aP,rfl⟩:=pt ah;have:=(aT.yy id j).2 ⟨_,cr aP,bf.2 ⟨r,OC,e⟩⟩;exact ch (bf.2 ⟨_,this,rfl⟩)
  have each:∀{i:N} {y:U×M az},(T.ls.set k (aq,l.2++ [(⟨id,s,v⟩:az)]))[i]?=some y->(i=k/\y=(aq,l.2++ [⟨id,s,v⟩]))∨(i≠k/\T.ls[i]?=some y):=λ{i y} ah=>by by_cases e:i=k;subst e;rw[zX (by omega)] at ah;exact .inl ⟨rfl,(cU ah).symm⟩;rw[u0 (dz e)] at ah;exact .inr ⟨e,ah⟩
  have Ps:∀y∈T.ls.set k (aq,l.2++ [(⟨id,s,v⟩:az)]),∀r∈y.2,r=⟨id,s,v⟩∨∃Y∈T.ls,r∈Y.2:=λy ah r O=>by have:r∈(⟨id,s,v⟩:az)::T.ls.flatMap (·.2):=h5.mem_iff.1 (ej.2 ⟨y,ah,O⟩);rcases cJ.1 this with h1|h1;exact .inl h1;obtain⟨Y,aC,nr⟩:=ej.1 h1;exact .inr ⟨Y,aC,nr⟩
  refine au _ aX {T with ls:=T.ls.set k (aq,l.2++ [⟨id,s,v⟩]),w:=T.w++ [(id,k)]} ⟨⟨Yx,ad2,λc I=>?_,λc I=>?_⟩,⟨λc x I Z=>cW c x I (by rw[Z];simp) (by rw[Z];simp) (by rw[Z];simp),λc I=>?_⟩,?_,?_,rfl,rfl,by simp,λx=>by simp[ek],λc I=>by rw[f1 c (by rw[I];simp) (by rw[I];simp)];exact I,λc z aa I=>cW c z aa (by rw[I];simp) (by rw[I];simp) (by rw[I];simp)⟩;rcases f3 c I with⟨_,h1|h1⟩|⟨_,_,h1⟩;exact h.out c h1;exact h.le.none h1;exact h.out c h1;rcases f3 c I with⟨h1,_⟩|⟨_,h2,h1⟩;exact dE Z5.f h1;by_cases e:c=T.m;rw[e,H.bh];simp;by_cases aB:T.bi.aj=some c;exact dE S9.f aB;obtain⟨x,J⟩:=e9.1 (h.known c h1);rw[H.bq _ _ e,ic c x (he c x J h2) aB];simp;rcases f3 c I with⟨_,h1⟩|⟨_,_,h1⟩;exact h1;exact .inl h1;have Tk:(mg (T.cs.map (·.2)) (⟨id,s,v⟩:az).v T.cs.length).1=k:=hk;refine⟨aT.hl,⟨by simp[aT.many.1],aT.many.2⟩,aT.I3,λy ah r O=>?_,λy ah r O=>?_,?_,λi j=>?_,?_,by simp;omega,λi y ah r O=>?_⟩;rcases Ps y ah r O with rfl|⟨Y,aC,nr⟩;exact bE;exact aT.vec Y aC r nr;rcases Ps y ah r O with rfl|⟨Y,aC,nr⟩;exact hi;exact aT.ids Y aC r nr;rw[(h5.map _).nodup_iff,gm,hI];exact⟨as6,aT.nodup⟩;simp only[cN,fV,HB];constructor;rintro(h1|⟨rfl,rfl⟩);obtain⟨y,ah,hm⟩:=(aT.yy i j).1 h1;by_cases e:j=k;subst e;rw[ar] at ah;cases ah;exact⟨_,zX (by omega),by rw[ek];exact iQ _ hm⟩;exact⟨y,by rw[u0 (dz e)];exact ah,hm⟩;exact⟨_,zX (by omega),by simp⟩;rintro⟨y,ah,hm⟩;rcases each ah with⟨rfl,rfl⟩|⟨al,ah⟩;rw[ek] at hm;rcases cN.1 hm with h1|h1;exact .inl ((aT.yy i j).2 ⟨l,ar,h1⟩);exact .inr ⟨by simpa using h1,rfl⟩;exact .inl ((aT.yy i j).2 ⟨y,ah,hm⟩);have:=h5.length_eq;rw[hX,<-aT.CB] at this;show(T.w++ [(id,k)]).length=_;rw[this];simp;rcases each ah with⟨rfl,rfl⟩|⟨al,ah⟩;rcases cN.1 O with h1|h1;exact aT.tj i l ar r h1;rw[fV.1 h1];exact Tk;exact aT.tj i y ah r O;exact h5.map az.bz
 exact⟨spec.th h.aI.yv dD aA bE.2 bE.1 ⟨H.le.refl u,by rw[hk];exact main⟩,H.le.refl u,spec.th h.aI.yv dD aA bE.2 bE.1 (by rw[hk];exact main)⟩
def ayE{P:dY}{t fw e:dJ}{size bytes:N}{zs:M ap}(aT:kH P t=some (e,size,bytes,zs)){x:U}(ag:s.n<=s.c)(J:x.n=0)(au:K s u):
  dd P (ey #[t,t] fw #[.slice s.a s.n s.c,.slice x.a x.n x.c]) [.one .slice] u K:=by
 obtain⟨ht,i,Y,hi,aC,qB,y3,Bz,_⟩:=vv aT
 refine .Hk (c:=.slice) s (λw hw=>?_) au
 have ar:∀(y:bc),(loadCells y 0).run P w=.ok #[] w:=λy=>by simpa using run_loadCells_list (P:=P) w y [] (by simp)
 rw[J]
 cases uC:s.a<;>cases DL:x.a<;>simp[ey,iz ht,sizeOf,typeInfo,hi,Builtin.lenOf,Builtin.firstCells,ag,aL.enc,uC,ar,storeCells]
def axl{l h m:N}{g:N}(W:(s.part l h m k).aj=some g):s.aj=some g:=by
 unfold U.part U.aj at*;simp only at W;split at W;exact W;cases aE:s.a with
 |none=>rw[aE] at W;simp at W|some p=>
  rw[aE] at W;simp only[tr] at W ⊢;have:(p.add (l*k)).block=p.block:=by unfold ev;split<;>rfl
  rw[this] at W;exact W
def awi{fw:dJ}(h:br u s 2 (l.flatMap cR))(hi:i<l.length)(ar:l.length<=1000000)
  (au:∀aq u',u.le u'->CH u' aq (l.take i++l.drop (i+1))->(∀g,aq.aj=some g->s.aj=some g∨(u g=none/\u' g≠none))->K aq u'):
  dd aH (ey #[22,22] fw #[.slice (s.part 0 i i 2).a (s.part 0 i i 2).n (s.part 0 i i 2).c,.slice (s.part (i+1) s.n s.c 2).a (s.part (i+1) s.n s.c 2).n (s.part (i+1) s.n s.c 2).c]) [.one .slice] u K:=by
 have ae:s.n=l.length:=gW fI (by decide) h
 have I:=h.cap
 have s1:br u (s.part 0 i i 2) 2 ((l.take i).flatMap cR):=by have:=br.part h (l:=0) (h:=i) (m:=i) (by omega) (by omega) (cA _) (by omega);rw[Lb,UQ,Ed,yW fI] at this;exact this
 have s2:br u (s.part (i+1) s.n s.c 2) 2 ((l.drop (i+1)).flatMap cR):=by have:=br.part h (l:=i+1) (h:=s.n) (m:=s.c) (by omega) (cA _) I (cA _);rw[XM fI,yW fI,hR (by rw[oH];omega)] at this;exact this
 have b4:(s.part 0 i i 2).n=i:=by simp[U.part]
 have c1:(s.part 0 i i 2).c=i:=by simp[U.part]
 have eb:(s.part (i+1) s.n s.c 2).n=s.n-(i+1):=rfl
 by_cases h0:(s.part (i+1) s.n s.c 2).n=0
 have aw:l.drop (i+1)=[]:=sl (by omega)
 refine ayE kF (by omega) h0 (au _ u (H.le.refl u) ?_ λg W=>.inl (axl W))
 rw[aw,ly]
 exact⟨s1,.inr (by omega)⟩
 have DL:(s.part (i+1) s.n s.c 2).a≠none:=by rcases s2.at' with h1|⟨p,ad,_⟩;have:=s2.len;rw[h1] at this;simp only[mi] at this;omega;rw[ad];simp
 refine adw kF s1 s2 (by omega) (alE s1 (by omega) (by decide)) DL (by omega) (by omega) λg c cur W aa=>au _ _ (H.b1 _ W) ?_ λg2 gQ=>?_
 rw[<-hz] at aa
 exact⟨aa.cE,.inl aa⟩
 have:g2=g:=by simpa[U.aj] using gQ.symm
 rw[this]
 exact .inr ⟨W,by rw[H.bh];simp⟩
def Xe{r:az}{id:o}(bS:(l.map (·.id)).Nodup)(h:l[i]?=some r)(O:r.id=id):l.take i++l.drop (i+1)=l.filter λx=>x.id !=id:=by
 induction l generalizing i with
 |nil=>simp at h|cons x l aM=>
  rw[gm,hI] at bS;cases i with
  |zero=>simp only[BW,kb] at h;subst h;simp only[UK,nz,UI,UQ,B7,O,bne_self_eq_false,D6,BU];refine(p6.2 λy ah=>?_).symm;have:y.id≠id:=λe=>bS.1 (bf.2 ⟨y,ah,by rw[e,O]⟩);simpa using this|succ i=>simp only[x9] at h;have J:x.id≠id:=λe=>bS.1 (bf.2 ⟨r,dK h,by rw[O,e]⟩);rw[BV,UI,zN,aM bS.2 h,B7,a1 (by simpa using J)]
def ayR{ls:M (U×M az)}{l:U×M az}{r:az}{id:o}(bS:((ls.flatMap (·.2)).map (·.id)).Nodup)(h:ls[k]?=some l)(hi:l.2[i]?=some r)(O:r.id=id)(aq:U):
  (ls.set k (aq,l.2.take i++l.2.drop (i+1))).flatMap (·.2)=(ls.flatMap (·.2)).filter λx=>x.id !=id:=by
 induction ls generalizing k with
 |nil=>simp at h
 |cons x ls aM=>
  rw[gy,ek,gh] at bS;obtain⟨h1,h2,h3⟩:=bS;have alF:∀{m:M az},(∀y∈m,y.id≠id)->m.filter (λx=>x.id !=id)=m:=λhm=>p6.2 λy ah=>by simpa using hm y ah
  cases k with
  |zero=>simp only[BW,kb] at h;subst h;rw[P2,gy,gy,zW,Xe h1 hi O];congr 1;exact(alF λy ah e=>h3 r.id (bf.2 ⟨r,dK hi,rfl⟩) y.id (bf.2 ⟨y,ah,rfl⟩) (by rw[e,O])).symm|succ k=>simp only[x9] at h;rw[K6,gy,gy,zW,aM h2 h];congr 1;refine(alF λy ah e=>h3 y.id (bf.2 ⟨y,ah,rfl⟩) r.id (bf.2 ⟨r,ej.2 ⟨l,dK h,dK hi⟩,rfl⟩) (by rw[e,O])).symm
def aAm(w:M (o×N))(id:o):(qh w).filter (λp=>p.1 !=id)=qh (w.filter λp=>p.1 !=id):=by unfold qh;rw[tw];rfl
def WO:hn aH 284=ak:=by kernel_rfl
def ed.rT{af:N->ay bp}{T:aQ}(h:ed af u b T):(T.w.map (·.1)).Nodup:=by obtain⟨es,c,_,he⟩:=h.map;have:=he.nodup;unfold qh at this;rw[ep] at this;exact this
def dS.aeq{T:aQ}(h:dS T){id:o}:id∈T.w.map (·.1)↔id∈(T.ls.flatMap (·.2)).map (·.id):=by constructor;intro hm;obtain⟨p,ad,e⟩:=bf.1 hm;obtain⟨l,ar,ch⟩:=(h.yy p.1 p.2).1 ad;obtain⟨r,O,aB⟩:=bf.1 ch;exact bf.2 ⟨r,ej.2 ⟨l,dK ar,O⟩,by rw[aB,e]⟩;intro hm;obtain⟨r,O,e⟩:=bf.1 hm;obtain⟨l,ar,kX⟩:=ej.1 O;obtain⟨i,hi,rfl⟩:=pt ar;exact bf.2 ⟨(id,i),(h.yy id i).2 ⟨_,cr hi,bf.2 ⟨r,kX,e⟩⟩,rfl⟩
def abl(T:aQ):(aR T).map (·.1)=(T.ls.flatMap (·.2)).map (·.id):=by unfold aR;rw[ep];rfl
def avV{w:M (o×N)}(ae:(w.map (·.1)).Nodup){j:N}(h1:(x,i)∈w)(h2:(x,j)∈w):(x,i)=(x,j):=by
 induction w with
 |nil=>cases h1
 |cons p w aM=>rw[gm,hI] at ae;rcases cJ.1 h1 with h3|h3;rcases cJ.1 h2 with a7|a7;rw[h3,a7];exact aW (bf.2 ⟨_,a7,by rw[<-h3]⟩) ae.1;rcases cJ.1 h2 with a7|a7;exact aW (bf.2 ⟨_,h3,by rw[<-a7]⟩) ae.1;exact aM ae.2 h3 a7
structure Am(ai u:H)(af:N->ay bp)(b:N)(T:aQ)(id:o)(u':H)(aX:N->ay bp)(bt:aQ):Prop where
 is:In ai u' aX b bt
 eP:hN u af u' aX
 ok:dS bt
 rows:aR bt=(aR T).filter λx=>x.1 !=id
 an:bt.an=T.an
 cs:bt.cs=T.cs
 w:bt.w=T.w.filter λp=>p.1 !=id
def spec.vk{ai:H}{af:N->ay bp}{T:aQ}{id:o}{K:aK->o->H->Prop}(h:In ai u af b T)(aT:dS T)(dV:id∉T.w.map (·.1)->∀u',u.le u'->K ax 0 u')
  (kz:id∈T.w.map (·.1)->∀u' aX bt,Am ai u af b T id u' aX bt->K ak 0 u'):C.O6 (some ⟨b,0,none⟩) id u K:=by
 apply aG.O6
 intro n0 eX
 have G3:u.le (u.ins n0 (.cells #[.int .i64 id] 3 (0,0))):=H.b1 _ eX
 have gd:(u.ins n0 (.cells #[.int .i64 id] 3 (0,0))) n0=some (.cells #[.int .i64 id] 3 (0,0)):=H.bh _ _ _
 have h1:=h.mono bN G3
 have atI:af n0=none:=h.fresh eX
 obtain⟨aU,hr⟩:∃aU,aU=u.ins n0 (.cells #[.int .i64 id] 3 (0,0)):=⟨_,rfl⟩
 rw[<-hr] at G3 gd h1 ⊢
 obtain⟨bJ,c1,c2,fg⟩:=kP h1.aI
 refine⟨λe=>(by cases e),λ_=>⟨_,rfl,_,fg,_,H.ba gd 0,?_⟩⟩
 refine tB LQ h1.aI.map (ct:=.int .i64) (((sS T.w id).getD 0:N):o) (by rw[MT];cases sS T.w id<;>rfl) ?_
 have iE:(fR (qh T.w) id).isSome=decide (id∈T.w.map (·.1)):=by
  rw[MT,U5];cases e:sS T.w id with
  |none=>rw[p7 (Sc.1 e)];rfl|some k=>rw[mm (bf.2 ⟨_,Sb e,rfl⟩)];rfl
 rw[iE]
 refine⟨λab=>?_,λab=>?_⟩
 exact dV (λhm=>ab (mm hm)) _ G3
 have b6:id∈T.w.map (·.1):=HR ab
 have kz:=kz b6
 obtain⟨k,hk⟩:∃k,sS T.w id=some k:=by
  cases e:sS T.w id with
  |none=>exact aW b6 (Sc.1 e)|some k=>exact⟨k,rfl⟩
 rw[hk,K1]
 obtain⟨l,ar,as5⟩:=(aT.yy id k).1 (Sb hk)
 have jn:k<T.ls.length:=(jM.1 ar).1
 have Tc:=h1.aI.abX
 obtain⟨cX,y1,Ng⟩:=h1.aI.list k l ar
 obtain⟨p,ad,I⟩:=br.elem CY (by decide) h1.aI.n1.cE ar
 have hG:=I 0 _ rfl
 rw[Addr.add_zero'] at hG
 have Z7:∃g cur,T.bi.a=some ⟨g,0,none⟩/\aU g=some (.cells cur 22 (0,0))/\T.bi.aj=some g:=by rcases h1.aI.n1.is with aS|⟨g,cur,aS,aB,_⟩;rw[aS] at ad;cases ad;exact⟨g,cur,aS,aB,by simp[U.aj,aS]⟩
 obtain⟨g,cur,FZ,S3,JL⟩:=Z7
 have xv:=h1.aI.qE g JL
 obtain rfl:p=⟨g,0,none⟩:=by rw[FZ] at ad;exact(cU ad).symm
 have nl:∀{c t},af c=some t->t≠.list k->l.1.aj≠some c:=λI ht e=>ht (by have:=y1 _ e;rw[I] at this;exact cU this)
 refine⟨_,rfl,_,fg,_,H.ba gd 0,Qv LQ h1.aI.map λz hm=>?_⟩
 have ZE:∀c,af c≠some .map->c≠T.m:=λc I e=>I (by rw[e];exact h1.aI.dn)
 have aS:∀c x,aU c=some x->af c≠some .map->(aU.ins T.m z) c=some x:=λc x J h3=>by rw[H.bq _ _ (ZE c h3)];exact J
 obtain⟨v,aA⟩:∃v,v=aU.ins T.m z:=⟨_,rfl⟩
 rw[<-aA] at hm aS ⊢
 have aAj:∀c,v c=none->aU c=none:=λc I=>by by_cases e:c=T.m;rw[aA,e,H.bh] at I;cases I;rw[aA,H.bq _ _ e] at I;exact I
 have sK:v b=some (.cells (fj T).toArray 178 (0,0)):=aS _ _ h1.aI.cell (by rw[h1.aI.dN];simp)
 have S4:=aS g _ S3 (by rw[xv];simp)
 have asf:v.cell? (ev ⟨g,0,none⟩ (k*1))=some (.slice l.1.a l.1.n l.1.c):=by rw[jh] at hG ⊢;unfold H.cell? at hG ⊢;simp only[S3,S4] at hG ⊢;exact hG
 have atJ:v n0=some (.cells #[.int .i64 id] 3 (0,0)):=aS _ _ gd (by rw[atI];simp)
 have Tu:br v l.1 2 (l.2.flatMap cR):=br.else cX.cE λc x I J=>aS c x J (by rw[y1 c I];simp)
 have ZB:l.1.n=l.2.length:=gW fI (by decide) Tu
 have xh:l.2.length<1000000:=by have h1:=(Ev (f:=λl:U×M az=>l.2) (dK ar)).length_le;rw[<-aT.CB] at h1;have:=aT.small;omega
 have aid:(l.2.map (·.id)).Nodup:=aT.nodup.sublist ((Ev (f:=λl:U×M az=>l.2) (dK ar)).map _)
 refine⟨_,rfl,T.bi,H.ba sK 2,_,FZ,⟨by omega,by omega⟩,l.1,by unfold a8;rw[zV];exact asf,?_⟩
 refine spec.Ce (p:=λr=>decide (r.id=id)) (l:=l.2) Tu (λr w fZ hw dA=>.inl ⟨_,_,_,rfl,hh WO,aG.abj _ _ _ _ _ ⟨_,H.ba (hw _ _ atJ) 0,dA⟩⟩) (H.le.refl v) (λi r O _ np=>?_) λeF=>(by obtain⟨r,O,e⟩:=bf.1 as5;have:=P9 (eF r O);exact aW e this)
 have aan:r.id=id:=HR np
 have eO:i<l.2.length:=(jM.1 O).1
 have fin:∀{fw:dJ},dd aH (ey #[22,22] fw #[.slice (l.1.part 0 i i 2).a (l.1.part 0 i i 2).n (l.1.part 0 i i 2).c,.slice (l.1.part (i+1) l.1.n l.1.c 2).a (l.1.part (i+1) l.1.n l.1.c 2).n (l.1.part (i+1) l.1.n l.1.c 2).c]) [.one .slice] v
   λlP mU=>v.le mU/\∃akV:bc,T.bi.a=some akV/\((0:o)<=(k:o)/\(k:o)<(T.bi.n:o))/\H.aO mU (akV.add ((k:o).toNat*1)) [.slice lP.a lP.n lP.c] λqg=>K ak 0 qg:=by
  intro fw
  refine awi Tu eO (by omega) λaq dc gg ari eG=>⟨gg,_,FZ,⟨by omega,by omega⟩,?_⟩
  have S9:Own dc 22 1 T.bi (T.ls.flatMap λl=>encS l.1):=h1.aI.n1.le λc z I hu=>gg _ _ (aS c z hu (by rw[h1.aI.qE c I];simp))
  rw[zV]
  refine aJ.store (enc:=λl:U×M az=>encS l.1) CY S9.f (by decide) (i:=k) jn (y:=(aq,l.2.take i++l.2.drop (i+1))) (by simp[encS,cT]) FZ λj0 mf Dl s8=>?_
  have Ts:aq.aj≠some g:=λe=>by rcases eG g e with h2|h2;exact nl xv (by simp) h2;rw[S4] at h2;cases h2.1
  have cW:∀c x,u c=some x->af c≠some .n1->af c≠some .map->j0 c=some x:=λc x J h2 h3=>Dl c x (gg _ _ (aS c x (G3 _ _ J) h3)) λe=>h2 (h1.aI.qE c e)
  have afK:∀c x,aU c=some x->af c≠some .n1->af c≠some .map->j0 c=some x:=λc x J h2 h3=>Dl c x (gg _ _ (aS c x J h3)) λe=>h2 (h1.aI.qE c e)
  have oz:∀c,aq.aj=some c->af c=some (.list k)∨(af c=none/\u c=none/\dc c≠none):=λc I=>by rcases eG c I with h2|h2;exact .inl (y1 c h2);have h3:=aAj c h2.1;exact .inr ⟨h1.fresh h3,G3.none h3,h2.2⟩
  have arj:CH j0 aq (l.2.take i++l.2.drop (i+1)):=ari.bN λc x I J=>Dl c x J λe=>Ts (by
   have:c=g:=by rw[JL] at e;exact(cU e).symm
   rw[I,this])
  let aX:N->ay bp:=λc=>open Classical in if aq.aj=some c then some (.list k) else if l.1.aj=some c then none else af c
  have f2:∀c,aq.aj=some c->aX c=some (.list k):=λc I=>a1 I
  have f1:∀c,af c≠none->af c≠some (.list k)->aX c=af c:=λc I h2=>by
   have a7:aq.aj≠some c:=λe=>by rcases oz c e with h3|h3;exact h2 h3;exact I h3.1
   show(if aq.aj=some c then _ else _)=_;rw[aF a7,aF λe=>h2 (y1 c e)]
  have f3:∀c,aX c≠none->(aq.aj=some c/\(af c≠none∨u c=none))∨(aq.aj≠some c/\l.1.aj≠some c/\af c≠none):=λc I=>by
   by_cases e:aq.aj=some c;exact .inl ⟨e,(oz c e).imp (λh1=>by rw[h1];simp) λh1=>h1.2.1⟩;by_cases aB:l.1.aj=some c;have:aX c=none:=by show(if aq.aj=some c then _ else _)=_;rw[aF e,a1 aB]
   exact aW this I;have:aX c=af c:=by show(if aq.aj=some c then _ else _)=_;rw[aF e,aF aB]
   rw[this] at I;exact .inr ⟨e,aB,I⟩
  have gJ:∀df∈l.2.take i++l.2.drop (i+1),df∈l.2:=λdf dG=>by rcases cN.1 dG with h2|h2;exact oa h2;exact ye h2
  have adi:∀df∈l.2.take i++l.2.drop (i+1),Ints j0 df.s df.v/\∀c,df.s.aj=some c->aX c=some .vec:=by intro df dG;obtain⟨i1,i2⟩:=Ng df (gJ df dG);exact⟨br.else i1 λc x I J=>afK c x J (by rw[i2 c I];simp) (by rw[i2 c I];simp),λc I=>by rw[f1 c (by rw[i2 c I];simp) (by rw[i2 c I];simp)];exact i2 c I⟩
  have Td:fx j0 T.m (qh (T.w.filter λp=>p.1 !=id)):=by rw[<-aAm];exact hm.else λx J=>Dl _ x (gg _ _ J) λe=>by have:=h1.aI.qE _ e;rw[h1.aI.dn] at this;cases this
  have Yx:=h1.aI.alf (i:=k) (w':=T.w.filter λp=>p.1 !=id) arj f2 adi mf.own Td (λc x I _ h2 _ a7=>afK c x I h2 a7) f1
  have ad2:ai.le j0:=λc x I=>by
   have Z:af c=none:=by
    cases e:af c with
    |none=>rfl|some t=>have:=h.out c (by rw[e];simp);rw[I] at this;cases this
   exact cW c x (h.le c x I) (by rw[Z];simp) (by rw[Z];simp)
  have j8:=ayR aT.nodup ar O aan aq
  have each:∀{j:N} {y:U×M az},(T.ls.set k (aq,l.2.take i++l.2.drop (i+1)))[j]?=some y->(j=k/\y=(aq,l.2.take i++l.2.drop (i+1)))∨(j≠k/\T.ls[j]?=some y):=λ{j y} ah=>by by_cases e:j=k;subst e;rw[zX (by omega)] at ah;exact .inl ⟨rfl,(cU ah).symm⟩;rw[u0 (dz e)] at ah;exact .inr ⟨e,ah⟩
  have Ps:∀y∈T.ls.set k (aq,l.2.take i++l.2.drop (i+1)),∀df∈y.2,∃Y∈T.ls,df∈Y.2:=λy ah df dG=>by
   have:df∈(T.ls.flatMap (·.2)).filter λx=>x.id !=id:=by rw[<-j8];exact ej.2 ⟨y,ah,dG⟩
   obtain⟨Y,aC,nr⟩:=ej.1 (iT.1 this).1;exact⟨Y,aC,nr⟩
  refine kz _ aX {T with ls:=T.ls.set k (aq,l.2.take i++l.2.drop (i+1)),w:=T.w.filter λp=>p.1 !=id} ⟨⟨Yx,ad2,λc I=>?_,λc I=>?_⟩,⟨λc x I Z=>cW c x I (by rw[Z];simp) (by rw[Z];simp),λc I=>?_⟩,?_,?_,rfl,rfl,rfl⟩
  rcases f3 c I with⟨_,h1|h1⟩|⟨_,_,h1⟩
  exact h.out c h1
  exact h.le.none h1
  exact h.out c h1
  rcases f3 c I with⟨h2,_⟩|⟨_,h2,h3⟩
  rcases oz c h2 with bK|⟨_,_,bK⟩
  obtain⟨x,J⟩:=e9.1 (h.known c (by rw[bK];simp))
  rw[cW c x J (by rw[bK];simp) (by rw[bK];simp)];simp
  obtain⟨x,J⟩:=e9.1 bK
  rw[Dl c x J λe=>Ts (by
   have:c=g:=by rw[JL] at e;exact(cU e).symm
   rw[h2,this])]
  simp
  by_cases aB:T.bi.aj=some c
  exact dE mf aB
  by_cases e:c=T.m
  obtain⟨es,cl,J,_⟩:=Td
  rw[e,J];simp
  obtain⟨x,J⟩:=e9.1 (h1.known c h3)
  have:v c=some x:=by rw[aA,H.bq _ _ e];exact J
  rw[Dl c x (gg _ _ this) aB];simp
  rcases f3 c I with⟨_,h1⟩|⟨_,_,h1⟩
  exact h1
  exact .inl h1
  refine⟨aT.hl,⟨by simp[aT.many.1],aT.many.2⟩,aT.I3,λy ah df dG=>?_,λy ah df dG=>?_,?_,λx j=>?_,?_,jg (wB _ _) aT.small,λj y ah df dG=>?_⟩
  obtain⟨Y,aC,nr⟩:=Ps y ah df dG
  exact aT.vec Y aC df nr
  obtain⟨Y,aC,nr⟩:=Ps y ah df dG
  exact aT.ids Y aC df nr
  show((wz (·.2) (T.ls.set k _)).map _).Nodup
  rw[j8]
  exact aT.nodup.sublist (U0.map _)
  simp only[iT,Qe,ne_eq]
  constructor
  rintro⟨h2,h3⟩
  obtain⟨y,ah,Gh⟩:=(aT.yy x j).1 h2
  by_cases e:j=k
  subst e
  rw[ar] at ah;cases ah
  refine⟨_,zX (by omega),?_⟩
  rw[show((aq,l.2.take i++l.2.drop (i+1)):U×M az).2=l.2.take i++l.2.drop (i+1) from rfl,Xe aid O aan]
  obtain⟨Y,aC,rfl⟩:=bf.1 Gh
  exact bf.2 ⟨Y,iT.2 ⟨aC,by simpa using h3⟩,rfl⟩
  exact⟨y,by rw[u0 (dz e)];exact ah,Gh⟩
  rintro⟨y,ah,Gh⟩
  rcases each ah with⟨rfl,rfl⟩|⟨al,ah⟩
  rw[show((aq,l.2.take i++l.2.drop (i+1)):U×M az).2=l.2.take i++l.2.drop (i+1) from rfl,Xe aid O aan] at Gh
  obtain⟨Y,aC,rfl⟩:=bf.1 Gh
  obtain⟨avt,aa7⟩:=iT.1 aC
  exact⟨(aT.yy Y.id j).2 ⟨l,ar,bf.2 ⟨Y,avt,rfl⟩⟩,by simpa using aa7⟩
  refine⟨(aT.yy x j).2 ⟨y,ah,Gh⟩,λe=>al ?_⟩
  have gj:=(aT.yy x j).2 ⟨y,ah,Gh⟩
  have eA:=Sb hk
  rw[e] at gj
  have:=h.aI.rT
  exact(Prod.mk.inj (avV this gj eA)).2
  have Z6:(T.w.map (·.1)).Perm ((T.ls.flatMap (·.2)).map (·.id)):=(U1 h.aI.rT aT.nodup).2 λx=>aT.aeq
  have gq:=(Z6.filter λx=>x !=id).length_eq
  rw[tw,tw,de,de] at gq
  show(T.w.filter λp=>p.1 !=id).length=(wz (·.2) (T.ls.set k _)).length
  rw[j8]
  exact gq
  rcases each ah with⟨rfl,rfl⟩|⟨al,ah⟩
  exact aT.tj j l ar df (gJ df dG)
  exact aT.tj j y ah df dG
  show(wz (·.2) (T.ls.set k _)).map az.bz=_
  rw[j8]
  unfold aR
  rw[tw]
  rfl
 have ir:=Tu.cap
 have QF:∀{w:H} {F:U->H->Prop},F (l.1.part 0 i i 2) w->dd aH (h6 22 (.slice l.1.a l.1.n l.1.c) none (some (.int .i64 (i:o))) (some (.int .i64 (i:o)))) [.one .slice] w F:=λrc=>
  oM kF (l:=0) (h:=i) (m:=i) (.inl ⟨rfl,rfl⟩) (.inr rfl) (.inr ⟨rfl,by simp⟩) (by omega) (cA _) (by omega) ir rc
 have alV:∀{w:H} {F:U->H->Prop},F (l.1.part (i+1) l.1.n l.1.c 2) w->dd aH (h6 22 (.slice l.1.a l.1.n l.1.c) (some (.int .i64 ((i:o)+1))) none none) [.one .slice] w F:=λrc=>
  oM kF (l:=i+1) (h:=l.1.n) (m:=l.1.c) (.inr rfl) (.inl ⟨rfl,rfl⟩) (.inl ⟨rfl,rfl⟩) (by omega) ir (cA _) ir rc
 exact⟨_,rfl,⟨by omega,by omega⟩,T.bi,H.ba sK 2,QF ⟨H.le.refl _,alV ⟨H.le.refl _,fin⟩⟩,alV ⟨H.le.refl _,QF ⟨H.le.refl _,fin⟩⟩⟩
end
end j1
def ayn{P:dY}(w:b7)(t b2 fw e:dJ)(i:TypeInfo)(Y:ap)(ht:P.underlying t=some (.slice e))(cv:P.underlying b2=some (.int .i64))(hi:P.info? e=some i)(aC:i.zero=some Y)(ag:0<i.size)
  (n:N) (h0:0<n) (Sk:(n:o)<=9223372036854775807) (aqJ:n*i.bytes<=281474976710656):
  (ey #[t,b2] fw #[.slice none 0 0,.int .i64 n]).run P w=
   .ok (.slice (some ⟨w.heap.size,0,none⟩) n (grownCap w n 0 e)) (w.drew.alloc (.cells (wu Y.cells n++wu Y.cells (grownCap w n 0 e-n)) e)):=by
 have hw:cq.wrap (n:o)=n:=IntWalk.i64_in _ (by omega)
 have ae:n≠0:=by omega
 have hW:¬((n:o)<0):=by omega
 have aqR:¬(9223372036854775807<(n:o)):=by omega
 have aqK:¬(281474976710656<Builtin.nextslicecap n 0*i.bytes):=by rw[nextslicecap_zero h0];omega
 have aqL:¬(281474976710656<(n:o)*(i.bytes:o)):=by
  have:((n*i.bytes:N):o)=(n:o)*(i.bytes:o):=by simp
  omega
 have cI:¬(n*i.size=0):=by intro h;rcases UJ.1 h with h|h<;>omega
 have aap:i.size≠0:=by omega
 have aE:∀w',(asIntOf (.int .i64 (n:o))).run P w'=.ok (.i64,(n:o)) w':=λ_=>rfl
 simp[aE,ey,iz ht,iz cv,sizeOf,typeInfo,zeroValue,hi,aC,asInt,hw,ae,hW,aqR,aqK,aqL,Question.forced,run_firstCells_none,newRow,grownCap]
 exact λh=>aW h cI
def ayI{P:dY}{t b2 fw e:dJ}{size bytes:N}{zs:M ap}(aT:kH P t=some (e,size,bytes,zs))(cv:P.underlying b2=some (.int .i64))(cI:0<size){n:N}(h0:0<n)(Sk:(n:o)<=9223372036854775807)(aqJ:n*bytes<=140737488355328)
  {u:H} {K:U->H->Prop} (au:∀aq u' xs,aJ u u' e size aq xs->aq.n=n->K aq u'):
  dd P (ey #[t,b2] fw #[.slice none 0 0,.int .i64 n]) [.one .slice] u K:=by
 obtain⟨ht,i,Y,hi,aC,qB,y3,Bz,_⟩:=vv aT
 subst qB
 subst y3
 refine .one (c:=.slice) λw hw=>?_
 have gG:=grownCap_ge w n 0 e
 have cH:=grownCap_le_maxLen w n 0 e (by rw[Hd];omega)
 rw[Hd] at cH
 have O:=ayn (P:=P) w t b2 fw e i Y ht cv hi aC cI n h0 Sk (by omega)
 obtain⟨z,aa⟩:∃z,z=wu Y.cells n++wu Y.cells (grownCap w n 0 e-n):=⟨_,rfl⟩
 rw[<-aa] at O
 have dW:=ami hw (.cells z e)
 have aiL:z.size=grownCap w n 0 e*i.size:=by rw[aa,acN,size_zeroCells,size_zeroCells,Bz,<-Ea];congr 1;omega
 refine⟨⟨some ⟨w.heap.size,0,none⟩,n,grownCap w n 0 e⟩,_,_,O,au _ _ (z.toList.take (n*i.size)) ⟨⟨?_,.inr ⟨w.heap.size,z,rfl,H.bh _ _ _,gG,cH,aiL,rfl⟩⟩,H.b1 _ dW.2,λg W=>?_⟩ rfl,dW.1⟩
 rw[gZ,rL,aiL]
 exact Eb (ts _ gG)
 have:w.heap.size=g:=by simpa[U.aj] using W
 rw[<-this]
 exact dW.2
def azz:aH.underlying 3=some (.int .i64):=by kernel_rfl
def spec.Ie{n:N}{u:H}{K:U->H->Prop}(ae:n<=1000000)(au:∀aq u',aJ u u' 52 2 aq []->aq.n=0->K aq u'):C.Ie ⟨none,0,0⟩ n u K:=by
 apply aG.Ie;intro my h0;refine⟨λh=>by omega,λ_=>h0 _ ⟨⟨by simp,by simp⟩,⟨by simp only;omega,by simp only;omega⟩,λpa=>?_,λ_=>au _ _ (aJ.nil (H.le.refl u) _ _) rfl⟩⟩;have eX:0<n:=by have:(0:o)<(n:o)-(((0:N):o)-((0:N):o)):=pa;omega
 refine oM kF (s:=⟨none,0,0⟩) (l:=0) (h:=0) (m:=0) (.inl ⟨rfl,rfl⟩) (.inr rfl) (.inl ⟨rfl,rfl⟩) (cA _) (cA _) (cA _) (cA _) ?_;have aS:(⟨none,0,0⟩:U).part 0 0 0 2=⟨none,0,0⟩:=rfl;rw[aS];have aB:(n:o)-(((⟨none,0,0⟩:U).c:o)-((⟨none,0,0⟩:U).n:o))=(n:o):=by simp
 rw[aB];refine ayI kF azz (by decide) eX (by omega) (by omega) λaq u' xs aa gr=>?_;obtain⟨Z,_,o5⟩:=aa.front (m:=0) (p2 _);have I:aq.n<=aq.c:=aa.own.cE.cap;refine oM kF (l:=0) (h:=0) (m:=aq.c) (.inl ⟨rfl,rfl⟩) (.inr rfl) (.inl ⟨rfl,rfl⟩) (cA _) (p2 _) (cA _) I ?_;rw[Lb,UK] at Z;exact au _ _ Z o5
def agc{ls:M (U×M az)}{i:N}{l:U×M az}(h:ls[i]?=some l):((ls.take (i+1)).flatMap (·.2))=(ls.take i).flatMap (·.2)++l.2:=by rw[gS,h,Option.toList,hz];simp
def agb(ls:M (U×M az))(i:N):((ls.take i).flatMap (·.2)).length<=(ls.flatMap (·.2)).length:=by
 conv=>rhs;rw[<-u2 i ls]
 rw[hz,ez];omega
def spec.Ia{u:H}{s:U}{ls:M (U×M az)}{K:U->H->Prop}(ag:br u s 1 (ls.flatMap λl=>encS l.1))(ar:∀l∈ls,br u l.1 2 (l.2.flatMap cR))(ae:(ls.flatMap (·.2)).length<=1000000)
  (au:∀aq u',aJ u u' 52 2 aq ((ls.flatMap (·.2)).flatMap cR)->K aq u'):C.Ia s u K:=by
 have hlen:∀l:U×M az,(encS l.1).length=1:=λ_=>rfl
 have dw:s.n=ls.length:=gW hlen (by decide) ag
 have fB:=jg ag.cap ag.max
 have at':∀{v:H} {x:o},u.le v->0<=x->x<(s.n:o)->∃p l,s.a=some p/\ls[x.toNat]?=some l/\v.cell? (p.add (x.toNat*1))=some (.slice l.1.a l.1.n l.1.c)/\br v l.1 2 (l.2.flatMap cR)/\l.1.n=l.2.length:=λ{v x} aA bL dC=>by
  have eR:x.toNat<ls.length:=by omega
  have J:ls[x.toNat]?=some ls[x.toNat]:=cr eR;obtain⟨p,ad,I⟩:=br.elem hlen (by decide) (ag.mono aA) J;have h2:=(ar _ (kE eR)).mono aA;exact⟨p,_,ad,J,I 0 _ rfl,h2,gW fI (by decide) h2⟩
 apply aG.Ia
 refine⟨λn i v=>v=u/\0<=i/\i<=s.n/\n=(((ls.take i.toNat).flatMap (·.2)).length:N),λ_ i _=>((s.n:o)-i).toNat,⟨rfl,by omega,by omega,by simp⟩,?_⟩
 rintro n i v ⟨rfl,i0,i1,rfl⟩
 refine⟨λhi=>?_,λhi=>?_⟩
 obtain⟨p,l,ad,J,bJ,h2,h3⟩:=at' (H.le.refl v) i0 hi
 have dB:=agc J
 have hle:=agb ls (i.toNat+1)
 rw[dB,ez] at hle
 refine⟨p,ad,⟨i0,hi⟩,_,bJ,⟨by omega,by omega⟩,λh=>by omega,λ_=>⟨⟨by omega,by omega⟩,⟨rfl,by omega,by omega,?_⟩,by dsimp only;omega⟩⟩
 rw[show(i+1).toNat=i.toNat+1 by omega,dB,ez,h3]
 simp
 have dX:ls.take i.toNat=ls:=hR (by omega)
 rw[dX]
 refine spec.Ie ae λQs u8 aw9 n7=>?_
 refine⟨λp9 x w=>0<=x/\x<=s.n/\aJ v w 52 2 p9 (((ls.take x.toNat).flatMap (·.2)).flatMap cR),λ_ x _=>((s.n:o)-x).toNat,⟨by omega,by omega,by simpa using aw9⟩,?_⟩
 rintro p9 x w ⟨bL,dC,aa⟩
 refine⟨λJ=>?_,λJ=>?_⟩
 obtain⟨p,l,ad,eR,bJ,h2,h3⟩:=at' aa.le bL J
 have dB:=agc eR
 have hle:=agb ls (x.toNat+1)
 rw[dB,ez] at hle
 have ux:p9.n=((ls.take x.toNat).flatMap (·.2)).length:=gW fI (by decide) aa.own.cE
 refine⟨p,ad,⟨bL,J⟩,_,bJ,alG kF (by decide) aa h2 XK (by omega) (by omega) λaq u' bP _=>⟨⟨by omega,by omega⟩,⟨by omega,by omega,?_⟩,by dsimp only;omega⟩⟩
 rw[show(x+1).toNat=x.toNat+1 by omega,dB,hz]
 exact bP
 rw[hR (by omega)] at aa
 exact au _ _ aa
namespace j1
section
variable{ai u:H}{b:N}
def amZ(T:aQ):(qh T.w).length=T.w.length:=by simp[qh]
def dS.alk{T:aQ}(h:dS T):(aR T).length=T.w.length:=by rw[h.CB];simp[aR]
def spec.An{af:N->ay bp}{T:aQ}{K:o->H->Prop}(h:In ai u af b T)(aT:dS T)(au:K (aR T).length u):C.TQ (some ⟨b,0,none⟩) u K:=by obtain⟨_,_,_,fg⟩:=kP h.aI;apply aG.TQ;refine⟨λe=>(by cases e),λ_=>⟨_,rfl,_,fg,wJ LQ h.aI.map ?_⟩⟩;rw[amZ,<-aT.alk];exact au
def spec.Rows{af:N->ay bp}{T:aQ}{K:U->H->Prop}(h:In ai u af b T)(aT:dS T)(au:∀s ls u',rU u u' s ls->(ls.map az.bz).Perm (aR T)->(ls.Pairwise λa b=>a.id<=b.id)->K s u'):
  C.TS (some ⟨b,0,none⟩) u K:=by
 obtain⟨_,_,c2,_⟩:=kP h.aI
 have hw:=aT.CB
 have fB:=aT.small
 have aA:∀r∈T.ls.flatMap (·.2),Ints u r.s r.v:=λr O=>by obtain⟨l,ar,kX⟩:=ej.1 O;obtain⟨i,hi,rfl⟩:=pt ar;exact((h.aI.list i _ (cr hi)).2.2 r kX).1
 apply aG.TS
 refine⟨λe=>(by cases e),λ_=>⟨_,rfl,T.bi,c2,spec.Ia h.aI.n1.cE (λl ar=>?_) (by omega) λaq u' aa=>?_⟩⟩
 obtain⟨i,hi,rfl⟩:=pt ar
 exact(h.aI.list i _ (cr hi)).1.cE
 have O:en u' aq (T.ls.flatMap (·.2)):=⟨aa.own.cE,λr O=>(aA r O).mono aa.le⟩
 refine spec.kV O (λr O=>?_) (by omega) (λr O=>?_) λs2 ls dc bX ad ag=>?_
 obtain⟨l,ar,kX⟩:=ej.1 O
 exact aT.ids l ar r kX
 obtain⟨l,ar,kX⟩:=ej.1 O
 have:=(aT.vec l ar r kX).1
 have:=aT.hl
 omega
 exact au s2 ls dc ⟨bX.own.weaken aa.le,λr O=>(bX.inner r O).weaken aa.le,bX.eB,bX.apart⟩ ad ag
structure tP(ai u:H)(af:N->ay bp)(b:N)(T:aQ)(id:o)(v:M o)(u':H)(aX:N->ay bp)(bt:aQ):Prop where
 is:In ai u' aX b bt
 eP:hN u af u' aX
 ok:dS bt
 rows:(aR bt).Perm ((id,v)::(aR T).filter λx=>x.1 !=id)
 an:bt.an=T.an
 cs:bt.cs=T.cs
def spec.CJ{af:N->ay bp}{T:aQ}{id:o}{t:U}{q:M o}{K:aK->o->H->Prop}(h:In ai u af b T)(aT:dS T)(ht:Ints u t q)(o6:∀aU c5,ai.le aU->hN u af aU c5->Ints aU t q)
  (di:fu id q T.an (decide (id∈(aR T).map (·.1))) (aR T).length≠0->K ax (fu id q T.an (decide (id∈(aR T).map (·.1))) (aR T).length) u)
  (bE:fu id q T.an (decide (id∈(aR T).map (·.1))) (aR T).length=0->∀u' aX bt,tP ai u af b T id q u' aX bt->K (decide (id∉(aR T).map (·.1))) 0 u'):C.TR (some ⟨b,0,none⟩) id t u K:=by
 obtain⟨bJ,_,_,fg⟩:=kP h.aI
 have ku:(id∈T.w.map (·.1))↔id∈(aR T).map (·.1):=by rw[abl];exact aT.aeq
 have Fk:decide (id∈T.w.map (·.1))=decide (id∈(aR T).map (·.1)):=B8.2 ku
 have hlen:=aT.alk
 apply aG.TR
 refine⟨λe=>(by cases e),λ_=>⟨_,rfl,_,fg,?_⟩⟩
 refine tB LQ h.aI.map (ct:=.int .i64) (((sS T.w id).getD 0:N):o) (by rw[MT];cases sS T.w id<;>rfl) ?_
 have iE:(fR (qh T.w) id).isSome=decide (id∈(aR T).map (·.1)):=by
  rw[<-Fk,MT,U5];cases e:sS T.w id with
  |none=>rw[p7 (Sc.1 e)];rfl|some k=>rw[mm (bf.2 ⟨_,Sb e,rfl⟩)];rfl
 rw[iE]
 refine⟨_,rfl,_,rfl,_,bJ,_,fg,wJ LQ h.aI.map ⟨H.le.refl u,spec.q9 ht ?_⟩⟩
 rw[amZ,<-hlen]
 refine⟨λal=>di al,λhe=>?_⟩
 have bE:=bE he
 obtain⟨d1,d2,uI,d4⟩:1<=id/\id<=1000000000/\gV q T.an=0/\(decide (id∈(aR T).map (·.1))=ax->((aR T).length:o)<512):=by unfold fu at he;split at he;cases he;rename_i h1;split at he;rename_i h2;exact aW he h2;rename_i h2;split at he;cases he;rename_i h3;refine⟨by omega,by omega,by simpa using h2,λe=>?_⟩;by_cases a7:((aR T).length:o)<512;exact a7;exact aW ⟨e,by omega⟩ h3
 obtain⟨aS,aB,cW,fN⟩:=oh uI
 have lay:∀(aU:H) (c5:N->ay bp) (bb:aQ),In ai aU c5 b bb->hN u af aU c5->dS bb->id∉bb.w.map (·.1)->bb.w.length<512->aR bb=(aR T).filter (λx=>x.1 !=id)->bb.an=T.an->bb.cs=T.cs->
   C.iH t aU λdt gN=>H.le aU gN/\C.GS (some ⟨b,0,none⟩) id dt gN λyt=>K (!decide (decide (id∈(aR T).map (·.1))=ak)) 0 yt:=by
  intro aU c5 bb h1 ns sT gp gn vT nm ho
  have rh:=o6 aU c5 h1.le ns
  refine spec.iH rh (by have:=rh.len;omega) λdt gN fJ _=>⟨fJ.le,?_⟩
  have xf:=h1.mono bN fJ.le
  obtain⟨ib,h2,xP,j6⟩:=xf.tag bN (dt.wN .vec) λc I=>by have c9:=U.azJ I;have Z:=fJ.fresh c c9;exact⟨h1.fresh Z,h1.le.none Z,dE fJ c9⟩
  have t2:hN u af gN ib:=by
   refine(ns.trans (hN.mono fJ.le)).tag λc=>?_;by_cases e:dt.aj=some c;right;have Z:=fJ.fresh c e;cases gw:u c with
   |none=>exact .inr rfl|some z=>refine .inl λnk=>?_;rw[ns.bN c z gw nk] at Z;cases Z
   exact .inl (j6 c (U.amv e))
  refine spec.lay h2 sT gp ⟨d1,d2⟩ fJ.ints (λg W=>xP g _ (U.azI W)) ⟨by rw[nm];exact cW,fN⟩ gn λyt oZ ET O=>?_
  have ab:(!decide (decide (id∈(aR T).map (·.1))=ak))=decide (id∉(aR T).map (·.1)):=by by_cases b6:id∈(aR T).map (·.1)<;>simp[b6]
  rw[ab]
  exact bE yt oZ ET ⟨O.is,t2.trans O.eP,O.ok,by rw[<-vT];exact O.rows,O.an.trans nm,O.cs.trans ho⟩
 refine spec.vk h aT (λdV aU hr=>?_) λb6 aU c5 bb O=>?_
 refine lay aU af T (h.mono bN hr) (hN.mono hr) aT dV ?_ ?_ rfl rfl
 have:=d4 (p7 λhm=>dV (ku.2 hm))
 omega
 refine(p6.2 λx J=>?_).symm
 have:x.1≠id:=λe=>dV (ku.2 (bf.2 ⟨x,J,e⟩))
 simpa using this
 refine lay aU c5 bb O.is O.eP O.ok ?_ ?_ O.rows O.an O.cs
 rw[O.w]
 intro hm
 obtain⟨p,ad,e⟩:=bf.1 hm
 have:=(iT.1 ad).2
 simp[e] at this
 rw[O.w]
 have ag:=aT.small
 obtain⟨p,ad,e⟩:=bf.1 b6
 have:(T.w.filter λp=>p.1 !=id).length<T.w.length:=Lr.2 ⟨p,ad,by simp[e]⟩
 omega
def azB:kH aH 211=some (167,1,8,[.pointer none]):=by kernel_rfl
def aoF(n:N):kG aH 211 1 #[(0,.pointer (some ⟨n,0,none⟩))]=some (167,[.pointer (some ⟨n,0,none⟩)]):=by kernel_rfl
def anY{u':H}{aD ss sr:U}{gI:M bO}{seen:M o}{rest:M cn}(h:jQ u u' aD ss sr gI seen rest)(hu:ai.le u):jQ ai u' aD ss sr gI seen rest:=
 ⟨h.h.weaken hu,h.s.weaken hu,h.r.weaken hu,λr O=>⟨(h.g r O).l.weaken hu,(h.g r O).h.weaken hu,(h.g r O).i.weaken hu⟩,h.eB⟩
def axm:∀(cs:M (U×M o)) (ls:M (U×M az)) {i:N} {c l},cs[i]?=some c->ls[i]?=some l->(x4 cs ls)[i]?=some (KR c.2 l.2):=by
 intro cs;induction cs with
 |nil=>intro ls i c l h;simp at h
 |cons x cs aM=>
  intro ls i c l h1 h2;cases ls with
  |nil=>simp at h2|cons y ls=>
   cases i with
   |zero=>simp only[BW,kb] at h1 h2;subst h1;subst h2;rfl|succ i=>simp only[x9] at h1 h2;exact aM ls h1 h2
def axn:∀(cs:M (U×M o)) (ls:M (U×M az)),cs.length=ls.length->(x4 cs ls).length=ls.length/\bF.hB (x4 cs ls)=ls.length:=by
 intro cs;induction cs with
 |nil=>intro ls h;cases ls with
  |nil=>exact⟨rfl,rfl⟩|cons=>simp at h
 |cons x cs aM=>
  intro ls h;cases ls with
  |nil=>simp at h|cons y ls=>
   obtain⟨h1,h2⟩:=aM ls (by simpa using h);simp only[x4,hX,bF.hB,h1,h2];refine⟨trivial,?_⟩;have:(KR x.2 y.2).size=1:=by rw[bF.size_eq];rfl
   omega
def spec.Search{af:N->ay bp}{T:aQ}{t:U}{q:M o}{k bud:o}{K:U->U->U->o->H->Prop}(h:In ai u af b T)(aT:dS T)(ht:Ints u t q)
  (di:gE q T.an k bud≠0->K ⟨none,0,0⟩ ⟨none,0,0⟩ ⟨none,0,0⟩ (gE q T.an k bud) u)
  (bE:gE q T.an k bud=0->∀aD ss sr rest u',jQ u u' aD ss sr (il T q k bud) (fU T q k bud) rest->rest.map cn.core=jF T q k bud->K aD ss sr 0 u'):C.TT (some ⟨b,0,none⟩) t k bud u K:=by
 obtain⟨bJ,c1,c2,fg⟩:=kP h.aI
 apply aG.TT
 refine⟨λe=>(by cases e),λ_=>⟨_,rfl,_,bJ,spec.qq ht ⟨λal=>di al,λhe=>⟨_,rfl,T.bi,c2,?_⟩⟩⟩⟩
 obtain⟨aA,b3,cu,gd,hE⟩:gV q T.an=0/\1<=k/\k<=64/\0<=bud/\bud<=1000000:=by unfold gE at he;split at he;rename_i h1;exact aW he h1;rename_i h1;split at he;cases he;exact⟨by simpa using h1,by omega,by omega,by omega,by omega⟩
 obtain⟨_,_,qA,Bx⟩:=oh aA
 have Tc:=h.aI.abX
 have JU:=aT.many
 have aBj:=h.aI.yv.len
 have fz:=aT.Vg
 have asa:(T.ls.flatMap (·.2)).length<=512:=by rw[<-aT.CB];exact aT.small
 refine⟨λfP x w=>0<=x/\x<=T.bi.n/\∃(ms:M N) (LO:H),ms.length=x.toNat/\aJ u w 167 1 fP (ms.map λn=>.pointer (some ⟨n,0,none⟩))/\u.le LO/\LO.le w/\(∀g,fP.aj=some g->LO g=none)/\
   ∀(i:N) m p,ms[i]?=some m->(x4 T.cs T.ls)[i]?=some p->nc LO m p,λ_ x _=>((T.bi.n:o)-x).toNat,
  ⟨by omega,by omega,[],u,rfl,aJ.nil (H.le.refl u) _ _,H.le.refl u,H.le.refl u,λg W=>by simp[U.aj] at W,λi m p hm=>by simp at hm⟩,?_⟩
 rintro fP x w ⟨bL,dC,ms,LO,N3,aa,amH,ee,ar6,aiM⟩
 have nV:fP.n=ms.length:=by have:=aa.own.len;simpa using this.symm
 refine⟨λJ=>?_,λJ=>?_⟩
 have eR:x.toNat<T.ls.length:=by omega
 have ar:T.ls[x.toNat]?=some T.ls[x.toNat]:=cr eR
 have ow:T.cs[x.toNat]?=some T.cs[x.toNat]:=cr (by omega)
 generalize T.ls[x.toNat]=l at ar
 generalize T.cs[x.toNat]=c at ow
 obtain⟨cX,y1,Ng⟩:=h.aI.list _ l ar
 obtain⟨pJ,_⟩:=h.aI.tW _ c ow
 obtain⟨cd,vu⟩:=aT.I3 c (dK ow)
 obtain⟨p,ad,I⟩:=br.elem CY (by decide) (h.aI.n1.cE.mono aa.le) ar
 obtain⟨wk,kx,c9⟩:=br.elem vw (by decide) (h.aI.yN.mono aa.le) ow
 have kX:hD l.2 c.2.length:=by rw[cd];exact fz.sub (Ev (f:=λl:U×M az=>l.2) (dK ar))
 have kZ:en u l.1 l.2:=⟨cX.cE,λr O=>(Ng r O).1⟩
 refine⟨p,ad,⟨bL,J⟩,l.1,I 0 _ rfl,_,rfl,T.k9,aa.le.cell c1,wk,kx,⟨bL,by omega⟩,c.1,c9 0 _ rfl,?_⟩
 refine spec.Cr (pJ.mono aa.le) vu (kZ.mono aa.le) kX λaq lo mU nn n25 JY=>?_
 obtain⟨D2,aiK⟩:∃D2,D2=(bC #[.int .i64 3,.slice aq.a aq.n aq.c,.slice none 0 0,.int .u64 (dk (oI c.2 l.2 l.2.length)),.int .u64 (dr (oI c.2 l.2 l.2.length)),.slice none 0 0,.slice l.1.a l.1.n l.1.c,.slice none 0 0] 213 (0,0)):=⟨_,rfl⟩
 show dd aH _ _ (mU.ins n25 (bC #[.int .i64 3,.slice aq.a aq.n aq.c,.slice none 0 0,.int .u64 (dk (oI c.2 l.2 l.2.length)),.int .u64 (dr (oI c.2 l.2 l.2.length)),.slice none 0 0,.slice l.1.a l.1.n l.1.c,.slice none 0 0] 213 (0,0))) _
 rw[<-aiK]
 have KE:=H.b1 (u:=mU) (b:=n25) D2 JY
 have ajl:w.le (mU.ins n25 D2):=nn.le.trans KE
 have ah8:∀g,fP.aj=some g->w g≠none:=λg W=>dE aa W
 have awG:w n25=none:=nn.le.none JY
 have n258:fP.aj≠some n25:=λe=>ah8 n25 e awG
 have ayr:∀g,aq.aj=some g->fP.aj≠some g:=λg W e=>ah8 g e (nn.fresh g W)
 have De:LO.le (H.nC (mU.ins n25 D2) fP):=λg z W=>by
  have:fP.aj≠some g:=λe=>by rw[ar6 g e] at W;cases W
  rw[nD this];exact ajl _ _ (ee _ _ W)
 have new:nc (H.nC (mU.ins n25 D2) fP) n25 (KR c.2 l.2):=by
  have awm:u.le (H.nC (mU.ins n25 D2) fP):=amH.trans De;refine .mk aq ⟨none,0,0⟩ ⟨none,0,0⟩ l.1 ⟨none,0,0⟩ l.2 [] (by rw[nD n258,H.bh,aiK];rfl) rfl (br.else nn.ints λg z W rf=>by rw[nD (ayr g W)];exact KE _ _ rf) ?_ (kZ.mono awm) rfl ?_ rfl λi m k hm=>by simp at hm
  exact⟨rfl,cA _,by decide,.inl rfl⟩;exact⟨rfl,cA _,by decide,.inl rfl⟩
 refine oc azB (aoF n25) (by decide) rfl (by simp[cT]) (aa.mono ajl) (by show fP.n<_;omega) (by show(fP.n+1)*_<=_;omega) λaCy amF at4 aBJ eC eu _=>⟨⟨by omega,by omega⟩,⟨by omega,by omega,ms++ [n25],H.nC (mU.ins n25 D2) fP,by simp;omega,by rw[ek];exact at4,amH.trans De,λg z W=>eC g z (LA W).1 (LA W).2,λg W=>?_,λi m p hm eY=>?_⟩,by dsimp only;omega⟩
 rcases eu g W with h1|h1
 show(if fP.aj=some g then none else _)=none
 rw[a1 h1]
 by_cases e:fP.aj=some g
 show(if fP.aj=some g then none else _)=none
 rw[a1 e]
 rw[nD e];exact h1
 rw[List.getElem?_append] at hm
 split at hm
 exact(aiM i m p hm eY).mono De
 rename_i gG
 have hi:i=ms.length:=by have:=(jM.1 hm).1;simp at this;omega
 subst hi
 simp at hm
 subst hm
 rw[N3,axm T.cs T.ls ow ar] at eY
 rw[<-cU eY]
 exact new
 obtain⟨axw,aCq⟩:=axn T.cs T.ls JU.1
 have dX:=akB T.cs T.ls JU.1
 refine spec.ua (ms:=ms) (P:=x4 T.cs T.ls) aa.own.cE (by rw[axw];omega) (λi m p h1 h2=>(aiM i m p h1 h2).mono ee) (akC T.cs T.ls (λc I=>by rw[qA];exact aT.I3 c I) λl ar=>?_) (ht.mono aa.le) Bx b3 cu gd hE (by omega) (by rw[dX,de];omega) (λy ah=>?_) λaD ss sr R u' aE bX=>?_
 rw[qA]
 exact fz.sub (Ev (f:=λl:U×M az=>l.2) ar)
 rw[dX] at ah
 obtain⟨r,O,rfl⟩:=bf.1 ah
 have:=fz.v r O
 exact⟨by rw[qA];exact this.1,this.2⟩
 exact bE he aD ss sr R u' (anY aE aa.le) bX
end
end j1
section
variable{u ai:H}{s:U}{cs:M (U×M o)}{i d:N}{v:M o}{vs:M (M o)}
def VQ:kH aH 133=some (30,1,24,[.slice none 0 0]):=by kernel_rfl
structure fQ(ai u:H)(s:U)(cs:M (U×M o)):Prop where
 own:aJ ai u 30 1 s (cs.flatMap λc=>encS c.1)
 inner:∀c∈cs,aJ ai u 3 1 c.1 (c.2.flatMap encI)
 eB:∀c∈cs,dH s c.1
 apart:cs.Pairwise λa b=>dH a.1 b.1
def fQ.yv(h:fQ ai u s cs):mA u s cs:=⟨h.own.own.cE,λc I=>(h.inner c I).ints⟩
def fQ.mono{u':H}(h:fQ ai u s cs)(k:u.le u'):fQ ai u' s cs:=⟨h.own.mono k,λc I=>(h.inner c I).mono k,h.eB,h.apart⟩
def fQ.weaken{aU:H}(h:fQ aU u s cs)(k:ai.le aU):fQ ai u s cs:=⟨h.own.weaken k,λc I=>(h.inner c I).weaken k,h.eB,h.apart⟩
def fQ.len(h:fQ ai u s cs):s.n=cs.length:=h.yv.len
def fQ.else{u':H}{t:U}(h:fQ ai u s cs)(he:gO u u' t)(ht:∀g,t.aj=some g->ai g=none)(h1:dH t s)(h2:∀c∈cs,dH t c.1):fQ ai u' s cs:=
 ⟨aJ.else h.own he ht h1,λc I=>aJ.else (h.inner c I) he ht (h2 c I),h.eB,h.apart⟩
def fQ.none{k:N}(h:aJ ai u 30 1 s ((fX k ((⟨none,0,0⟩:U),([]:M o))).flatMap λc=>encS c.1)):fQ ai u s (fX k (⟨none,0,0⟩,[])):=by refine⟨h,λc I=>?_,λc I=>?_,?_⟩;rw[(u3.1 I).2];exact aJ.nil h.le _ _;rw[(u3.1 I).2];intro g _ W;simp[U.aj] at W;rw[ac2];exact .inr λg W=>by simp[U.aj] at W
def akz{α:Type}{R:α->α->Prop}{l:M α}(h:l.Pairwise R)(ag:∀a b,R a b->R b a){y:α}(ah:∀j Y,j≠i->l[j]?=some Y->R Y y):(l.set i y).Pairwise R:=by rw[qN];intro a b aE ab YI;rw[qK] at aE ab;rw[ac5,ac5];split;rename_i e;split;omega;rename_i aB;exact ag _ _ (ah b _ (dz aB) (cr ab));rename_i e;split;exact ah a _ (dz e) (cr aE);exact qN.1 h a b aE ab YI
def mem_set{α:Type}{l:M α}{y Y:α}(h:Y∈l.set i y):Y=y∨∃j,j≠i/\l[j]?=some Y:=by obtain⟨j,aP,rfl⟩:=pt h;rw[qK] at aP;rw[ac5];split;exact .inl rfl;rename_i e;exact .inr ⟨j,dz e,cr aP⟩
def Sd{α:Type}{l:M α}{j:N}{y Y:α}(h:(l.set i y)[j]?=some Y):(j=i/\Y=y)∨(j≠i/\l[j]?=some Y):=by by_cases e:j=i;subst e;have ar:j<(l.set j y).length:=(jM.1 h).1;rw[qK] at ar;rw[zX ar] at h;exact .inl ⟨rfl,(cU h).symm⟩;rw[u0 (dz e)] at h;exact .inr ⟨e,h⟩
def fQ.alR(h:fQ ai u s cs){j:N}{c:U×M o}(hi:cs[i]?=some c)(aP:j<c.2.length){p:bc}(ad:c.1.a=some p){x:o}{f:H->Prop}
  (Z:∀u',fQ ai u' s (cs.set i (c.1,c.2.set j x))->gO u u' c.1->f u'):H.aO u (p.add (j*1)) [.int .i64 x] f:=by
 have I:=dK hi
 have eO:i<cs.length:=(jM.1 hi).1
 have sN:cs[i]=c:=(jM.1 hi).2
 have other:∀Y k,k≠i->cs[k]?=some Y->dH c.1 Y.1:=λY k hk aC=>by have jn:=(jM.1 aC).1;have afN:=(jM.1 aC).2;rcases Nat.lt_or_gt_of_ne hk with h1|h1;have:=qN.1 h.apart k i jn eO h1;rw[afN,sN] at this;exact this.symm;have:=qN.1 h.apart i k eO jn h1;rw[afN,sN] at this;exact this
 refine aJ.store (enc:=encI) nO (h.inner c I) (by decide) (i:=j) aP (y:=x) (by simp[encI,cT]) ad λu' aa he _=>Z u' ⟨?_,λY aC=>?_,λY aC=>?_,?_⟩ he
 have e:(cs.set i (c.1,c.2.set j x)).flatMap (λc=>encS c.1)=cs.flatMap λc=>encS c.1:=by
   have:(cs.set i (c.1,c.2.set j x)).map (λc=>c.1)=cs.map λc=>c.1:=by rw[HO];apply sk;intro m;rw[BX];split;rename_i e;subst e;rw[a1 (by simpa using eO),iR,hi];rfl;rfl
   have aB:∀l:M (U×M o),l.flatMap (λc=>encS c.1)=(l.map λc=>c.1).flatMap encS:=λl=>by rw[B6]
   rw[aB,this,<-aB]
 rw[e]
 exact aJ.else h.own he (h.inner c I).fresh (h.eB c I).symm
 rcases mem_set aC with rfl|⟨k,hk,aC⟩
 exact aa
 exact aJ.else (h.inner Y (dK aC)) he (h.inner c I).fresh (other Y k hk aC)
 rcases mem_set aC with rfl|⟨k,hk,aC⟩
 exact h.eB c I
 exact h.eB Y (dK aC)
 exact akz h.apart (λa b h=>h.symm) λk Y hk aC=>(other Y k hk aC).symm
def fQ.put{aU:H}{t:U}(h:fQ ai u s cs)(ht:aJ u aU 3 1 t (v.flatMap encI))(hi:i<cs.length){p:bc}(ad:s.a=some p){f:H->Prop}
  (Z:∀u',fQ ai u' s (cs.set i (t,v))->gO aU u' s->f u'):H.aO aU (p.add (i*1)) [.slice t.a t.n t.c] f:=by
 have h1:=h.mono ht.le
 have rv:ai.le u:=h.own.le
 have XF:∀{e k:N} {x:U} {xs:M ap},aJ ai u e k x xs->dH x t:=λJ=>aJ.eB J (H.le.refl u) ht
 refine aJ.store (enc:=λc:U×M o=>encS c.1) vw h1.own (by decide) (i:=i) hi (y:=(t,v)) (by simp[encS,cT]) ad λu' aa he _=>Z u' ⟨aa,λY aC=>?_,λY aC=>?_,?_⟩ he
 rcases mem_set aC with rfl|⟨k,hk,aC⟩
 exact aJ.else (ht.weaken rv) he h.own.fresh (XF h.own)
 exact aJ.else (h1.inner Y (dK aC)) he h.own.fresh (h.eB Y (dK aC))
 rcases mem_set aC with rfl|⟨k,hk,aC⟩
 exact XF h.own
 exact h.eB Y (dK aC)
 exact akz h.apart (λa b h=>h.symm) λk Y hk aC=>XF (h.inner Y (dK aC))
def KM(cs:M (M o))(v:M o):N:=(mg cs v cs.length).1
def lZ(cs vs:M (M o))(i:N):M (M o):=vs.filter λv=>decide (KM cs v=i)
def qd(m:M (M o))(j:N):o:=(m.map λv=>v.getD j 0).sum
def zw(m:M (M o))(d:N):M o:=(lM d).map λj=>qd m j/(m.length:o)
def Ca(d:N)(vs cs:M (M o)):M (M o):=(lM cs.length).map λi=>if lZ cs vs i=[] then cs.getD i [] else zw (lZ cs vs i) d
def adh(d:N)(vs cs:M (M o)):(Ca d vs cs).length=cs.length:=by simp[Ca]
def ayf{cs:M (M o)}(h:i<cs.length):(Ca d vs cs)[i]?=some (if lZ cs vs i=[] then cs.getD i [] else zw (lZ cs vs i) d):=by unfold Ca;rw[iR,P7 h];rfl
def akf{cs:M (M o)}{x:N}(h:vs[x]?=some v)(i:N):lZ cs (vs.take (x+1)) i=lZ cs (vs.take x) i++(if KM cs v=i then[v] else[]):=by unfold lZ;rw[gS,h,Option.toList,zW];by_cases e:KM cs v=i<;>simp[e]
def azq(a b:M (M o))(j:N):qd (a++b) j=qd a j+qd b j:=by unfold qd;rw[ek,List.sum_append]
def azr(v:M o)(j:N):qd [v] j=v.getD j 0:=by simp[qd]
def aml(j:N):qd [] j=0:=rfl
def afr(h:dj v)(j:N):-2147483647<=v.getD j 0/\v.getD j 0<=2147483647:=by by_cases aP:j<v.length;exact h.2 j aP;rw[du,iy (by omega)];decide
def adP{m:M (M o)}(h:∀v∈m,dj v)(j:N):-2147483647*(m.length:o)<=qd m j/\qd m j<=2147483647*(m.length:o):=by
 induction m with
 |nil=>simp[qd]|cons v m aM=>
  have h1:=afr (h v (fW ..)) j;have h2:=aM λw hw=>h w (gi _ hw);have e:qd (v::m) j=v.getD j 0+qd m j:=by simp[qd]
  rw[e,hX];omega
def awt{m:M (M o)}(h:∀v∈m,dj v)(hm:m≠[])(aw:d<=64):dj (zw m d)/\(zw m d).length=d:=by
 have ar:(zw m d).length=d:=by simp[zw]
 refine⟨⟨by omega,λi hi=>?_⟩,ar⟩;have ad:(0:o)<(m.length:o):=by have:=wx.2 hm;omega
 have e:(zw m d).getD i 0=qd m i/(m.length:o):=by unfold zw;rw[du,iR,P7 (by omega)];rfl
 rw[e];obtain⟨h1,h2⟩:=adP h i;exact⟨Int.le_ediv_of_mul_le ad h1,Int.ediv_le_of_le_mul ad h2⟩
def ab4{cs:M (M o)}(h:v∈lZ cs vs i):v∈vs:=(iT.1 h).1
def ake(cs vs:M (M o))(i:N):(lZ cs vs i).length<=vs.length:=wB _ _
def alm{cs:M (M o)}(aA:∀v∈vs,dj v)(aw:d<=64)(I:∀c∈cs,c.length=d/\dj c):∀c∈Ca d vs cs,c.length=d/\dj c:=by
 intro c cH;obtain⟨i,hi,rfl⟩:=bf.1 cH;have eO:i<cs.length:=K9.1 hi;split;have:cs.getD i []∈cs:=by rw[du,cr eO];exact kE eO
 exact I _ this;rename_i al;obtain⟨h1,h2⟩:=awt (d:=d) (λv hs=>aA v (ab4 hs)) al aw;exact⟨h2,h1⟩
def apw{a b:o}(ab:0<b):(ps a b<0->gR a b-1=a/b)/\(¬ps a b<0->gR a b=a/b):=by
 have h1:=Int.mul_tdiv_add_tmod a b;have h2:=Int.mul_ediv_add_emod a b;have h3:=Qc a (show b≠0 by omega);have a7:=Qd a ab;have bK:(ps a b).natAbs<b.natAbs:=by rw[Int.natAbs_tmod];exact HH _ (by omega)
 have key:∀q r BR df:o,b*q+r=b*BR+df->0<=r->r<b->0<=df->df<b->q=BR:=by
  intro q r BR df he mS l2 aCr aCs;have aS:b*(q-BR)=df-r:=by rw[Int.mul_sub];omega
  by_cases aN:q=BR;exact aN;rcases Int.lt_or_gt_of_ne aN with h|h;have:b*(q-BR)<=b*(-1):=Ln (by omega) (by omega);omega;have:b*1<=b*(q-BR):=Ln (by omega) (by omega);omega
 constructor;intro ae;refine key _ (ps a b+b) _ (a%b) ?_ (by omega) (by omega) h3 a7;rw[Int.mul_sub];omega;intro ae;exact key _ (ps a b) _ (a%b) (by omega) (by omega) (by omega) h3 a7
def spec.GX{a b:o}{K:o->H->Prop}(ab:0<b)(h1:-10000000000000<=a)(h2:a<=10000000000000)(au:K (a/b) u):C.GX a b u K:=by obtain⟨d1,d2⟩:=apw (a:=a) ab;have Gs:-10000000000000<=a/b:=Int.le_ediv_of_mul_le ab (by have:-10000000000000*b<=-10000000000000*1:=Int.mul_le_mul_of_nonpos_left (by omega) (by omega);omega);have Ow:a/b<=10000000000000:=Int.ediv_le_of_le_mul ab (by have:10000000000000*1<=10000000000000*b:=Ln (by omega) (by omega);omega);apply aG.GX;refine⟨by omega,?_,by omega,λae=>?_,λae=>?_⟩;by_cases ae:ps a b<0;have:=d1 ae;exact⟨by omega,by omega⟩;have:=d2 ae;exact⟨by omega,by omega⟩;rw[d1 ae];exact⟨⟨by omega,by omega⟩,au⟩;rw[d2 ae];exact au
def adA{n:o}(h0:0<=n)(ae:n<=1000000){K:U->H->Prop}(au:∀s u',aJ u u' 3 1 s ((fX n.toNat (0:o)).flatMap encI)->(s.n:o)=n->K s u'):
  dd aH (to 30 (.int .i64 n) (.int .i64 n)) [.one .slice] u K:=by
 refine Qx oN h0 (nA _) (by omega) (by omega) λg W=>?_
 have vM:(ny [cY .i64 0].toArray (n.toNat*1)).toList=(fX n.toNat (0:o)).flatMap encI:=Hc (enc:=encI) nO (by decide) 0 n.toNat
 have cI:(ny [cY .i64 0].toArray (n.toNat*1)).size=n.toNat*1:=by have:=ei iS vM;rw[rL,nQ nO] at this;simpa using this
 have aa:=aJ.make (k:=1) (H.le.refl u) W (cells:=ny [cY .i64 0].toArray (n.toNat*1)) (e:=3) (n:=n.toNat) (by omega) cI
 rw[vM] at aa
 exact au _ _ aa (by show((n.toNat:N):o)=n;omega)
def alJ{n:o}(h0:0<=n)(ae:n<=1000000){K:U->H->Prop}(au:∀s u',fQ u u' s (fX n.toNat (⟨none,0,0⟩,[]))->(s.n:o)=n->K s u'):
  dd aH (to 133 (.int .i64 n) (.int .i64 n)) [.one .slice] u K:=by
 refine Qx VQ h0 (nA _) (by omega) (by omega) λg W=>?_
 have vM:(ny [ec none 0 0].toArray (n.toNat*1)).toList=(fX n.toNat ((⟨none,0,0⟩:U),([]:M o))).flatMap λc=>encS c.1:=Hc (enc:=λc:U×M o=>encS c.1) vw (by decide) (⟨none,0,0⟩,[]) n.toNat
 have cI:(ny [ec none 0 0].toArray (n.toNat*1)).size=n.toNat*1:=by have:=ei iS vM;rw[rL,nQ vw] at this;simpa using this
 have aa:=aJ.make (k:=1) (H.le.refl u) W (cells:=ny [ec none 0 0].toArray (n.toNat*1)) (e:=30) (n:=n.toNat) (by omega) cI
 rw[vM] at aa
 exact au _ _ (fQ.none aa) (by show((n.toNat:N):o)=n;omega)
end
