/- Texts of mine, joined and packed by pack.py. -/
import Derived.Test.YtejdhbfjjgcljaaGreatDoorMrb13
set_option linter.all false
open _root_ renaming Nat->N,List->M,Option->aA,Array->cv,Int->o,Bool->aD,False->ed,absurd->aV
open Go renaming Value->ao,World->cg,TypeId->dF,FuncId->jQ,Addr->bc
open Bool renaming true->ak,false->ax
open Go.Obj renaming cells->bj
open Go.IntKind renaming wrap->bV
open Go.Made renaming depth->u3
open Go.Instr renaming buildSlice->dI
open Go.Builtin renaming append_->ee
open Go.Addr renaming add->eu,mk->cw
open List renaming range->lz,length->iC
open Go.Proofs.Tryz renaming prog->aH
open Go.Value renaming int->cJ,slice->ea,oneCell'->cK
open Int renaming tmod->k8
open List.Perm renaming cons->j3
open List.Pairwise renaming nil->oZ
open Prod renaming fst->sI,snd->tH
set_option maxRecDepth 100000
noncomputable section
namespace Go.Proofs.YtejdhbfjjgcljaaGreatDoor
open H
open _root_.Go.Proofs.Tryz
namespace hc
section
variable{u:H}{s:U}{c r:o}
def apC:hf aH 106=ak:=by kernel_rfl
def aCf:kI aH 189=some (133,1,24,[.slice none 0 0]):=by kernel_rfl
def ap5(s:U):kH aH 189 1 #[(0,.slice s.a s.n s.c)]=some (133,[.slice s.a s.n s.c]):=by kernel_rfl
structure KS(u:H)(n0 b8 ek lu fr:N)(s:U)(p c r G8:o):Prop where
 bM:u.cell? ⟨n0,0,none⟩=some (.slice s.a s.n s.c)
 c1:u.cell? ⟨b8,0,none⟩=some (.int .i64 p)
 c2:u.cell? ⟨ek,0,none⟩=some (.int .i64 c)
 fc:u.cell? ⟨lu,0,none⟩=some (.int .i64 r)
 pS:u.cell? ⟨fr,0,none⟩=some (.int .u64 G8)
def KS.mono{u':H}{n0 b8 ek lu fr:N}{p G8:o}(h:KS u n0 b8 ek lu fr s p c r G8)(k:u.le u'):KS u' n0 b8 ek lu fr s p c r G8:=
 ⟨H.le.cell k h.bM,H.le.cell k h.c1,H.le.cell k h.c2,H.le.cell k h.fc,H.le.cell k h.pS⟩
def aAM{n0 b8 ek lu fr:N}{L:M (U×M o)}{p n:N}{G8 i:o}{K:U->H->Prop}(cb:KS u n0 b8 ek lu fr s p c r G8)(h:mJ u s L)(aB:∀x∈L,x.2.length=p*n/\c8 x.2)(ad:1<=p)(ae:1<=n/\n<=64)(uv:L.length<=512)
  (I:1<=c/\c<=16) (hL:c<=L.length) (O:0<=r/\r<=20) (i0:0<=i) (i1:i<p) (av:∀au u' cs,gl u u' au cs->wV cs n->K au u'):aeD i ⟨n0,0,none⟩ ⟨b8,0,none⟩ ⟨ek,0,none⟩ ⟨lu,0,none⟩ ⟨fr,0,none⟩ u K:=by
 have dM:=h.len
 apply aEw
 refine⟨s,cb.bM,λnS x w=>0<=x/\x<=s.n/\∃D:M (U×M o),D.map (·.2)=(L.take x.toNat).map (λy=>tB y.2 n i.toNat)/\aK u w 30 1 nS (D.flatMap λc=>encS c.1)/\∀y∈D,Ints u y.1 y.2,λ_ x _=>s.n-x.toNat,⟨by omega,by omega,[],by simp,aK.nil (H.le.refl u) _ _,λy ai=>(by cases ai)⟩,?_⟩
 rintro nS x w ⟨bK,dw,D,eT,ab,cx⟩
 have RP:D.length=x.toNat:=by have:=eB iC eT;simp at this;omega
 have aGO:nS.n=D.length:=gU vF (by decide) ab.own.cI
 refine⟨λJ=>?_,λfO=>?_⟩
 obtain⟨q,aL,y,ajV,S5,yN,_⟩:=(h.mono ab.le).at bK J
 obtain⟨v1,v2⟩:=aB y S5
 refine⟨q,aL,⟨bK,J⟩,y.1,yN,_,H.le.cell ab.le cb.c1,?_⟩
 have ajU:=h.ints y S5
 refine adk (ajU.mono ab.le) v1 ad ae.1 (by have:=v2.1;omega) i0 i1 λt ht=>?_
 refine nV U0 (jH.Ra t) (by decide) rfl (by simp[cK]) ab (by show nS.n<_;omega) (by show(nS.n+1)*_<=_;omega) λau u' bQ h5 _ _ _=>⟨⟨by omega,by omega⟩,⟨by omega,by omega,D++ [(t,tB y.2 n i.toNat)],?_,?_,λY aC=>?_⟩,?_⟩
 rw[show(x+1).toNat=x.toNat+1 by omega,gJ,ajV,er,er,eT]
 rfl
 rw[gZ];exact bQ
 rcases cM.1 aC with aC|aC
 exact cx Y aC
 rw[gp.1 aC];exact ht u ajU
 dsimp only;omega
 have fh:x.toNat=L.length:=by have:¬x<(s.n:o):=fO;omega
 rw[fh,oE] at eT
 have yY:mJ w nS D:=⟨ab.own.cI,λy ai=>(cx y ai).mono ab.le⟩
 have Ik:∀y∈D.map (·.2),y.length=n/\c8 y:=λy ai=>by rw[eT] at ai;obtain⟨Y,aC,rfl⟩:=bk.1 ai;obtain⟨v1,v2⟩:=aB Y aC;exact⟨Tz v1 (by omega),TA v2 _ _⟩
 refine⟨_,H.le.cell ab.le cb.c2,_,H.le.cell ab.le cb.fc,_,H.le.cell ab.le cb.pS,?_⟩
 refine amL yY (λy ai=>Ik y.2 (bk.2 ⟨y,ai,rfl⟩)) ae (by omega) ⟨I.1,by omega⟩ (by omega) O λau u' cs dK he=>av au u' cs (dK.weaken ab.le) ?_
 obtain⟨acS,awi⟩:∃Y,Y=bV .u64 (G8+bV .u64 i):=⟨_,rfl⟩
 rw[<-awi] at he
 have aF:jH.Az acS c r n (D.map (·.2))=adI acS c.toNat r.toNat n (D.map (·.2)):=by unfold jH.Az;rw[aG λe=>?_,dj,aG (by omega)];have:=eB iC e;rw[dj,oB] at this;omega
 obtain⟨g1,g2,g3⟩:=jH.afI (e3:=acS) (b:=r) Ik ae (a:=c) ⟨I.1,by omega⟩
 rw[aF,<-he] at g1 g2 g3
 rw[dj] at g2 g3
 exact⟨by omega,⟨g2,g3⟩,λy ai=>by obtain⟨cq,cH⟩:=g1 y.2 (bk.2 ⟨y,ai,rfl⟩);exact⟨by omega,cH⟩⟩
structure Et(u u':H)(d:o)(k:tS):Prop where
 le:u.le u'
 new:u k.b=none
 cell:u' k.b=some (.cells #[.int .i64 d,.slice k.gv.a k.gv.n k.gv.c] 191 (0,0))
 own:aK u u' 133 1 k.gv (k.eR.flatMap λc=>encS c.1)
 each:∀c∈k.eR,gl u u' c.1 c.2
def aBY{n:N}{d:o}{a:U}{f:H->Prop}(h:u n=some (.cells #[.int .i64 d,.slice a.a a.n a.c] 191 (0,0)))(ac:f (u.ins n (.cells #[.int .i64 d,.slice s.a s.n s.c] 191 (0,0)))):H.aO u (eu (cw n 0 none) 1) [.slice s.a s.n s.c] f:=
 ⟨_,_,h,rfl,by simp[iP],by simp[cK],ac⟩
def aBh{L:M (U×M o)}{d p e3:o}{K:aA bc->o->H->Prop}(h:mJ u s L)(aB:∀x∈L,(x.2.length:o)=d/\c8 x.2)(ar:1<=d/\d<=64)(ad:1<=p/\p<=8)(Nz:k8 d p=0)
  (I:1<=c/\c<=16) (hL:c<=L.length) (uv:L.length<=512) (O:0<=r/\r<=20) (av:∀u' k,Et u u' d k->Ei d k.eR->K (some ⟨k.b,0,none⟩) 0 u'):VO s d p c r e3 u K:=by
 have dM:=h.len
 obtain⟨n,ae⟩:∃n:N,d=p*n:=by
  refine⟨(d/p).toNat,?_⟩;have h1:d%p=0:=by rw[<-O2 (by omega)];exact Nz
  have h2:=Int.mul_ediv_add_emod d p;have h3:0<=d/p:=acg (by omega) (by omega);rw[wz h3];omega
 obtain⟨P,eI⟩:∃P:N,p=P:=⟨p.toNat,by omega⟩
 subst eI
 have gn:1<=n:=by rcases T6 n with e|e;rw[e] at ae;simp at ae;omega;exact e
 have avu:n<=64:=by
  have:1*n<=P*n:=tG _ (by omega);have:((P*n:N):o)=d:=by rw[BU];exact ae.symm
  omega
 have Jc:∀x∈L,x.2.length=P*n/\c8 x.2:=λx J=>by obtain⟨v1,v2⟩:=aB x J;rw[ae,<-BU] at v1;exact⟨by omega,v2⟩
 apply aEv
 intro n0 h0 b8 h1 ek h2 lu h3 fr a7 Ld bO
 obtain⟨fi,jM⟩:∃fi,fi=(bj #[ea s.a s.n s.c] 133 (0,0)):=⟨_,rfl⟩
 obtain⟨en,j1⟩:∃en,en=(bj #[cJ .i64 (P:o)] 3 (0,0)):=⟨_,rfl⟩
 obtain⟨hW,dP⟩:∃hW,hW=(bj #[cJ .i64 c] 3 (0,0)):=⟨_,rfl⟩
 obtain⟨zC,ml⟩:∃zC,zC=(bj #[cJ .i64 r] 3 (0,0)):=⟨_,rfl⟩
 obtain⟨zD,Zs⟩:∃zD,zD=(bj #[cJ .u64 e3] 26 (0,0)):=⟨_,rfl⟩
 rw[<-jM] at h1 h2 h3 a7 ⊢
 rw[<-j1] at h2 h3 a7 ⊢
 rw[<-dP] at h3 a7 ⊢
 rw[<-ml] at a7 ⊢
 rw[<-Zs]
 obtain⟨ub,ci⟩:∃ub,ub=((((u.ins n0 fi).ins b8 en).ins ek hW).ins lu zC).ins fr zD:=⟨_,rfl⟩
 rw[<-ci]
 have iy:=bZ (u:=u) (b:=n0) fi h0
 have ej:=bZ (b:=b8) en h1
 have eV:=bZ (b:=ek) hW h2
 have qQ:=bZ (b:=lu) zC h3
 have lK:=bZ (b:=fr) zD a7
 rw[<-ci] at lK
 have lub:u.le ub:=(((iy.trans ej).trans eV).trans qQ).trans lK
 have cb:KS ub n0 b8 ek lu fr s P c r e3:=by refine⟨H.le.cell (((ej.trans eV).trans qQ).trans lK) ?_,H.le.cell ((eV.trans qQ).trans lK) ?_,H.le.cell (qQ.trans lK) ?_,H.le.cell lK ?_,?_⟩;have:=bi u n0 fi;rw[jM] at this ⊢;exact a8 this 0;have:=bi (u.ins n0 fi) b8 en;rw[j1] at this ⊢;exact a8 this 0;have:=bi ((u.ins n0 fi).ins b8 en) ek hW;rw[dP] at this ⊢;exact a8 this 0;have:=bi (((u.ins n0 fi).ins b8 en).ins ek hW) lu zC;rw[ml] at this ⊢;exact a8 this 0;have:=bi ((((u.ins n0 fi).ins b8 en).ins ek hW).ins lu zC) fr zD;rw[<-ci,Zs] at this;exact a8 this 0
 clear ci iy ej eV qQ lK h0 h1 h2 h3 a7 jM j1 dP ml Zs
 have aa:=h.mono lub
 refine⟨λe=>aV e (by omega),λ_=>bO _ _ ⟨λe=>aV (DT e) (by omega),λ_ aeX mg=>⟨_,cb.c1,λe=>aV e (by omega),λ_=>⟨_,cb.c1,λe=>aV e (by omega),λ_=>⟨_,cb.c2,λe=>aV e (by omega),λ_=>⟨_,cb.c2,λe=>aV e (by omega),λ_=>⟨_,cb.fc,λe=>aV e (by omega),λ_=>⟨_,cb.fc,mg _ _ ⟨λe=>aV (DT e) (by omega),λ_=>⟨_,cb.c1,by omega,λe=>aV Nz e,λ_=>⟨s,cb.bM,λe=>aV e (by omega),λ_=>⟨s,cb.bM,_,cb.c2,λe=>aV e (by omega),λ_=>⟨s,cb.bM,?_⟩⟩⟩⟩⟩⟩⟩⟩⟩⟩⟩⟩⟩
 refine⟨λ_ _ x w=>w=ub/\0<=x/\x<=s.n,λ_ _ x _=>s.n-x.toNat,⟨rfl,by omega,by omega⟩,?_⟩
 rintro _ _ x w ⟨rfl,bK,dw⟩
 refine⟨λJ=>?_,λ_=>?_⟩
 obtain⟨q,aL,y,ajV,S5,yN,aGn⟩:=aa.at bK J
 obtain⟨v1,v2⟩:=aB y S5
 refine⟨q,aL,⟨bK,J⟩,y.1,yN,qj aGn ?_⟩
 have xL:hv y.2 d=0:=by rw[<-v1];exact BF v2 (by omega)
 rw[xL]
 exact⟨λe=>aV rfl e,λ_=>⟨⟨by omega,by omega⟩,⟨rfl,by omega,by omega⟩,by dsimp only;omega⟩⟩
 intro m hm
 have qT:=bZ (u:=w) (b:=m) (.cells #[.int .i64 d,.slice none 0 0] 191 (0,0)) hm
 refine⟨_,H.le.cell qT cb.c1,λx v=>0<=x/\x<=P/\∃(gv:U) (eR:M (U×M (U×M o))),eR.length=x.toNat/\v m=some (.cells #[.int .i64 d,.slice gv.a gv.n gv.c] 191 (0,0))/\aK w v 133 1 gv (eR.flatMap λc=>encS c.1)/\gv.al≠some m/\
  ∀c∈eR,gl w v c.1 c.2/\wV c.2 n/\dO gv c.1/\(∀y∈c.2,dO gv y.1)/\c.1.al≠some m/\∀y∈c.2,y.1.al≠some m,λx _=>P-x.toNat,⟨by omega,by omega,⟨none,0,0⟩,[],rfl,bi _ _ _,aK.nil qT _ _,by simp[U.al],λc I=>(by cases I)⟩,?_⟩
 rintro x v ⟨bK,dw,gv,eR,eA,fP,ab,gf,Mt⟩
 have aHA:gv.n=eR.length:=gU Xq (by decide) ab.own.cI
 refine⟨λJ=>?_,λfO=>?_⟩
 refine⟨gv,a8 fP 1,_,_,_,rfl,hd apC,?_⟩
 refine aAM (cb.mono ab.le) (aa.mono ab.le) Jc (by omega) ⟨gn,avu⟩ uv I hL O bK J λq4 ni cs dK bH=>⟨dK.own.le,?_⟩
 have zo:=dK.own.le
 have avH:=ab.mono zo
 refine c9.PD (z1 aCf (ap5 q4) (by decide) rfl (by simp[cK]) avH (by show gv.n<_;omega) (by show(gv.n+1)*_<=_;omega) λD2 hs Nr aHo ahS Yu _=>?_) λ_ _ b5=>⟨zo.trans b5.1,b5.2⟩
 have HR:hs m=some (.cells #[.int .i64 d,.slice gv.a gv.n gv.c] 191 (0,0)):=ahS m _ (zo _ _ fP) gf
 refine aBY HR ⟨⟨by omega,by omega⟩,⟨by omega,by omega,D2,eR++ [(q4,cs)],by rw[eD,eA];simp;omega,bi _ _ _,?_,?_,λc cL=>?_⟩,by dsimp only;omega⟩
 have an:D2.al≠some m:=λe=>by rcases Yu m e with aF|aF;exact gf aF;rw[zo _ _ fP] at aF;cases aF
 rw[gZ]
 exact aK.xO Nr hm an _
 intro e
 rcases Yu m e with aF|aF
 exact gf aF
 rw[zo _ _ fP] at aF;cases aF
 have ago:∀{t:U},dO gv t->(∀g,t.al=some g->ni g≠none)->dO D2 t:=λac hk g W ht=>by rcases Yu g W with aF|aF;exact ac g aF ht;exact hk g ht aF
 have key:∀(t:U) (l:M (U×M o)),gl w ni t l->wV l n->dO gv t->(∀y∈l,dO gv y.1)->t.al≠some m->(∀y∈l,y.1.al≠some m)->
   gl w (hs.ins m (.cells #[.int .i64 d,.slice D2.a D2.n D2.c] 191 (0,0))) t l/\wV l n/\dO D2 t/\(∀y∈l,dO D2 y.1)/\t.al≠some m/\∀y∈l,y.1.al≠some m:=λt l cV dc dh fL qb GD=>
  ⟨jH.Vf (cV.else ahS (λg W=>ab.fresh g W) dh fL) hm qb GD _,dc,ago dh λg W=>dL cV.own W,λy ai=>ago (fL y ai) λg W=>dL (cV.inner y ai) W,qb,GD⟩
 rcases cM.1 cL with cL|cL
 obtain⟨cV,dc,dh,fL,qb,GD⟩:=Mt c cL
 exact key c.1 c.2 (cV.mono zo) dc dh fL qb GD
 rw[gp.1 cL]
 refine key q4 cs (dK.weaken ab.le) bH (λg W ht=>?_) (λy ai g W ht=>?_) (λe=>?_) λy ai e=>?_
 exact dL ab W (dK.own.fresh g ht)
 exact dL ab W ((dK.inner y ai).fresh g ht)
 have:=dK.own.fresh m e;rw[fP] at this;cases this
 have:=(dK.inner y ai).fresh m e;rw[fP] at this;cases this
 have awT:x.toNat=P:=by have:¬x<(P:o):=fO;omega
 refine av v ⟨m,gv,eR⟩ ⟨lub.trans ab.le,lub.none hm,fP,ab.weaken lub,λc I=>(Mt c I).1.weaken lub⟩ ⟨⟨by show 1<=eR.length;omega,by show eR.length<=8;omega⟩,n,gn,?_,λc I=>(Mt c I).2.1⟩
 show((eR.length*n:N):o)=d
 rw[eA,awT,BU,ae]
end
end hc
section
variable{u aj:H}{b:N}{D:N->Prop}{q:M o}{k:o}{f:jQ}{l:M az}
def eE.bS:yx eE.ec:=⟨λh ac hu=>h.bS ac hu⟩
def eE.toG{af:N->aA eE.bx}{T:eE.aS}(h:eE.In aj u af b T):mG eE.ec aj u af b T:=⟨h.aJ,h.le,h.out,h.known⟩
def eE.Gw{af:N->aA eE.bx}{T:eE.aS}(h:mG eE.ec aj u af b T):eE.In aj u af b T:=⟨h.aJ,h.le,h.out,h.known⟩
inductive cF where
 |ow (X:kW.aS)|aZ (X:lS.aS)|nM (X:jH.aS)|ae (X:eE.aS)|c3 (X:hc.aS)
def cF.dD(aj u:H)(D:N->Prop)(b:N):cF->Prop
 | .ow X=>fa kW.ec kW.dU aj u D b X| .aZ X=>fa lS.ec lS.dU aj u D b X| .nM X=>fa jH.ec jH.dU aj u D b X| .ae X=>fa eE.ec eE.dU aj u D b X| .c3 X=>fa hc.ec hc.dU aj u D b X
def cF.rows:cF->M (o×M o)
 | .ow X=>kW.a6 X| .aZ X=>lS.a6 X| .nM X=>jH.a6 X| .ae X=>eE.fg X.g| .c3 X=>hc.a6 X
def cF.aq:cF->o
 | .ow X=>X.aq| .aZ X=>X.aq| .nM X=>X.aq| .ae X=>X.aq| .c3 X=>X.aq
def cF.e4:cF->N
 | .ow X=>X.e4| .aZ X=>X.e4|_=>0
def cF.fB:cF->dF
 | .ow _=>113| .aZ _=>116| .nM _=>119| .ae _=>122| .c3 X=>if X.cd.isSome then 129 else 128
def cF.iface(X:cF)(b:N):ao:=.iface X.fB (.pointer (some ⟨b,0,none⟩))
def cF.Hl(X:hc.aS):(cF.c3 X).fB=if X.cd.isSome then 129 else 128:=rfl
def cF.Ji{X:hc.aS}(h:X.cd=none)(b:N):(cF.c3 X).iface b=.iface 128 (.pointer (some ⟨b,0,none⟩)):=by unfold cF.iface;rw[cF.Hl,h];rfl
def cF.Jh{X:hc.aS}{c:hc.pN}(h:X.cd=some c)(b:N):(cF.c3 X).iface b=.iface 129 (.pointer (some ⟨b,0,none⟩)):=by unfold cF.iface;rw[cF.Hl,h];rfl
def cF.base{X:cF}(h:X.dD aj u D b):aj.le u/\(∀c,D c->aj c=none)/\∀c,D c->u c≠none:=by cases X<;>exact fa.base h
def cF.same{u':H}{X:cF}(h:X.dD aj u D b)(hu:∀c z,u c=some z->D c->u' c=some z)(hle:aj.le u'):X.dD aj u' D b:=by cases X;exact fa.same kW.bS h hu hle;exact fa.same lS.bS h hu hle;exact fa.same jH.bS h hu hle;exact fa.same eE.bS h hu hle;exact fa.same hc.bS h hu hle
def cF.mono{u':H}{X:cF}(h:X.dD aj u D b)(hu:u.le u'):X.dD aj u' D b:=cF.same h (λc z I _=>hu c z I) ((cF.base h).1.trans hu)
def cF.nf{v:H}{X:cF}(h:X.dD aj u D b)(aB:v.le aj):X.dD v u D b:=by cases X<;>exact fa.nf h aB
def ax2{t e:dF}{name:String}(hm:oA aH t name f ak=ak)(hu:aH.underlying t=some (.pointer e))(p:aA bc)(w:cg):(method (aH.types.size+u3) t (.pointer p) name).run aH w=.ok (f,.pointer p) w:=by obtain⟨i,m,h1,h2,h3,a7⟩:=BB hm;obtain⟨dV,dJ⟩:=AH;rw[dJ];exact Km h1 h2 h3 a7 hu
def PY:aH.underlying 113=some (.pointer 169):=by kernel_rfl
def P0:aH.underlying 116=some (.pointer 174):=by kernel_rfl
def PX:aH.underlying 119=some (.pointer 178):=by kernel_rfl
def PW:aH.underlying 122=some (.pointer 184):=by kernel_rfl
def PZ:aH.underlying 128=some (.pointer 127):=by kernel_rfl
def anU:aH.underlying 129=some (.pointer 132):=by kernel_rfl
def lj{t e:dF}{name:String}{args:cv ao}{ss:M bf}{K:hy (gT ss) (H->Prop)}(hm:oA aH t name f ak=ak)(hu:aH.underlying t=some (.pointer e))(aa:hf aH f=ak)
  (h:hx aH f (#[.pointer (some ⟨b,0,none⟩)]++args) ss u K):nn aH (.iface t (.pointer (some ⟨b,0,none⟩))) name args ss u K:=
 ⟨_,_,f,_,rfl,λw _=>ax2 hm hu _ w,hd aa,h⟩
def W3{name:String}{args:cv ao}{ss:M bf}{K:hy (gT ss) (H->Prop)}(hm:∀w,(method (aH.types.size+u3) 129 (.pointer (some ⟨b,0,none⟩)) name).run aH w=.ok (f,.pointer (some ⟨b,0,none⟩)) w)(aa:hf aH f=ak)
  (h:hx aH f (#[.pointer (some ⟨b,0,none⟩)]++args) ss u K):nn aH (.iface 129 (.pointer (some ⟨b,0,none⟩))) name args ss u K:=
 ⟨_,_,f,_,rfl,λw _=>hm w,hd aa,h⟩
def cF.B5{X:cF}{K:o->H->Prop}(h:X.dD aj u D b)(av:K X.rows.length u):nn aH (X.iface b) "Len" #[] [.one (.int .i64)] u K:=by
 cases X with
 |ow X=>obtain⟨af,h1,h2,h3⟩:=fa.ex h;exact lj (f:=252) (by kernel_rfl) PY (by kernel_rfl) (kW.B5 h2 av)
 |aZ X=>obtain⟨af,h1,h2,h3⟩:=fa.ex h;exact lj (f:=272) (by kernel_rfl) P0 (by kernel_rfl) (lS.B5 h2 av)
 |nM X=>obtain⟨af,h1,h2,h3⟩:=fa.ex h;exact lj (f:=280) (by kernel_rfl) PX (by kernel_rfl) (jH.B5 h2 h3 av)
 |ae X=>obtain⟨af,h1,h2,h3⟩:=fa.ex h;refine lj (f:=288) (by kernel_rfl) PW (by kernel_rfl) (eE.amz h2.aJ ?_);rw[show(cF.ae X).rows.length=X.g.length by simp[cF.rows,eE.fg]] at av;exact av
 |c3 X=>
  obtain⟨af,h1,h2,h3⟩:=fa.ex h;have:=hc.B5 h2 av;cases e:X.cd with
  |some c=>rw[cF.Jh e];exact W3 (f:=306) (λw=>by kernel_rfl) (by kernel_rfl) this|none=>rw[cF.Ji e];exact lj (f:=306) (by kernel_rfl) PZ (by kernel_rfl) this
def cF.z7{X:cF}{K:U->H->Prop}(h:X.dD aj u D b)(av:∀s ls u',sb u u' s ls->(ls.map az.bL).Perm X.rows->(ls.Pairwise λa b=>a.id<=b.id)->K s u'):nn aH (X.iface b) "Rows" #[] [.one .slice] u K:=by
 cases X with
 |ow X=>obtain⟨af,h1,h2,h3⟩:=fa.ex h;exact lj (f:=254) (by kernel_rfl) PY (by kernel_rfl) (kW.z7 h2 h3 av)
 |aZ X=>obtain⟨af,h1,h2,h3⟩:=fa.ex h;exact lj (f:=274) (by kernel_rfl) P0 (by kernel_rfl) (lS.z7 h2 h3 av)
 |nM X=>obtain⟨af,h1,h2,h3⟩:=fa.ex h;exact lj (f:=282) (by kernel_rfl) PX (by kernel_rfl) (jH.z7 h2 h3 av)
 |ae X=>obtain⟨af,h1,h2,h3⟩:=fa.ex h;exact lj (f:=290) (by kernel_rfl) PW (by kernel_rfl) (eE.amC (eE.Gw h2) h3 av)
 |c3 X=>
  obtain⟨af,h1,h2,h3⟩:=fa.ex h;have:=hc.z7 h2 h3 av;cases e:X.cd with
  |some c=>rw[cF.Jh e];exact W3 (f:=308) (λw=>by kernel_rfl) (by kernel_rfl) this|none=>rw[cF.Ji e];exact lj (f:=308) (by kernel_rfl) PZ (by kernel_rfl) this
def wD(a b c:U)(rest:M az):M cn:=if rest=[] then[] else[⟨2,a,b,0,c,mN rest,mM rest,dS (rest.map (·.id))⟩]
def Vo.own{aI ss bd:U}{e0:M bP}{seen:M o}{rest:M az}(h:Vo aj u aI ss bd e0 seen rest):∃a b c:U,jW aj u aI ss bd e0 seen (wD a b c rest):=by
 rcases h.r with⟨he,rfl⟩|⟨an,_,a,b,c,h1,h2,h3,a7,b8,ek,lu,f1,f2⟩;refine⟨⟨none,0,0⟩,⟨none,0,0⟩,⟨none,0,0⟩,?_⟩;rw[wD,a1 he];refine⟨h.h,h.s,aK.nil h.h.le _ _,λr O=>(by cases O),?_⟩;simp only[rj,GZ];refine k9.2 ⟨λt ht=>?_,k9.2 ⟨λt ht=>?_,O1 _ _⟩⟩;rcases cP.1 ht with rfl|ht;exact h.ag;obtain rfl:t=_:=by simpa using ht
 intro g _ W;simp[U.al] at W;obtain rfl:t=_:=by simpa using ht
 intro g _ W;simp[U.al] at W;refine⟨a,b,c,?_⟩;rw[wD,aG an];have e:([⟨2,a,b,0,c,mN rest,mM rest,dS (rest.map (·.id))⟩]:M cn).flatMap uf=[.int .i64 2,.slice a.a a.n a.c,.slice b.a b.n b.c,.int .u64 0,.int .u64 0,.slice c.a c.n c.c]:=by simp[uf,YW,abi]
 refine⟨h.h,h.s,by rw[e];exact h1,λr O=>?_,?_⟩;obtain rfl:r=_:=by simpa using O
 exact⟨h2,h3,a7⟩;have Xt:∀x∈[a,b,c],dO aI x/\dO ss x/\dO bd x:=λx J=>⟨λg rv vI=>(f1 x J g vI).1 rv,λg rv vI=>(f1 x J g vI).2.1 rv,λg rv vI=>(f1 x J g vI).2.2 rv⟩;have ne:∀{x y:U},x.al≠y.al->dO x y:=λae g J ai=>ae (by rw[J,ai]);simp only[rj,gI,GZ,lB,cn.jE];refine k9.2 ⟨λt ht=>?_,k9.2 ⟨λt ht=>?_,k9.2 ⟨λt ht=>(Xt t ht).2.2,k9.2 ⟨λt ht=>?_,k9.2 ⟨λt ht=>?_,O1 _ _⟩⟩⟩⟩⟩;rcases cP.1 ht with rfl|ht;exact h.ag;rcases cP.1 ht with rfl|ht;exact λg W hh=>(f2 g hh).1 W;exact(Xt t ht).1;rcases cP.1 ht with rfl|ht;exact λg W hh=>(f2 g hh).2 W;exact(Xt t ht).2.1;rcases cP.1 ht with rfl|ht;exact ne b8;obtain rfl:t=c:=by simpa using ht
 exact ne ek;obtain rfl:t=c:=by simpa using ht
 exact ne lu
def ar0{b:o}(aL:jt l q)(Z a2 a3:U):Sound l q k (e6 k.toNat ((l.take b.toNat).map (hM q))) (dS ((l.take b.toNat).map (·.id))) (wD Z a2 a3 (l.drop b.toNat)):=by
 have b3:=aL.rows.nodup;have e:l.map (·.id)=(l.take b.toNat).map (·.id)++(l.drop b.toNat).map (·.id):=by rw[<-er,q2]
 have xB:=b3;rw[e] at xB;obtain⟨b8,ek,_⟩:=fZ.1 xB;refine⟨D7 b8,λr O=>?_,?_,λm hm vV=>?_⟩;unfold wD at O;split at O;cases O;rename_i an;obtain rfl:r=⟨2,Z,a2,0,a3,mN (l.drop b.toNat),mM (l.drop b.toNat),dS ((l.drop b.toNat).map (·.id))⟩:=gp.1 O;have bH:hp (l.drop b.toNat) (q.length:o):=aL.rows.sub (O4 _ _);obtain⟨ga,fu,oa,pQ,rk,pR⟩:=afr bH an;refine⟨⟨bH.aq,D7 ek,λx J=>?_,.inr (.inl ⟨rfl,rfl,oa,pQ,ga,fu,rk⟩)⟩,λh=>?_,λx J=>?_⟩;obtain⟨r,O,rfl⟩:=bk.1 ((nW _).mem_iff.1 J);exact bH.id r O;have:=eB iC h;rw[z6,dj] at this;exact an (kS this);obtain⟨r,O,rfl⟩:=bk.1 ((nW _).mem_iff.1 J);refine⟨r,sG O,rfl,λ_ i hi=>pR r O i ?_,λh=>by cases h⟩;have:=(bH.v r O).1;omega;rw[e];refine List.Perm.append (nW _) ?_;unfold wD;split;rename_i h0;rw[h0];exact .refl _;simpa using nW _;have ad:m.Perm (l.take b.toNat):=alN b3 hm (λr O=>mx O) (by rw[vV];exact nW _);exact(Ce (ad.map (hM q))).symm
def anb{b:o}:Aa l q k b=0↔jt l q/\1<=k/\k<=64/\0<=b/\b<=1000000:=by unfold Aa;constructor;intro h;split at h;rename_i an;exact aV h an;rename_i he;split at h;cases h;exact⟨w7.1 (by simpa using he),by omega,by omega,by omega,by omega⟩;rintro⟨h1,h2⟩;rw[aG (by simp[w7.2 h1]),aG (by omega)]
def aAI{s t:U}{b:o}{K:U->U->U->o->H->Prop}(ag:eF u s l)(ht:Ints u t q)
  (dq:Aa l q k b≠0->K ⟨none,0,0⟩ ⟨none,0,0⟩ ⟨none,0,0⟩ (Aa l q k b) u)
  (bH:Aa l q k b=0->∀aI ss bd Z a2 a3 u',jW u u' aI ss bd (e6 k.toNat ((l.take b.toNat).map (hM q))) (dS ((l.take b.toNat).map (·.id))) (wD Z a2 a3 (l.drop b.toNat))->K aI ss bd 0 u'):
  Qi s t k b u K:=
 aAX ag ht dq λh1 h2 h3 a7 bO aI ss bd u' _ ay=>by obtain⟨Z,a2,a3,ab⟩:=ay.own;exact bH (anb.2 ⟨h1,h2,h3,a7,bO⟩) aI ss bd Z a2 a3 u' ab
def yt.nil(u:H):yt u ⟨none,0,0⟩ ⟨none,0,0⟩ ⟨none,0,0⟩ [] [] []:=
 ⟨(aK.nil (H.le.refl u) 0 3).own.cI,Ints.nil u,(aK.nil (H.le.refl u) 0 6).own.cI,λr O=>by cases O⟩
def am8{P:M (o×M o)}{L:M az}{S R:M o}{bud:o}{iK:o->bP}{rest:M cn}(b3:(P.map (·.1)).Nodup)(c6:(L.map az.bL).Perm P)(aL:jt L q)(fA:0<=bud)(ad:(S++R).Perm (P.map (·.1)))(ap:S.length<=bud.toNat)
  (ac:R≠[]->S.length=bud.toNat) (uH:CB R) (auQ:∀r∈L,iK r.id=hM q r) (O:rest.map cn.core=if R=[] then[] else[(1,0,[],[],R)]):
  Sound L q k (e6 k.toNat (S.map iK)) (dS S) rest/\((dS S).length:o)<=bud/\(((dS S).length:o)=bud∨(dS S).length=L.length):=by
 have kv:(P.map (·.1)).Perm (L.map (·.id)):=by rw[show L.map (·.id)=(L.map az.bL).map (·.1) by rw[eh];rfl];exact(c6.map _).symm
 have atu:S.Nodup:=(fZ.1 (ad.nodup_iff.2 b3)).1
 have v7:rest.flatMap (·.ids)=R/\∀r∈rest,r.core=(1,0,[],[],R)/\R≠[]:=by
  by_cases e:R=[];rw[a1 e] at O;have:rest=[]:=by simpa using O
  rw[this,e];exact⟨rfl,λr O=>by cases O⟩;rw[aG e] at O;cases rest with
  |nil=>simp at O|cons r rs=>
   cases rs with
   |cons my aH7=>simp at O|nil=>simp only[gR,BT,u7,r5] at O;refine⟨?_,λde dz=>?_⟩;have:r.ids=R:=eB (λY=>Y.2.2.2.2) O;simp[this];simp at dz;rw[dz];exact⟨O,e⟩
 refine⟨⟨D7 atu,λr dz=>?_,?_,λm hm FF=>?_⟩,?_,?_⟩
 obtain⟨I,an⟩:=v7.2 r dz
 have c1:r.aI=1:=eB (λY=>Y.1) I
 have c2:r.cA=0:=eB (λY=>Y.2.1) I
 have fc:r.bm=[]:=eB (λY=>Y.2.2.1) I
 have pS:r.hi=[]:=eB (λY=>Y.2.2.2.1) I
 have rm:r.ids=R:=eB (λY=>Y.2.2.2.2) I
 have cb:∀x∈R,x∈L.map (·.id):=λx J=>kv.mem_iff.1 (ad.mem_iff.1 (lC _ J))
 refine⟨⟨aL.rows.aq,by rw[rm];exact uH,λx J=>?_,.inl ⟨c1,fc,pS,c2⟩⟩,by rw[rm];exact an,λx J=>?_⟩
 rw[rm] at J
 obtain⟨w,hw,rfl⟩:=bk.1 (cb x J)
 exact aL.rows.id w hw
 rw[rm] at J
 obtain⟨w,hw,rfl⟩:=bk.1 (cb x J)
 exact⟨w,hw,rfl,λh=>(by rw[c1] at h;cases h),λh=>(by rw[c1] at h;cases h)⟩
 rw[v7.1]
 exact(((nW S).append_right R).trans ad).trans kv
 refine Ce ?_
 have bO:(m.map (·.id)).Perm S:=by rw[FF];exact nW S
 have e7:m.map (hM q)=(m.map (·.id)).map iK:=by rw[eh];exact zQ λr fp=>(auQ r (hm r fp)).symm
 rw[e7]
 exact(bO.map _).symm
 rw[z6];omega
 rw[z6]
 by_cases e:R=[]
 right
 rw[e,lB] at ad
 have:=(ad.trans kv).length_eq
 simpa using this
 left
 have:=ac e
 omega
end
namespace eE
section
variable{u aj u':H}{D:N->Prop}{b:N}{q:M o}{t:U}{K:aD->o->H->Prop}{k bud:o}{L:M az}
def a6(X:aS):M Ao:=fg X.g
structure dD(aj u:H)(D:N->Prop)(b:N)(X:aS):Prop where
 ex:∃af,(∀c,D c↔af c≠none)/\In aj u af b X/\dU X
structure ik(u:H)(D:N->Prop)(u':H)(fy:N->Prop):Prop where
 bS:∀c z,u c=some z->¬D c->u' c=some z
 grow:∀c,fy c->D c∨u c=none
def ik.mono(h:u.le u'):ik u D u' D:=⟨λc z I _=>h c z I,λ_ h=>.inl h⟩
def ik.trans{aU cQ:H}{qx qy:N->Prop}(h:ik u D aU qx)(k:ik aU qx cQ qy):ik u D cQ qy where
 bS c z I ac:=k.bS c z (h.bS c z I ac) λar=>by rcases h.grow c ar with h1|h1;exact ac h1;rw[I] at h1;cases h1
 grow c I:=by
  rcases k.grow c I with h1|h1;exact h.grow c h1;by_cases e:D c;exact .inl e;right;cases aF:u c with
  |none=>rfl|some z=>rw[h.bS c z aF e] at h1;cases h1
def ik.apart{v:H}{fy:N->Prop}(h:ik u D u' fy)(aB:v.le u)(ar:∀c,D c->v c=none):v.le u'/\∀c,fy c->v c=none:=by refine⟨λc z I=>h.bS c z (aB c z I) λe=>?_,λc I=>?_⟩;have:=ar c e;rw[I] at this;cases this;rcases h.grow c I with h1|h1;exact ar c h1;exact aB.none h1
def Tb{af:N->aA bx}{T:aS}(h:In aj u af b T)(aT:dU T):dD aj u (λc=>af c≠none) b T:=⟨af,λ_=>BJ,h,aT⟩
def adJ{af aY:N->aA bx}(eT:∀c,D c↔af c≠none)(h:gL u af u' aY):ik u D u' (λc=>aY c≠none) where
 bS c z I ac:=h.bS c z I (by
  cases e:af c with
  |none=>rfl|some t=>exact aV ((eT c).2 (by rw[e];simp)) ac)
 grow c I:=(h.grow c I).imp (eT c).2 λh=>h
def dD.base{X:aS}(h:dD aj u D b X):aj.le u/\(∀c,D c->aj c=none)/\∀c,D c->u c≠none:=by obtain⟨af,h1,h2,_⟩:=h.ex;exact⟨h2.le,λc I=>h2.out c ((h1 c).1 I),λc I=>h2.known c ((h1 c).1 I)⟩
def dD.same{X:aS}(h:dD aj u D b X)(hu:∀c z,u c=some z->D c->u' c=some z)(hle:aj.le u'):dD aj u' D b X:=by obtain⟨af,h1,h2,h3⟩:=h.ex;exact⟨af,h1,h2.same (λc z I ac=>hu c z I ((h1 c).2 ac)) hle,h3⟩
def dD.mono{X:aS}(h:dD aj u D b X)(hu:u.le u'):dD aj u' D b X:=h.same (λc z I _=>hu c z I) (h.base.1.trans hu)
def dD.alL{X:aS}(h:dD aj u D b X):((a6 X).map (·.1)).Nodup:=by obtain⟨af,_,h2,_⟩:=h.ex;unfold a6;rw[tI];exact h2.aJ.nodup
def adf{X:aS}{K:o->H->Prop}(h:dD aj u D b X)(av:K (a6 X).length u):VB (some ⟨b,0,none⟩) u K:=by
 obtain⟨af,_,h2,_⟩:=h.ex;refine amz h2.aJ ?_;have:(a6 X).length=X.g.length:=by simp[a6,fg]
 rw[<-this];exact av
def Bw(X:aS)(id:o):(id∈X.g.map (·.1))↔id∈(a6 X).map (·.1):=by unfold a6;rw[tI]
def adg{X:aS}{id:o}(h:dD aj u D b X)(hK:kG aj)(ht:Ints u t q)(fq:∀g,t.al=some g->¬D g)
  (dq:fR id q X.aq (decide (id∈(a6 X).map (·.1))) (a6 X).length≠0->K ax (fR id q X.aq (decide (id∈(a6 X).map (·.1))) (a6 X).length) u)
  (bH:fR id q X.aq (decide (id∈(a6 X).map (·.1))) (a6 X).length=0->∀u' fy dE,dD aj u' fy b dE->ik u D u' fy->(a6 dE).Perm ((id,q)::(a6 X).filter λx=>x.1 !=id)->dE.aq=X.aq->dE.b9=X.b9->K (decide (id∉(a6 X).map (·.1))) 0 u'):
  KX (some ⟨b,0,none⟩) id t u K:=by
 obtain⟨af,h1,h2,h3⟩:=h.ex
 have ap:(a6 X).length=X.g.length:=by simp[a6,fg]
 have ar:decide (id∈X.g.map (·.1))=decide (id∈(a6 X).map (·.1)):=DX.2 (Bw X id)
 have y6:decide (id∉X.g.map (·.1))=decide (id∉(a6 X).map (·.1)):=DX.2 (not_congr (Bw X id))
 refine amA h2 h3 hK ht (λg W=>?_) (λan=>?_) λhe u' aY bB O=>?_
 cases e:af g with
 |none=>rfl
 |some x=>exact aV ((h1 g).2 (by rw[e];simp)) (fq g W)
 rw[ar,<-ap] at an ⊢;exact dq an
 rw[ar,<-ap] at he
 rw[y6]
 exact bH he u' _ bB (Tb O.is O.ok) (adJ h1 O.eX) O.rows O.aq O.b9
def ade{X:aS}{id:o}(h:dD aj u D b X)(eg:id∉(a6 X).map (·.1)->∀u',u.le u'->K ax 0 u')
  (ky:id∈(a6 X).map (·.1)->∀u' fy dE,dD aj u' fy b dE->ik u D u' fy->a6 dE=(a6 X).filter (λx=>x.1 !=id)->dE.aq=X.aq->dE.b9=X.b9->K ak 0 u'):Qm (some ⟨b,0,none⟩) id u K:=by
 obtain⟨af,h1,h2,h3⟩:=h.ex
 refine UH h2 h3 (λae=>eg λhm=>AJ.1 ae ((Bw X id).2 hm)) λn ae u' aY bB O=>ky ((Bw X id).1 (bk.2 ⟨_,iG ae,rfl⟩)) u' _ bB (Tb O.is O.ok) (adJ h1 O.eX) O.rows O.aq O.b9
def UJ{X:aS}{K:U->H->Prop}(h:dD aj u D b X)(av:∀s ls u',sb u u' s ls->(ls.map az.bL).Perm (a6 X)->(ls.Pairwise λa b=>a.id<=b.id)->K s u'):VC (some ⟨b,0,none⟩) u K:=by obtain⟨af,_,h2,h3⟩:=h.ex;exact amC h2 h3 av
def UI{s:U}{l:M az}{aq b9 e3:o}{K:aA bc->o->H->Prop}(ag:eF u s l)(hK:kG u)(NM:cz e3)
  (dq:w9 l aq b9≠0->K none (w9 l aq b9) u) (bH:w9 l aq b9=0->∀b D X u',dD u u' D b X->(a6 X).Perm (l.map az.bL)->X.aq=aq->X.b9=b9->K (some ⟨b,0,none⟩) 0 u'):Ql s aq b9 e3 u K:=
 amy ag hK NM dq λhe b _ T u' O=>bH he b _ T u' (Tb O.is O.ok) O.rows O.aq O.b9
def ix(X:aS)(q:M o)(k bud:o):M bP:=e6 k.toNat ((pJ X.g q X.entry bud.toNat).1.map (cU X.g q))
def gg(X:aS)(q:M o)(bud:o):M o:=dS (pJ X.g q X.entry bud.toNat).1
def jN(X:aS)(q:M o)(bud:o):M (o×o×M o×M o×M o):=if(pJ X.g q X.entry bud.toNat).2=[] then[] else[(1,0,[],[],(pJ X.g q X.entry bud.toNat).2)]
def alH(j4:U)(X:aS)(q:M o)(bud:o):(Pj j4 (pJ X.g q X.entry bud.toNat).2).map cn.core=jN X q bud:=by unfold Pj jN;split<;>rfl
def UK{X:aS}{K:U->U->U->o->H->Prop}(h:dD aj u D b X)(ht:Ints u t q)
  (dq:hZ q X.aq k bud≠0->∀u',u.le u'->K ⟨none,0,0⟩ ⟨none,0,0⟩ ⟨none,0,0⟩ (hZ q X.aq k bud) u')
  (bH:hZ q X.aq k bud=0->∀aI ss bd rest u',jW u u' aI ss bd (ix X q k bud) (gg X q bud) rest->rest.map cn.core=jN X q bud->K aI ss bd 0 u'):VD (some ⟨b,0,none⟩) t k bud u K:=by
 obtain⟨af,_,h2,h3⟩:=h.ex
 exact amD h2 h3 ht dq λhe aI ss bd j4 u' ay=>bH he aI ss bd _ u' ay (alH j4 X q bud)
def aj8{X:aS}(h:dD aj u D b X)(he:hZ q X.aq k bud=0)(c6:(L.map az.bL).Perm (a6 X))(aL:jt L q){rest:M cn}(O:rest.map cn.core=jN X q bud):
  Sound L q k (ix X q k bud) (gg X q bud) rest/\((gg X q bud).length:o)<=bud/\(((gg X q bud).length:o)=bud∨(gg X q bud).length=L.length):=by
 obtain⟨af,_,h2,h3⟩:=h.ex
 obtain⟨aB,cq,cH,fA,ga⟩:=w6.1 he
 have b3:=h2.aJ.nodup
 obtain⟨ad,ap,ac,uH⟩:=anc h3 b3 q bud.toNat
 rw[<-tI] at ad
 refine am8 (by rw[show a6 X=fg X.g from rfl,tI];exact b3) c6 aL fA ad ap ac uH (λr ZS=>?_) O
 have bO:r.bL∈a6 X:=c6.mem_iff.1 (bk.2 ⟨r,ZS,rfl⟩)
 obtain⟨x,J,e⟩:=bk.1 bO
 have aQ:x.1=r.id:=eB sI e
 have aF:x.2.v=r.v:=eB tH e
 have e7:eS X.g r.id=some x.2:=AI b3 (by rw[<-aQ];exact J)
 unfold cU hM
 rw[e7]
 simp only[aF]
def Tc{X:aS}(h:dD aj u D b X)(he:hZ q X.aq k bud=0)(c6:(L.map az.bL).Perm (a6 X))(aL:jt L q){rest:M cn}(O:rest.map cn.core=jN X q bud):
  Sound L q k (ix X q k bud) (gg X q bud) rest/\((gg X q bud).length:o)<=bud/\(((gg X q bud).length:o)=bud∨(gg X q bud).length=L.length∨qw q k (ix X q k bud) rest):=by
 obtain⟨s1,s2,nS⟩:=aj8 h he c6 aL O
 exact⟨s1,s2,nS.imp id .inl⟩
def dD.nf{v:H}{X:aS}(h:dD aj u D b X)(aB:v.le aj):dD v u D b X:=by
 obtain⟨af,h1,h2,h3⟩:=h.ex;exact⟨af,h1,⟨h2.aJ,aB.trans h2.le,λc I=>by
  cases J:v c with
  |none=>rfl|some z=>have:=aB _ _ J;rw[h2.out c I] at this;exact(nomatch this),h2.known⟩,h3⟩
def amB{af:N->aA bx}{T:aS}{id:o}(h:In aj u af b T)(aT:dU T)(hK:kG aj)(Bg:Ints aj t q)
  (dq:fR id q T.aq (decide (id∈T.g.map (·.1))) T.g.length≠0->K ax (fR id q T.aq (decide (id∈T.g.map (·.1))) T.g.length) u)
  (bH:fR id q T.aq (decide (id∈T.g.map (·.1))) T.g.length=0->∀u' aY bB,tT aj u af b T id q u' aY bB->K (decide (id∉T.g.map (·.1))) 0 u'):KX (some ⟨b,0,none⟩) id t u K:=by
 have ht:=Bg.mono h.le
 obtain⟨bM,_,_,fc,_⟩:=kU h.aJ
 apply an7
 refine⟨λe=>(by cases e),λ_=>⟨_,rfl,_,fc,?_⟩⟩
 refine tM wl h.aJ.map (ct:=.ptr) ((eS T.g id).map λn=>(⟨n.p,0,none⟩:bc)) (by rw[CX];cases eS T.g id<;>rfl) ?_
 have iU:(fD (jA T.g) id).isSome=decide (id∈T.g.map (·.1)):=by
  rw[CX,Uc];cases e:eS T.g id with
  |none=>rw[o0 (AJ.1 e)];rfl|some n=>rw[l4 (bk.2 ⟨_,iG e,rfl⟩)];rfl
 rw[iU]
 refine⟨_,rfl,_,rfl,_,bM,_,fc,vk wl h.aJ.map ⟨H.le.refl u,Kx ht ?_⟩⟩
 rw[OQ]
 refine⟨λan=>dq an,λhe=>?_⟩
 have bH:=bH he
 have kv:¬(id<1∨1000000000<id)/\hv q T.aq=0/\¬(decide (id∈T.g.map (·.1))=ax/\512<=(T.g.length:o)):=by unfold fR at he;by_cases h1:id<1∨1000000000<id;rw[a1 h1] at he;cases he;rw[aG h1] at he;by_cases h2:hv q T.aq≠0;rw[a1 h2] at he;exact aV he h2;rw[aG h2] at he;by_cases h3:decide (id∈T.g.map (·.1))=ax/\512<=(T.g.length:o);rw[a1 h3] at he;cases he;exact⟨h1,by simpa using h2,h3⟩
 obtain⟨d1,d2,d3,d4⟩:=oL kv.2.1
 have lay:∀(aU:H) (c4:N->aA bx) (bb:aS),In aj aU c4 b bb->gL u af aU c4->dU bb->fg bb.g=(fg T.g).filter (λx=>x.1 !=id)->bb.aq=T.aq->bb.b9=T.b9->
   o8 t aU λdx hb=>H.le aU hb/\Hv (some ⟨b,0,none⟩) id dx hb λwO=>K (!decide (decide (id∈T.g.map (·.1))=ak)) 0 wO:=by
  intro aU c4 bb h1 nJ te vZ pY gC
  have rB:Ints aU t q:=Bg.mono h1.le
  refine sN rB (by have:=rB.len;omega) λdx hb fY _=>⟨fY.le,?_⟩
  have xj:=h1.mono fY.le
  obtain⟨im,h2,xK,kd⟩:=xj.adF (s:=dx) (λg W=>⟨h1.fresh (fY.fresh g W),h1.le.none (fY.fresh g W),uZ fY W⟩) id
  have A7:id∉bb.g.map (·.1):=λhm=>by rw[<-tI,vZ] at hm;obtain⟨x,J,e⟩:=bk.1 hm;have:=(iX.1 J).2;simp[e] at this
  have hlen:bb.g.length<=512:=by
   have aQ:bb.g.length=((fg T.g).filter λx=>x.1 !=id).length:=by rw[<-vZ];simp[fg]
   by_cases cb:id∈T.g.map (·.1);have:((fg T.g).filter λx=>x.1 !=id).length<(fg T.g).length:=by rw[Kg];rw[<-tI] at cb;obtain⟨x,J,e⟩:=bk.1 cb;exact⟨x,J,by simp[e]⟩
   have bO:(fg T.g).length=T.g.length:=by simp[fg]
   have:=aT.k.ok.small;omega;have a7:¬512<=(T.g.length:o):=λbO=>kv.2.2 ⟨o0 cb,bO⟩;have bO:(fg T.g).length=T.g.length:=by simp[fg]
   have:=yf (λx:o×M o=>x.1 !=id) (fg T.g);omega
  refine adb h2 te hK A7 (by omega) fY.ints xK ⟨by rw[pY];exact d3,d4⟩ hlen λwO pg Ez h3 nK Yd Be Iw A0=>?_
  have aa:(!decide (decide (id∈T.g.map (·.1))=ak))=decide (id∉T.g.map (·.1)):=by by_cases cb:id∈T.g.map (·.1)<;>simp[cb]
  rw[aa]
  refine bH wO pg Ez ⟨h3,?_,Yd,?_,Iw.trans pY,A0.trans gC⟩
  have gone:∀c,aU c=none->af c≠none∨u c=none:=λc I=>by
    cases e:af c with
    |some x=>exact .inl (by simp)|none=>
     cases aF:u c with
     |none=>exact .inr rfl|some z=>rw[nJ.bS c z aF e] at I;cases I
  refine⟨λc z I ac=>?_,λc I=>?_⟩
  have bO:=nJ.bS c z I ac
  have e:dx.al≠some c:=λe=>by have:=fY.fresh c e;rw[bO] at this;cases this
  exact nK.bS c z (fY.le c z bO) (by rw[kd c e];exact nJ.none I ac)
  rcases nK.grow c I with bO|bO
  by_cases e:dx.al=some c
  exact gone c (fY.fresh c e)
  rw[kd c e] at bO;exact nJ.grow c bO
  exact gone c (fY.le.none bO)
  rw[Be,vZ]
  exact nc _ _
 refine UH h aT (λeg aU hj=>?_) λn ae aU c4 bb jc=>?_
 refine lay aU af T (h.mono hj) (gL.mono hj) aT ?_ rfl rfl
 refine(r6.2 λx J=>?_).symm
 have:x.1≠id:=λe=>AJ.1 eg (by rw[<-tI];exact bk.2 ⟨x,J,e⟩)
 simpa using this
 exact lay aU c4 bb jc.is jc.eX jc.ok jc.rows jc.aq jc.b9
def amK{X:aS}{id:o}(h:dD aj u D b X)(hK:kG aj)(ht:Ints aj t q)
  (dq:fR id q X.aq (decide (id∈(a6 X).map (·.1))) (a6 X).length≠0->K ax (fR id q X.aq (decide (id∈(a6 X).map (·.1))) (a6 X).length) u)
  (bH:fR id q X.aq (decide (id∈(a6 X).map (·.1))) (a6 X).length=0->∀u' fy dE,dD aj u' fy b dE->ik u D u' fy->(a6 dE).Perm ((id,q)::(a6 X).filter λx=>x.1 !=id)->dE.aq=X.aq->dE.b9=X.b9->K (decide (id∉(a6 X).map (·.1))) 0 u'):
  KX (some ⟨b,0,none⟩) id t u K:=by
 obtain⟨af,h1,h2,h3⟩:=h.ex
 have ap:(a6 X).length=X.g.length:=by simp[a6,fg]
 have ar:decide (id∈X.g.map (·.1))=decide (id∈(a6 X).map (·.1)):=DX.2 (Bw X id)
 have y6:decide (id∉X.g.map (·.1))=decide (id∉(a6 X).map (·.1)):=DX.2 (not_congr (Bw X id))
 refine amB h2 h3 hK ht (λan=>?_) λhe u' aY bB O=>?_
 rw[ar,<-ap] at an ⊢;exact dq an
 rw[ar,<-ap] at he
 rw[y6]
 exact bH he u' _ bB (Tb O.is O.ok) (adJ h1 O.eX) O.rows O.aq O.b9
def Oe{X:aS}(h:dD aj u D b X)(ac:(a6 X).length<=512)(ad:(L.map az.bL).Perm (a6 X)):hp L X.aq:=by obtain⟨af,_,h2,h3⟩:=h.ex;have ae:=ad.length_eq;rw[dj] at ae;refine D1 h3.k.ok.hB (by omega) ?_ λp jx=>?_;rw[p6,(ad.map (·.1)).nodup_iff];exact h.alL;obtain⟨x,J,rfl⟩:=bk.1 (ad.mem_iff.1 jx);exact⟨(h3.k.ok.ids x J).1,(h3.k.ok.ids x J).2,h3.k.ok.vec x J⟩
end
end eE
section
variable{u aj:H}{D:N->Prop}
def Vg{bx:Type}{af:N->aA bx}{t:U}{q:M o}(eT:∀c,D c↔af c≠none)(ht:Ints u t q)(fq:(∀g,t.al=some g->¬D g)∨Ints aj t q)(aU:H)(c4:N->aA bx)(hle:aj.le aU)(hk:hU u af aU c4):Ints aU t q:=by
 rcases fq with fq|Bg;exact bz.else ht λg z W ab=>hk.bS g z ab (by
   cases e:af g with
   |none=>rfl|some x=>exact aV ((eT g).2 (by rw[e];simp)) (fq g W))
 exact Bg.mono hle
def eE.anH{u':H}{af aY:N->aA eE.bx}(h:eE.gL u af u' aY):hU u af u' aY:=⟨h.bS,h.grow⟩
def cF.D8{b:N}{X:cF}{id:o}{t:U}{q:M o}{K:aD->o->H->Prop}(h:X.dD aj u D b)(kc:X.e4<=2700)(hK:eE.kG aj)(ht:Ints u t q)(fq:(∀g,t.al=some g->¬D g)∨Ints aj t q)
  (dq:fR id q X.aq (decide (id∈X.rows.map (·.1))) X.rows.length≠0->K ax (fR id q X.aq (decide (id∈X.rows.map (·.1))) X.rows.length) u)
  (bH:fR id q X.aq (decide (id∈X.rows.map (·.1))) X.rows.length=0->∀u' fy (dE:cF),dE.dD aj u' fy b->ik u D u' fy->dE.rows.Perm ((id,q)::X.rows.filter λx=>x.1 !=id)->dE.aq=X.aq->dE.fB=X.fB->dE.e4<=X.e4+1->K (decide (id∉X.rows.map (·.1))) 0 u'):
  nn aH (X.iface b) "Put" #[.agg #[.int .i64 id,.slice t.a t.n t.c]] [.one .bool,.one (.int .i64)] u K:=by
 cases X with
 |ow X=>obtain⟨af,h1,h2,h3⟩:=fa.ex h;exact lj (f:=253) (by kernel_rfl) PY (by kernel_rfl) (kW.D8 h2 h3 (jo kc (by decide)) ht (Vg h1 ht fq) dq λhe u' aY bB O=>bH he u' _ (.ow bB) (tr O.is O.ok) (Ac h1 O.eX) O.rows O.aq rfl O.e4)
 |aZ X=>obtain⟨af,h1,h2,h3⟩:=fa.ex h;exact lj (f:=273) (by kernel_rfl) P0 (by kernel_rfl) (lS.D8 h2 h3 (jo kc (by decide)) ht (Vg h1 ht fq) dq λhe u' aY bB O=>bH he u' _ (.aZ bB) (tr O.is O.ok) (Ac h1 O.eX) O.rows O.aq rfl O.e4)
 |nM X=>obtain⟨af,h1,h2,h3⟩:=fa.ex h;exact lj (f:=281) (by kernel_rfl) PX (by kernel_rfl) (jH.D8 h2 h3 ht (Vg h1 ht fq) dq λhe u' aY bB O=>bH he u' _ (.nM bB) (tr O.is O.ok) (Ac h1 O.eX) O.rows O.aq rfl (q0 _))
 |ae X=>
  obtain⟨af,h1,h2,h3⟩:=fa.ex h;have ap:(cF.ae X).rows.length=X.g.length:=by simp[cF.rows,eE.fg]
  have hm:(id∈X.g.map (·.1))↔id∈(cF.ae X).rows.map (·.1):=eE.Bw X id;rw[ap,<-DX.2 hm] at dq bH;rw[<-DX.2 (not_congr hm)] at bH;refine lj (f:=289) (by kernel_rfl) PW (by kernel_rfl) ?_;have fin:=λhe u' aY bB (O:eE.tT aj u af b X id q u' aY bB)=>bH he u' _ (.ae bB) (tr (eE.toG O.is) O.ok) (Ac h1 (eE.anH O.eX)) O.rows O.aq rfl (q0 _);rcases fq with fq|Bg;refine eE.amA (eE.Gw h2) h3 hK ht (λg W=>?_) dq fin;cases e:af g with
  |none=>rfl|some x=>exact aV ((h1 g).2 (by rw[e];simp)) (fq g W)
  exact eE.amB (eE.Gw h2) h3 hK Bg dq fin
 |c3 X=>
  obtain⟨af,h1,h2,h3⟩:=fa.ex h;have hk:(cF.c3 X).rows.map (·.1)=X.w.map (·.1):=hc.nN X;have ap:(cF.c3 X).rows.length=X.w.length:=by simp[cF.rows,hc.a6]
  rw[hk,ap] at dq bH;have fin:=λhe u' aY bB (O:hc.tT aj u af b X id q u' aY bB)=>bH he u' _ (.c3 bB) (tr O.is O.ok) (Ac h1 O.eX) O.rows O.aq (by rw[cF.Hl,cF.Hl,O.aqv]) (q0 _);cases e:X.cd with
  |none=>rw[cF.Ji e];exact lj (f:=307) (by kernel_rfl) PZ (by kernel_rfl) (hc.amT h2 h3 ht dq λhe u' aY bB O _=>fin he u' aY bB O)|some c=>rw[cF.Jh e];exact lj (f:=311) (by kernel_rfl) anU (by kernel_rfl) (hc.aAQ h2 h3 e ht (Vg h1 ht fq) dq fin)
def cF.wH{b:N}{X:cF}{id:o}{K:aD->o->H->Prop}(h:X.dD aj u D b)(kc:X.e4<=2700)(eg:id∉X.rows.map (·.1)->∀u',u.le u'->K ax 0 u')
  (ky:id∈X.rows.map (·.1)->∀u' fy (dE:cF),dE.dD aj u' fy b->ik u D u' fy->dE.rows=X.rows.filter (λx=>x.1 !=id)->dE.aq=X.aq->dE.fB=X.fB->dE.e4<=X.e4->K ak 0 u'):
  nn aH (X.iface b) "Delete" #[.int .i64 id] [.one .bool,.one (.int .i64)] u K:=by
 cases X with
 |ow X=>obtain⟨af,h1,h2,h3⟩:=fa.ex h;have hk:(cF.ow X).rows.map (·.1)=X.w.map (·.1):=kW.nN X;rw[hk] at eg ky;exact lj (f:=251) (by kernel_rfl) PY (by kernel_rfl) (kW.wH h2 h3 (jo kc (by decide)) eg λae u' aY bB O=>ky ae u' _ (.ow bB) (tr O.is O.ok) (Ac h1 O.eX) O.rows O.aq rfl (Kd O.e4))
 |aZ X=>obtain⟨af,h1,h2,h3⟩:=fa.ex h;have hk:(cF.aZ X).rows.map (·.1)=X.w.map (·.1):=lS.nN X;rw[hk] at eg ky;exact lj (f:=271) (by kernel_rfl) P0 (by kernel_rfl) (lS.wH h2 h3 (jo kc (by decide)) eg λae u' aY bB O=>ky ae u' _ (.aZ bB) (tr O.is O.ok) (Ac h1 O.eX) O.rows O.aq rfl (Kd O.e4))
 |nM X=>
  obtain⟨af,h1,h2,h3⟩:=fa.ex h;have hw:id∈X.w.map (·.1)↔id∈(cF.nM X).rows.map (·.1):=by rw[show(cF.nM X).rows=jH.a6 X from rfl,jH.aaQ];exact h3.ad4
  exact lj (f:=279) (by kernel_rfl) PX (by kernel_rfl) (jH.wH h2 h3 (λae=>eg λhm=>ae (hw.2 hm)) λae u' aY bB O=>ky (hw.1 ae) u' _ (.nM bB) (tr O.is O.ok) (Ac h1 O.eX) O.rows O.aq rfl (cC _))
 |ae X=>obtain⟨af,h1,h2,h3⟩:=fa.ex h;exact lj (f:=287) (by kernel_rfl) PW (by kernel_rfl) (eE.UH (eE.Gw h2) h3 (λae=>eg λhm=>eE.AJ.1 ae ((eE.Bw X id).2 hm)) λn ae u' aY bB O=>ky ((eE.Bw X id).1 (bk.2 ⟨_,eE.iG ae,rfl⟩)) u' _ (.ae bB) (tr (eE.toG O.is) O.ok) (Ac h1 (eE.anH O.eX)) O.rows O.aq rfl (cC _))
 |c3 X=>
  obtain⟨af,h1,h2,h3⟩:=fa.ex h;have hk:(cF.c3 X).rows.map (·.1)=X.w.map (·.1):=hc.nN X;rw[hk] at eg ky;have:=hc.wH (K:=K) h2 h3 (λae=>eg ae u (H.le.refl u)) λae u' bB O=>ky ae u' _ (.c3 bB) (tr O.is O.ok) (Ac h1 O.eX) O.rows O.aq (by rw[cF.Hl,cF.Hl,O.cd]) (cC _);cases e:X.cd with
  |some c=>rw[cF.Jh e];exact W3 (f:=305) (λw=>by kernel_rfl) (by kernel_rfl) this|none=>rw[cF.Ji e];exact lj (f:=305) (by kernel_rfl) PZ (by kernel_rfl) this
end
namespace hc
section
open lS (eb)
def Ak(k:tS)(c:N):Prop:=c=k.b∨k.gv.al=some c∨∃y∈k.eR,y.1.al=some c∨∃Y∈y.2,Y.1.al=some c
def Et.fresh{u u':H}{d:o}{k:tS}(h:Et u u' d k)(c:N)(I:Ak k c):u c=none/\u' c≠none:=by rcases I with rfl|I|⟨y,ai,I|⟨Y,aC,I⟩⟩;exact⟨h.new,by rw[h.cell];simp⟩;exact⟨h.own.fresh c I,dL h.own I⟩;exact⟨(h.each y ai).own.fresh c I,dL (h.each y ai).own I⟩;exact⟨((h.each y ai).inner Y aC).fresh c I,dL ((h.each y ai).inner Y aC) I⟩
def Et.at{u u' v:H}{d:o}{k:tS}{af:N->aA bx}(h:Et u u' d k)(aB:∀c z,u' c=some z->Ak k c->v c=some z)(ac:∀c,Ak k c->af c=some .code):sT af v d k where
 cell:=aB _ _ h.cell (.inl rfl)
 Ri:=ac _ (.inl rfl)
 bp:=bz.else h.own.own.cI λg z W ab=>aB g z ab (.inr (.inl W))
 ih g W:=ac g (.inr (.inl W))
 tY c I:=⟨bz.else (h.each c I).own.own.cI λg z W ab=>aB g z ab (.inr (.inr ⟨c,I,.inl W⟩)),λY aC=>bz.else ((h.each c I).inner Y aC).ints λg z W ab=>aB g z ab (.inr (.inr ⟨c,I,.inr ⟨Y,aC,W⟩⟩))⟩
 dR c I:=⟨λg W=>ac g (.inr (.inr ⟨c,I,.inl W⟩)),λY aC g W=>ac g (.inr (.inr ⟨c,I,.inr ⟨Y,aC,W⟩⟩))⟩
def start{aU v:H}{b m:N}{aq:o}{cd:aA pN}(hle:aU.le v)(aa:v b=some (aS.obj ⟨aq,m,[],cd⟩))(hm:fz v m [])(Yv:b≠m)(h1:aU b=none)(h2:aU m=none)(ar:1<=aq/\aq<=64)
  (I:∀c,cd=some c->c.sP=[]/\fz v c.hV []/\c.hV≠m/\c.hV≠b/\aU c.hV=none/\∀k,c.co=some k->Ei aq k.eR/\∃u u',aU.le u/\Et u u' aq k/\(∀x z,u' x=some z->Ak k x->v x=some z)/\u b≠none/\u m≠none/\u c.hV≠none):
  ∃D,fa ec dU aU v D b ⟨aq,m,[],cd⟩/\∀c,D c->c=b∨c=m∨(∃x,cd=some x/\c=x.hV)∨∃x k,cd=some x/\x.co=some k/\Ak k c:=by
 obtain⟨af,h4⟩:∃af:N->aA bx,af=λc=>open Classical in if c=b then some .obj else if c=m∨(∃x,cd=some x/\c=x.hV) then some .map else if ∃x k,cd=some x/\x.co=some k/\Ak k c then some .code else none:=⟨_,rfl⟩
 have t1:af b=some .obj:=by rw[h4];exact a1 rfl
 have t2:∀c,c≠b->(c=m∨∃x,cd=some x/\c=x.hV)->af c=some .map:=λc h bW=>by rw[h4];show(if c=b then _ else _)=_;rw[aG h,a1 bW]
 have t3:∀x k c,cd=some x->x.co=some k->Ak k c->af c=some .code:=λx k c J hk kr=>by obtain⟨_,_,_,_,_,q⟩:=I x J;obtain⟨_,u,u',cV,dc,dh,fL,qb,GD⟩:=q k hk;have ae:=(dc.fresh c kr).1;rw[h4];show(if c=b then _ else _)=_;rw[aG (λe=>fL (by rw[<-e];exact ae)),aG (λe=>?_),a1 ⟨x,k,J,hk,kr⟩];rcases e with e|⟨kV,fQ,e⟩;exact qb (by rw[<-e];exact ae);rw[J] at fQ;obtain rfl:=cX fQ;exact GD (by rw[<-e];exact ae)
 have t4:∀c,af c≠none->c=b∨c=m∨(∃x,cd=some x/\c=x.hV)∨∃x k,cd=some x/\x.co=some k/\Ak k c:=λc an=>by by_cases aQ:c=b;exact .inl aQ;by_cases aF:c=m∨∃x,cd=some x/\c=x.hV;exact aF.elim (λe=>.inr (.inl e)) λe=>.inr (.inr (.inl e));by_cases cW:∃x k,cd=some x/\x.co=some k/\Ak k c;exact .inr (.inr (.inr cW));exact aV (by rw[h4];show(if c=b then _ else _)=_;rw[aG aQ,aG aF,aG cW]) an
 refine⟨λc=>af c≠none,⟨af,λ_=>BJ,⟨⟨aa,t1,hm,t2 m (dG Yv) (.inl rfl),λe he=>(by cases he),λc kb=>?_⟩,hle,λc an=>?_,λc an=>?_⟩,⟨ar,λe he=>(by cases he),λe he=>(by cases he),q0 _,λc k kb hk=>?_⟩⟩,t4⟩
 have kb:cd=some c:=kb
 obtain⟨zJ,cV,dc,dh,fL,qb⟩:=I c kb
 refine⟨by rw[zJ];exact cV,t2 _ dh (.inr ⟨c,kb,rfl⟩),dc,λe he=>(by rw[zJ] at he;cases he),λk hk=>?_⟩
 obtain⟨_,u,u',gX,dv,mo,_⟩:=qb k hk
 exact dv.at mo λx J=>t3 c k x kb hk J
 rcases t4 c an with rfl|rfl|⟨x,J,rfl⟩|⟨x,k,J,hk,kr⟩
 exact h1
 exact h2
 exact(I x J).2.2.2.2.1
 obtain⟨_,u,u',gX,dv,mo,_⟩:=(I x J).2.2.2.2.2 k hk
 exact gX.none (dv.fresh c kr).1
 rcases t4 c an with rfl|rfl|⟨x,J,rfl⟩|⟨x,k,J,hk,kr⟩
 rw[aa];simp
 obtain⟨es,cl,e,_⟩:=hm
 rw[e];simp
 obtain⟨es,cl,e,_⟩:=(I x J).2.1
 rw[e];simp
 obtain⟨_,u,u',gX,dv,mo,_⟩:=(I x J).2.2.2.2.2 k hk
 obtain⟨z,ab⟩:=fj.1 (dv.fresh c kr).2
 rw[mo c z ab kr];simp
 exact((I c kb).2.2.2.2.2 k hk).1
end
end hc
section
variable{u:H}{n:N}{l L:M az}{f:H->Prop}{a b:o}{q:M o}{rest:M cn}
def yH(k:o):aA (o×o×o):=if k=1 then some (0,0,0) else if k=2∨k=3∨k=4 then some (64,0,0) else if k=5 then some (64,8,16) else if k=6 then some (16,0,0) else none
abbrev zG(n m:o):Prop:=n<=m/\(if m<1 then m else 1)<=n
def yk(k s p c:o):o:=match yH k with
 |none=>120|some x=>if zG s x.1/\zG p x.2.1/\zG c x.2.2 then 0 else 121
def aAj{c x:o}{K:o->H->Prop}(bK:0<=x)(dw:x<3)(h0:x=0->K a u)(h1:x=1->K b u)(h2:x=2->K c u):c9 aH (Instr.index 164 (.agg #[.int .i64 a,.int .i64 b,.int .i64 c]) (.int .i64 x)) [.one (.int .i64)] u K:=by
 have h:∀(y:o),(∀w:cg,(Instr.index 164 (.agg #[.int .i64 a,.int .i64 b,.int .i64 c]) (.int .i64 x)).run aH w=.ok (.int .i64 y) w)->K y u->c9 aH (Instr.index 164 (.agg #[.int .i64 a,.int .i64 b,.int .i64 c]) (.int .i64 x)) [.one (.int .i64)] u K:=λy O av=>c9.Gy (c:=.int .i64) y (λw _=>O w) av;obtain rfl|rfl|rfl:x=0∨x=1∨x=2:=by omega
 exact h a (λw=>by kernel_rfl) (h0 rfl);exact h b (λw=>by kernel_rfl) (h1 rfl);exact h c (λw=>by kernel_rfl) (h2 rfl)
def ads{c y:o}(h:u n=some (.cells #[.int .i64 a,.int .i64 b,.int .i64 c] 164 (0,0)))(ac:f (u.ins n (.cells #[.int .i64 y,.int .i64 b,.int .i64 c] 164 (0,0)))):H.aO u (eu (cw n 0 none) 0) [.int .i64 y] f:=
 ⟨_,_,h,rfl,by simp[iP],by simp[cK],ac⟩
def aBW{c x y Y:o}(h:u n=some (.cells #[.int .i64 a,.int .i64 b,.int .i64 c] 164 (0,0)))(ac:f (u.ins n (.cells #[.int .i64 x,.int .i64 y,.int .i64 Y] 164 (0,0)))):H.aO u (cw n 0 none) [.int .i64 x,.int .i64 y,.int .i64 Y] f:=
 ⟨_,_,h,rfl,by simp,by simp[cK],by
  have e:wr #[cJ .i64 a,.int .i64 b,.int .i64 c] 0 [.int .i64 x,.int .i64 y,.int .i64 Y]=#[.int .i64 x,.int .i64 y,.int .i64 Y]:=by simp[wr]
  rw[e];exact ac⟩
def aAV{k s p c:o}{K:o->H->Prop}(h:∀u',u.le u'->K (yk k s p c) u'):Vx k s p c u K:=by
 apply aDj;intro n0 e1;refine nh (zs:=[.int .i64 0,.int .i64 0,.int .i64 0]) rfl (by simp[cK]) ?_;obtain⟨aU,hj⟩:∃aU,aU=u.ins n0 (.cells [cJ .i64 64,.int .i64 0,.int .i64 0].toArray 164 (0,0)):=⟨_,rfl⟩;rw[<-hj];have d0:aU n0=some (.cells #[.int .i64 64,.int .i64 0,.int .i64 0] 164 (0,0)):=by rw[hj];exact bi _ _ _
 have ej:u.le aU:=by rw[hj];exact bZ _ e1
 have To:∀z,u.le (aU.ins n0 z):=λz c x I=>by rw[bq _ _ (λe=>by rw[e,e1] at I;cases I)];exact ej c x I
 intro o9 h2;have fin:∀(a b d:o) (w:H),u.le w->w n0=some (.cells #[.int .i64 a,.int .i64 b,.int .i64 d] 164 (0,0))->yH k=some (a,b,d)->∀y,o9 y w:=by intro a b d w hw I aa y;have key:∀Y,yk k s p c=Y->K Y w:=λY e=>e▸h w hw;have bad:¬(zG s a/\zG p b/\zG c d)->K 121 w:=λae=>key 121 (by unfold yk;rw[aa];exact aG ae);apply h2;refine⟨λ_ x v=>v=w/\0<=x/\x<=3/\(0<x->zG s a)/\(1<x->zG p b)/\(2<x->zG c d),λ_ x _=>(3-x).toNat,⟨rfl,by omega,by omega,λe=>aV e (by omega),λe=>aV e (by omega),λe=>aV e (by omega)⟩,?_⟩;rintro Y x v ⟨rfl,bK,dw,g0,g1,g2⟩;refine⟨λJ=>aAj bK J (λe=>?_) (λe=>?_) (λe=>?_),λJ=>key 0 (by unfold yk;rw[aa];exact a1 ⟨g0 (by omega),g1 (by omega),g2 (by omega)⟩)⟩;subst e;refine⟨by decide,⟨by omega,by omega⟩,a,a8 I 0,λe=>bad λhk=>by have:=hk.1.1;omega,λe=>⟨by decide,⟨by omega,by omega⟩,a,a8 I 0,λaF=>bad λhk=>aV hk.1.2 (by omega),λaF=>⟨⟨by omega,by omega⟩,⟨rfl,by omega,by omega,λ_=>⟨by omega,by omega⟩,λe=>aV e (by omega),λe=>aV e (by omega)⟩,by dsimp only;omega⟩⟩⟩;subst e;refine⟨by decide,⟨by omega,by omega⟩,b,a8 I 1,λe=>bad λhk=>by have:=hk.2.1.1;omega,λe=>⟨by decide,⟨by omega,by omega⟩,b,a8 I 1,λaF=>bad λhk=>aV hk.2.1.2 (by omega),λaF=>⟨⟨by omega,by omega⟩,⟨rfl,by omega,by omega,λ_=>g0 (by omega),λ_=>⟨by omega,by omega⟩,λe=>aV e (by omega)⟩,by dsimp only;omega⟩⟩⟩;subst e;refine⟨by decide,⟨by omega,by omega⟩,d,a8 I 2,λe=>bad λhk=>by have:=hk.2.2.1;omega,λe=>⟨by decide,⟨by omega,by omega⟩,d,a8 I 2,λaF=>bad λhk=>aV hk.2.2.2 (by omega),λaF=>⟨⟨by omega,by omega⟩,⟨rfl,by omega,by omega,λ_=>g0 (by omega),λ_=>g1 (by omega),λ_=>⟨by omega,by omega⟩⟩,by dsimp only;omega⟩⟩⟩
 have ga:k=1->yH k=some (0,0,0):=λe=>by unfold yH;rw[a1 e]
 have fu:k=2∨k=3∨k=4->yH k=some (64,0,0):=λe=>by unfold yH;rw[aG (by omega),a1 e]
 refine⟨λe=>⟨by decide,⟨by omega,by omega⟩,ads d0 (fin 0 0 0 _ (To _) (bi _ _ _) (ga e) _)⟩,λaQ Eu EY=>?_⟩;have go:∀dp:aD,(dp=ak↔(k=2∨k=3))->Eu dp aU:=λdp qG=>EY _ _ ⟨λe=>fin 64 0 0 _ ej d0 (fu (by have:=qG.1 e;omega)) _,λe=>?_⟩;exact⟨λe=>go ak ⟨λ_=>.inl e,λ_=>rfl⟩,λe=>go _ ⟨λh3=>.inr (DT h3),λh3=>l4 (by omega)⟩⟩;have ae:¬(k=2∨k=3):=λh3=>by rw[qG.2 h3] at e;cases e
 refine⟨λfJ=>⟨by decide,⟨by omega,by omega⟩,ads d0 (fin 64 0 0 _ (To _) (bi _ _ _) (fu (by omega)) _)⟩,λfJ=>⟨λgA=>aBW d0 (fin 64 8 16 _ (To _) (bi _ _ _) ?_ _),λgA=>⟨λmc=>⟨by decide,⟨by omega,by omega⟩,ads d0 (fin 16 0 0 _ (To _) (bi _ _ _) ?_ _)⟩,λmc=>?_⟩⟩⟩;unfold yH;rw[aG aQ,aG (by omega),a1 gA];unfold yH;rw[aG aQ,aG (by omega),aG gA,a1 mc];have:yk k s p c=120:=by unfold yk yH;rw[aG aQ,aG (by omega),aG gA,aG mc]
 exact this▸h aU ej
structure aS where
 k:o
 s:o
 p:o
 c:o
 dX:N
 X:cF
abbrev s4(k s p c:o)(v:ao):Obj:=.cells #[.int .i64 k,.int .i64 s,.int .i64 p,.int .i64 c,v] 81 (0,0)
def aS.obj(T:aS):Obj:=s4 T.k T.s T.p T.c (T.X.iface T.dX)
structure dD(aj u:H)(D:N->Prop)(b:N)(X:aS):Prop where
 ex:∃km,(∀c,D c↔c=b∨km c)/\¬km b/\aj b=none/\u b=some X.obj/\X.X.dD aj u km X.dX
def yG(l:M az)(aq k s p c:o):o:=if yk k s p c≠0 then yk k s p c else if o2 l aq≠0 then o2 l aq else if k=5/\k8 aq p≠0 then 100 else 0
def aBR{k s p c:o}(h:yk k s p c=0):k=1∨((k=2∨k=3∨k=4)/\1<=s/\s<=64)∨(k=5/\1<=p/\p<=8/\1<=c/\c<=16)∨(k=6/\1<=s/\s<=16):=by
 unfold yk yH at h;by_cases h1:k=1;exact .inl h1;rw[aG h1] at h;have one:∀{n m:o},1<=m->zG n m->1<=n/\n<=m:=λ{n m} hm hk=>by obtain⟨a,b⟩:=hk;rw[aG (by omega)] at b;exact⟨b,a⟩
 by_cases h2:k=2∨k=3∨k=4;rw[a1 h2] at h;dsimp only at h;split at h;rename_i hk;exact .inr (.inl ⟨h2,one (by decide) hk.1⟩);cases h;rw[aG h2] at h;by_cases bO:k=5;rw[a1 bO] at h;dsimp only at h;split at h;rename_i hk;obtain⟨a,b⟩:=one (by decide) hk.2.1;obtain⟨c,d⟩:=one (by decide) hk.2.2;exact .inr (.inr (.inl ⟨bO,a,b,c,d⟩));cases h;rw[aG bO] at h;by_cases e7:k=6;rw[a1 e7] at h;dsimp only at h;split at h;rename_i hk;exact .inr (.inr (.inr ⟨e7,one (by decide) hk.1⟩));cases h;rw[aG e7] at h;cases h
def cF.agF{T:hc.aS}{ny:cF}(h:ny.fB=(cF.c3 T).fB):ny.e4=0:=by
 rw[cF.Hl] at h;cases ny with
 |ow X=>change (113:N)=_ at h;split at h<;>exact aV h (by decide)|aZ X=>change (116:N)=_ at h;split at h<;>exact aV h (by decide)|nM X=>rfl|ae X=>rfl|c3 X=>rfl
def adt{k s p c:o}{v w:ao}(h:u n=some (s4 k s p c v))(aB:w.oneCell'=ak)(ac:f (u.ins n (s4 k s p c w))):H.aO u (eu (cw n 0 none) 4) [w] f:=
 ⟨_,_,h,rfl,by simp[iP],by simp[aB],ac⟩
def aBX{m hV:N}{d:o}{a b:aA bc}(h:u n=some (.cells #[.int .i64 d,.map (some m),.pointer a,.map (some hV)] 132 (0,0)))(ac:f (u.ins n (.cells #[.int .i64 d,.map (some m),.pointer b,.map (some hV)] 132 (0,0)))):H.aO u (eu (cw n 0 none) 2) [.pointer b] f:=
 ⟨_,_,h,rfl,by simp[iP],by simp[cK],ac⟩
def zx{A:H}{x y:N}{z:Obj}(J:A x=none)(ai:A y=some z):x≠y:=λe=>by rw[e,ai] at J;cases J
def axX{aq:o}(b4:hp l aq){r:az}(O:l[n]?=some r){P:M (o×M o)}(eI:P.Perm ((l.take n).map az.bL)):r.id∉P.map (·.1)/\fR r.id r.v aq (decide (r.id∈P.map (·.1))) P.length=0:=by
 obtain⟨bw,he⟩:=iB.1 O;have fp:r∈l:=dB O;have uL:l.take n++r::l.drop (n+1)=l:=by have:=q2 n l;rw[tF bw,he] at this;exact this
 have b3:=b4.nodup;rw[<-uL,er,gR,fZ] at b3;have oR:r.id∉P.map (·.1):=λhm=>by have h1:=(eI.map (·.1)).mem_iff.1 hm;rw[eh] at h1;exact b3.2.2 r.id h1 r.id (gr ..) rfl
 have hlen:=eI.length_eq;rw[dj,gq] at hlen;have ap:=b4.len;have hi:=b4.id r fp;obtain⟨v1,v2⟩:=b4.v r fp;have ar:=b4.aq;have aB:hv r.v aq=0:=by rw[<-v1];exact BF v2 (by omega)
 refine⟨oR,?_⟩;unfold fR;rw[aG (by omega),aG (by simpa using aB),aG (λh=>by omega)]
def aCs{r:az}(O:l[n]?=some r){P Q:M (o×M o)}(eI:P.Perm ((l.take n).map az.bL))(oR:r.id∉P.map (·.1))(fm:Q.Perm ((r.id,r.v)::P.filter λx=>x.1 !=r.id)):Q.Perm ((l.take (n+1)).map az.bL):=by
 have ac:P.filter (λx=>x.1 !=r.id)=P:=r6.2 λq aL=>by have:q.1≠r.id:=λe=>oR (bk.2 ⟨q,aL,e⟩);simpa using this
 rw[ac] at fm;rw[gJ,O,er];exact fm.trans ((j3 _ eI).trans (nc _ _).symm)
def aAN{s:U}{aq k hG p c e3:o}{K:aA bc->o->H->Prop}(ag:eF u s l)(hK:eE.kG u)(NM:cz e3)
  (dq:yG l aq k hG p c≠0->∀u',u.le u'->K none (yG l aq k hG p c) u')
  (bH:yG l aq k hG p c=0->∀b D X u',dD u u' D b X->X.X.rows.Perm (l.map az.bL)->X.X.aq=aq->X.k=k->X.s=hG->X.p=p->X.c=c->X.X.e4=0->K (some ⟨b,0,none⟩) 0 u'):Vp k hG p c aq s e3 u K:=by
 have bad:∀Y u',u.le u'->yG l aq k hG p c=Y->Y≠0->K none Y u':=λY u' hu e aC=>by subst e;exact dq aC u' hu
 apply aC5
 refine aAV λaU ej=>⟨λan=>bad _ aU ej (by unfold yG;rw[a1 an]) an,λFV=>?_⟩
 have dZ:=ag.mono ej
 have ahk:=hK.mono ej
 refine Kw dZ ⟨λan=>bad _ aU ej (by unfold yG;rw[aG (by simpa using FV),a1 an]) an,λps=>?_⟩
 have b4:=B0.1 ps
 have dM:=ag.len
 have Iq:=b4.len
 have X8:=b4.aq
 intro Lc a7
 have aHt:=aBR FV
 have base:yG l aq k hG p c=if k=5/\k8 aq p≠0 then 100 else 0:=by unfold yG;rw[aG (by simpa using FV),aG (by simpa using ps)]
 have main:(k=5->k8 aq p=0)->∀y Y,Lc y Y aU:=by
  intro hdiv y Y;have bH:=bH (by rw[base,aG (λh=>h.2 (hdiv h.1))]);apply a7;intro n8 ot Lf lV;obtain⟨B,eH⟩:∃B,B=aU.ins n8 (s4 k hG p c .nilIface):=⟨_,rfl⟩;rw[<-eH];have uU:aU.le B:=by rw[eH];exact bZ _ ot
  have KR:B n8=some (s4 k hG p c .nilIface):=by rw[eH];exact bi _ _ _
  have pv:u n8=none:=ej.none ot;have SN:=dZ.mono uU;have Ui:¬o2 l aq≠0:=by simpa using ps
  have fin:∀(X:cF) (dX:N) (km:N->Prop) (v:H),X.dD B v km dX->X.rows.Perm (l.map az.bL)->X.aq=aq->X.e4=0->H.aO v (eu (cw n8 0 none) 4) [X.iface dX] λw=>Lf 0 w:=by
   intro X dX km v ll O ar W;have P4:=(cF.base ll).1 _ _ KR;have ag1:¬km n8:=λe=>by have:=(cF.base ll).2.1 n8 e;rw[KR] at this;cases this
   refine adt P4 (by simp[cF.iface,cK]) (lV 0 _ ⟨λJ=>aV rfl J,λ_=>?_⟩);obtain⟨w,hw⟩:∃w,w=v.ins n8 (s4 k hG p c (X.iface dX)):=⟨_,rfl⟩;rw[<-hw];have kw:∀x z,v x=some z->x≠n8->w x=some z:=λx z J an=>by rw[hw,bq _ _ an];exact J
   have lw:u.le w:=λx z J=>kw x z ((cF.base ll).1 x z (uU x z (ej x z J))) λe=>by rw[e,pv] at J;cases J
   exact bH n8 _ ⟨k,hG,p,c,dX,X⟩ w ⟨km,λ_=>BJ,ag1,pv,by rw[hw];exact bi _ _ _,cF.same (cF.nf ll (ej.trans uU)) (λx z J ar=>kw x z J λe=>ag1 (by rw[<-e];exact ar)) lw⟩ O ar rfl rfl rfl rfl W
  refine⟨λe=>kW.PH SN (λan=>aV (by unfold kW.jy;rw[aG Ui,aG (by omega)]) an) λ_ v dX af T O=>fin (.ow T) dX _ v (tr O.is O.ok) O.rows O.aq O.e4,λek=>?_⟩;refine⟨λe=>lS.PH SN (λan=>aV (by unfold lS.jy;rw[aG Ui,aG (by omega)]) an) λ_ v dX af T O=>fin (.aZ T) dX _ v (tr O.is O.ok) O.rows O.aq O.e4,λlu=>?_⟩;refine⟨λe=>jH.PH SN (λan=>aV (by unfold jH.jy;rw[aG Ui,aG (by omega)]) an) λ_ v dX af T O=>fin (.nM T) dX _ v (tr O.is O.ok) O.rows O.aq rfl,λfr=>?_⟩;refine⟨λe=>eE.amy SN (ahk.mono uU) NM (λan=>aV (by unfold eE.w9;rw[aG Ui,aG (by omega)]) an) λ_ dX af T v O=>fin (.ae T) dX _ v (tr (eE.toG O.is) O.ok) O.rows O.aq rfl,λn6=>?_⟩;refine D4 λm DE hm iL=>?_;obtain⟨bD,hq⟩:∃bD,bD=B.ins m DE:=⟨_,rfl⟩;rw[<-hq] at iL ⊢;have Tk:B.le bD:=by rw[hq];exact bZ _ hm
  have apn:bD m=some DE:=by rw[hq];exact bi _ _ _
  intro n30 SB;refine nh (zs:=[.int .i64 0,.map none]) rfl (by simp[cK]) ?_;obtain⟨HM,E4⟩:∃HM,HM=bD.ins n30 (.cells [cJ .i64 aq,.map (some m)].toArray 127 (0,0)):=⟨_,rfl⟩;rw[<-E4];have abb:bD.le HM:=by rw[E4];exact bZ _ SB
  have ae4:HM n30=some (.cells #[.int .i64 aq,.map (some m)] 127 (0,0)):=by rw[E4];exact bi _ _ _
  have m8:m≠n8:=zx hm KR;have HP:n30≠n8:=zx SB (Tk _ _ KR);have tZ:n30≠m:=zx SB apn;refine adt (abb _ _ (Tk _ _ KR)) (by simp[cK]) ?_;obtain⟨w1,E5⟩:∃w1,w1=HM.ins n8 (s4 k hG p c (.iface 128 (.pointer (some ⟨n30,0,none⟩)))):=⟨_,rfl⟩;rw[<-E5];have cW:∀x z,HM x=some z->x≠n8->w1 x=some z:=λx z J an=>by rw[E5,bq _ _ an];exact J
  have QX:w1 n8=some (s4 k hG p c (.iface 128 (.pointer (some ⟨n30,0,none⟩)))):=by rw[E5];exact bi _ _ _
  have Tg:aU.le w1:=λx z J=>cW x z (abb x z (Tk x z (uU x z J))) λe=>by rw[e,ot] at J;cases J
  have anJ:aU m=none:=uU.none hm;have aCJ:aU n30=none:=(uU.trans Tk).none SB;have abp:fz w1 m []:=iL.else λz ab=>cW m z (abb m z ab) m8;intro Wr EZ;have loop:∀(T:hc.aS) (dX:N) (km:N->Prop) (v:H),(cF.c3 T).dD aU v km dX->¬km n8->v n8=some (s4 k hG p c ((cF.c3 T).iface dX))->T.w=[]->T.aq=aq->Wr v:=by
   intro T dX km v ll eT aB ln C7;refine EZ v ⟨λx w=>0<=x/\x<=l.length/\∃(qx:N->Prop) (ny:cF),ny.dD aU w qx dX/\¬qx n8/\w n8=some (s4 k hG p c (ny.iface dX))/\ny.rows.Perm ((l.take x.toNat).map az.bL)/\ny.aq=aq/\ny.fB=(cF.c3 T).fB,λx _=>l.length-x.toNat,⟨by omega,by omega,km,.c3 T,ll,eT,aB,?_,C7,rfl⟩,?_⟩;show(hc.a6 T).Perm _;unfold hc.a6;rw[ln];exact Kf _;rintro x w ⟨bK,dw,qx,ny,Yk,AN,S1,R1,Yl,Ym⟩;have I7:eF w s l:=dZ.mono (cF.base Yk).1;refine⟨λJ=>?_,λfO=>?_⟩;obtain⟨q,aL,r,O,bM,c1,aqE⟩:=I7.at bK J;have fp:r∈l:=dB O;refine⟨q,aL,⟨bK,J⟩,r.id,bM,r.s,c1,ny.iface dX,a8 S1 4,?_⟩;obtain⟨oR,aiE⟩:=axX b4 O R1;rw[<-Yl] at aiE;refine cF.D8 Yk (by rw[cF.agF Ym];omega) ahk aqE (.inr (dZ.2 r fp)) (λan=>aV aiE an) λ_ u' fy ae8 atE ht atG atF ahp _=>⟨⟨by omega,by omega⟩,⟨by omega,by omega,fy,ae8,atE,λe=>(ht.grow n8 e).elim AN λaF=>(by rw[S1] at aF;cases aF),?_,?_,by rw[atF];exact Yl,by rw[ahp];exact Ym⟩,by dsimp only;omega⟩;rw[show ae8.iface dX=ny.iface dX by unfold cF.iface;rw[ahp]];exact ht.bS _ _ S1 AN;rw[show(x+1).toNat=x.toNat+1 by omega];exact aCs O R1 oR atG;have fh:x.toNat=l.length:=by have:¬x<(s.n:o):=fO;omega
   rw[fh,oE] at R1;exact lV 0 w ⟨λe=>aV rfl e,λ_=>bH n8 _ ⟨k,hG,p,c,dX,ny⟩ w ⟨qx,λ_=>BJ,AN,pv,S1,cF.nf Yk ej⟩ R1 Yl rfl rfl rfl rfl (cF.agF Ym)⟩
  refine⟨λgA=>?_,λ_=>?_⟩
  ·
   obtain⟨gX,dv,c1,c2⟩:1<=p/\p<=8/\1<=c/\c<=16:=by omega
   have ae5:w1 n30=some (.cells #[.int .i64 aq,.map (some m)] 127 (0,0)):=cW _ _ ae4 HP;refine⟨aq,a8 ae5 0,_,a8 ae5 1,D4 λhV akQ Sz aiC=>?_⟩;obtain⟨HN,Yi⟩:∃HN,HN=w1.ins hV akQ:=⟨_,rfl⟩;rw[<-Yi] at aiC ⊢;have lK:w1.le HN:=by rw[Yi];exact bZ _ Sz
   have ae6:HN hV=some akQ:=by rw[Yi];exact bi _ _ _
   obtain⟨aH2,Zv⟩:∃z,w1 m=some z:=by obtain⟨es,cl,e,_⟩:=abp;exact⟨_,e⟩
   intro n50 Nf;obtain⟨Lj,Yj⟩:∃Lj,Lj=HN.ins n50 (.cells #[.int .i64 aq,.map (some m),.pointer none,.map (some hV)] 132 (0,0)):=⟨_,rfl⟩;rw[<-Yj];have Gh:HN.le Lj:=by rw[Yj];exact bZ _ Nf
   have apm:Lj n50=some (.cells #[.int .i64 aq,.map (some m),.pointer none,.map (some hV)] 132 (0,0)):=by rw[Yj];exact bi _ _ _
   have afD:hV≠n8:=zx Sz QX;have W5:hV≠m:=zx Sz Zv;have d8:n50≠n8:=zx Nf (lK _ _ QX);have hB:n50≠m:=zx Nf (lK _ _ Zv);have afR:n50≠hV:=zx Nf ae6;have Gg:=lK.trans Gh;have aa8:=Tg.trans Gg;have aCK:aU hV=none:=Tg.none Sz;have anI:aU n50=none:=(Tg.trans lK).none Nf;refine z8 (dZ.mono aa8) b4.id (by omega) (λr O=>by have:=(b4.v r O).1;omega) λG5 ls ae7 X7 ib _=>?_;have zr:=X7.own.le;have avc:ls.length=l.length:=by have:=ib.length_eq;simpa using this
   have oq:∀r∈ls,(r.v.length:o)=aq/\c8 r.v:=λr O=>by obtain⟨de,dz,e⟩:=bk.1 (ib.mem_iff.1 (bk.2 ⟨r,O,rfl⟩));have:de.v=r.v:=eB tH e;rw[<-this];exact b4.v de dz
   have aGP:=X7.rws.len;refine⟨λKo x w=>0<=x/\x<=ls.length/\aK ae7 w 30 1 Ko (((ls.take x.toNat).map λr=>(r.s,r.v)).flatMap λy=>encS y.1),λ_ x _=>ls.length-x.toNat,⟨by omega,by omega,aK.nil (H.le.refl ae7) _ _⟩,?_⟩;rintro Ko x w ⟨bK,dw,ab⟩;have vL:=X7.rws.mono ab.le;have asy:Ko.n=((ls.take x.toNat).map λr=>(r.s,r.v)).length:=gU vF (by decide) ab.own.cI;rw[dj,gq] at asy;refine⟨λJ=>?_,λfO=>?_⟩;obtain⟨q,aL,r,O,jz,cq,_⟩:=vL.at bK J;refine⟨q,aL,⟨bK,J⟩,r.id,jz,r.s,cq,?_⟩;refine nV U0 (jH.Ra r.s) (by decide) rfl (by simp[cK]) ab (by show Ko.n<_;omega) (by show(Ko.n+1)*_<=_;omega) λau u' bQ h5 _ _ _=>⟨⟨by omega,by omega⟩,⟨by omega,by omega,?_⟩,by dsimp only;omega⟩;rw[show(x+1).toNat=x.toNat+1 by omega,gJ,O,er,gZ];exact bQ
   .have fh:x.toNat=ls.length:=by
     have:¬x<(G5.n:o):=fO
     omega
    rw[fh,oE] at ab
    have zq:=zr.trans ab.le
    have Vh:w n8=some (s4 k hG p c (.iface 128 (.pointer (some ⟨n30,0,none⟩)))):=zq _ _ (Gg _ _ QX)
    have Vj:=zq _ _ apm
    have last:∀(co:aA hc.tS) (v:H),v n8=some (s4 k hG p c (.iface 128 (.pointer (some ⟨n30,0,none⟩))))->v n50=some (.cells #[.int .i64 aq,.map (some m),.pointer (hc.pN.ptr ⟨hV,[],co⟩),.map (some hV)] 132 (0,0))->(∀x z,Lj x=some z->x≠n50->v x=some z)->
      (∀dN,co=some dN->hc.Ei aq dN.eR/\∃u',hc.Et w u' aq dN/\∀x z,u' x=some z->x≠n50->v x=some z)->H.aO v (eu (cw n8 0 none) 4) [.iface 129 (.pointer (some ⟨n50,0,none⟩))] λY=>Wr Y:=by
     intro co v P4 rb adX tg
     refine adt P4 (by simp[cK]) ?_
     obtain⟨Y,aC⟩:∃Y,Y=v.ins n8 (s4 k hG p c (.iface 129 (.pointer (some ⟨n50,0,none⟩)))):=⟨_,rfl⟩
     rw[<-aC]
     have LU:∀x z,v x=some z->x≠n8->Y x=some z:=λx z J an=>by rw[aC,bq _ _ an];exact J
     have aGo:Y n8=some (s4 k hG p c (.iface 129 (.pointer (some ⟨n50,0,none⟩)))):=by rw[aC];exact bi _ _ _
     have arc:aU.le Y:=λx z J=>LU x z (adX x z (aa8 x z J) λe=>by rw[e,anI] at J;cases J) λe=>by rw[e,ot] at J;cases J
     obtain⟨D,eT,XU⟩:=hc.start (cd:=some ⟨hV,[],co⟩) arc (LU _ _ rb d8) (abp.else λz ab=>LU m z (adX m z (Gg m z ab) (dG hB)) m8) hB anI anJ X8 λnC dd=>by obtain rfl:=cX dd;refine⟨rfl,aiC.else λz ab=>LU hV z (adX hV z (Gh hV z ab) (dG afR)) afD,W5,dG afR,aCK,λdN AZ=>?_⟩;obtain⟨cV,u',dc,dh⟩:=tg dN AZ;refine⟨cV,w,u',aa8.trans zq,dc,λx z J aa=>?_,by rw[Vj];simp,?_,?_⟩;have ajM:=(dc.fresh x aa).1;exact LU x z (dh x z J (zx ajM Vj)) (zx ajM Vh);rw[zq _ _ (Gg _ _ Zv)];simp;rw[zq _ _ (Gh _ _ ae6)];simp
     refine loop ⟨aq,m,[],some ⟨hV,[],co⟩⟩ n50 D Y eT (λe=>?_) (by rw[cF.Jh (c:=⟨hV,[],co⟩) rfl];exact aGo) rfl rfl
     rcases XU n8 e with e|e|⟨kV,fQ,e⟩|⟨kV,dN,fQ,hk,aa⟩
     exact d8 e.symm
     exact m8 e.symm
     obtain rfl:=cX fQ
     exact afD e.symm
     obtain rfl:=cX fQ
     obtain⟨_,u',dc,_⟩:=tg dN hk
     have:=(dc.fresh n8 aa).1
     rw[Vh] at this;cases this
    refine⟨λI=>?_,λ_=>last none w Vh Vj (λx z J _=>zq x z J) λ_ e=>(by cases e)⟩
    have yY:mJ w Ko (ls.map λr=>(r.s,r.v)):=⟨ab.own.cI,λy ai=>by obtain⟨r,O,rfl⟩:=bk.1 ai;exact vL.2 r O⟩
    refine hc.aBh yY (λy ai=>?_) X8 ⟨gX,dv⟩ (hdiv gA) ⟨c1,c2⟩ (by rw[dj];omega) (by rw[dj];omega) (by decide) λU8 dN hO asI=>?_
    obtain⟨r,O,rfl⟩:=bk.1 ai
    exact oq r O
    have aqr:=hO.le _ _ Vj
    refine aBX aqr ?_
    obtain⟨U9,aak⟩:∃U9,U9=U8.ins n50 (.cells #[.int .i64 aq,.map (some m),.pointer (some ⟨dN.b,0,none⟩),.map (some hV)] 132 (0,0)):=⟨_,rfl⟩
    rw[<-aak]
    have Xi:∀x z,U8 x=some z->x≠n50->U9 x=some z:=λx z J an=>by rw[aak,bq _ _ an];exact J
    refine last (some dN) U9 (Xi _ _ (hO.le _ _ Vh) (dG d8)) (by rw[aak];exact bi _ _ _) (λx z J an=>Xi x z (hO.le x z (zq x z J)) an) λdV dJ=>?_
    obtain rfl:=cX dJ
    exact⟨asI,U8,hO,Xi⟩
  obtain⟨D,eT,XU⟩:=hc.start (cd:=none) Tg (cW _ _ ae4 HP) abp tZ aCJ anJ X8 λ_ e=>by cases e
  refine loop ⟨aq,m,[],none⟩ n30 D w1 eT (λe=>?_) (by rw[cF.Ji rfl];exact QX) rfl rfl;rcases XU n8 e with e|e|⟨_,e,_⟩|⟨_,_,e,_⟩;exact HP e.symm;exact m8 e.symm;cases e;cases e
 exact⟨λgA=>⟨by omega,λan=>bad 100 aU ej (by rw[base,a1 ⟨gA,an⟩]) (by decide),λhe=>main (λ_=>he) _ _⟩,λgA=>main (λe=>aV e gA) _ _⟩
def ap3{bE:M az}(h:l.map az.bL=bE.map az.bL):mN l=mN bE/\mM l=mM bE:=by
 have key:∀(f:M o->M o->M o) (l:M az),l.foldl (λacc r=>f acc r.v) (l.headD ⟨0,⟨none,0,0⟩,[]⟩).v=(l.map az.bL).foldl (λacc r=>f acc r.2) ((l.map az.bL).headD (0,[])).2:=λf l=>by rw[List.foldl_map];cases l<;>rfl
 exact⟨by unfold mN;rw[key lq,key lq,h],by unfold mM;rw[key lr,key lr,h]⟩
def azH{a b c cT Av nC:U}{bE:M az}(h:l.map az.bL=bE.map az.bL):(wD a b c l).map cn.core=(wD cT Av nC bE).map cn.core:=by
 have ap:=azc h;have he:l=[]↔bE=[]:=by rw[<-Uh,ap,Uh]
 unfold wD;by_cases e:l=[];rw[a1 e,a1 (he.1 e)];rw[aG e,aG λfW=>e (he.2 fW)];obtain⟨h1,h2⟩:=ap3 h;show[_]=[_];simp only[cn.core,h1,h2];rw[p6,h,<-p6]
def Sound.bL{L':M az}{k:o}{e0:M bP}{seen:M o}(h:Sound L q k e0 seen rest)(ad:(L.map az.bL).Perm (L'.map az.bL)):Sound L' q k e0 seen rest where
 D0:=h.D0
 jD r O:=by obtain⟨h1,h2,h3⟩:=h.jD r O;refine⟨h1,h2,λx J=>?_⟩;obtain⟨w,hw,rfl,cb⟩:=h3 x J;obtain⟨w',j2,e⟩:=bk.1 (ad.mem_iff.1 (ie hw));exact⟨w',j2,eB sI e,by rw[show w'.v=w.v from eB tH e];exact cb⟩
 all:=by rw[p6];refine h.all.trans ?_;rw[p6];exact ad.map _
 first m hm ag:=by
  have:∀m:M az,(∀r∈m,r∈L')->∃qU:M az,(∀r∈qU,r∈L)/\qU.map az.bL=m.map az.bL:=by
   intro m;induction m with
   |nil=>exact λ_=>⟨[],λr O=>(by cases O),rfl⟩
   |cons a m aM=>intro hm;obtain⟨qU,h1,h2⟩:=aM λr O=>hm r (gh _ O);obtain⟨w,hw,e⟩:=bk.1 (ad.mem_iff.2 (ie (hm a (gr ..))));refine⟨w::qU,λr O=>?_,by rw[gR,gR,e,h2]⟩;rcases cP.1 O with rfl|O;exact hw;exact h1 r O
  obtain⟨qU,h1,h2⟩:=this m hm;rw[<-ail h2];exact h.first qU h1 (by rw[p6,h2,<-p6];exact ag)
def Sound.core{k:o}{e0:M bP}{seen:M o}{alG:M cn}(h:Sound L q k e0 seen rest)(e:rest.map cn.core=alG.map cn.core):Sound L q k e0 seen alG where
 D0:=h.D0
 jD de dz:=by have hm:de.core∈rest.map cn.core:=e▸ie dz;obtain⟨r,O,I⟩:=bk.1 hm;have c1:r.aI=de.aI:=eB (λY=>Y.1) I;have c2:r.cA=de.cA:=eB (λY=>Y.2.1) I;have fc:r.bm=de.bm:=eB (λY=>Y.2.2.1) I;have pS:r.hi=de.hi:=eB (λY=>Y.2.2.2.1) I;have rm:r.ids=de.ids:=eB (λY=>Y.2.2.2.2) I;obtain⟨h1,h2,h3⟩:=h.jD r O;refine⟨⟨h1.aq,rm▸h1.ids,rm▸h1.id,by rw[<-c1,<-c2,<-fc,<-pS];exact h1.shape⟩,rm▸h2,λx J=>?_⟩;obtain⟨w,hw,rfl,cb⟩:=h3 x (rm▸J);refine⟨w,hw,rfl,?_⟩;unfold mH at cb ⊢;rw[<-c1,<-c2,<-fc,<-pS];exact cb
 all:=by
  have key:∀l:M cn,l.flatMap (·.ids)=(l.map cn.core).flatMap (λY=>Y.2.2.2.2):=λl=>by rw[BZ];rfl
  rw[key,<-e,<-key];exact h.all
 first:=h.first
namespace hc
def axr:∀{w:nx},(w.map (·.1)).Nodup->∀{a b},a∈w->b∈w->a.1=b.1->a=b:=by
 intro w;induction w with
 |nil=>intro _ a b ay;cases ay
 |cons x w aM=>intro ae a b ay aa e;have h:=h6.1 ae;have no:∀{y},y∈w->x.1=y.1->ed:=λai e=>h.1 (bk.2 ⟨_,ai,e.symm⟩);rcases cP.1 ay with h1|h1<;>rcases cP.1 aa with h2|h2;rw[h1,h2];exact(no h2 (h1▸e)).elim;exact(no h1 (h2▸e).symm).elim;exact aM h.2 h1 h2 e
def ve(w:nx)(id:o):M o:=((w.find? λe=>e.1==id).map λe=>e.2.2).getD []
def Pk{w:nx}(ae:(w.map (·.1)).Nodup){e:o×(U×M o)}(he:e∈w):ve w e.1=e.2.2:=by
 unfold ve;cases ac:w.find? λx=>x.1==e.1 with
 |none=>exact aV (Kb.1 ac e he) (by simp)|some x=>
  have h1:x.1=e.1:=by simpa using JX ac
  rw[axr ae (JW ac) he h1];rfl
def azP{w:nx}{id:o}(h:id∉w.map (·.1)):ve w id=[]:=by unfold ve;rw[Kb.2 λx J=>by simp only[TV];exact λe=>h (e▸ie J)];rfl
def za(w:nx)(q:M o)(id:o):bP:=(id,fG (ve w id) q (ve w id).length)
def Uo(eR:M (U×M (U×M o)))(q:M o)(n i:N):M o:=(((eR[i]?).map (·.2)).getD []).map λy=>fG (tB q n i) y.2 n
def Cc(eR:M (U×M (U×M o)))(q:M o):M (M o):=(lz eR.length).map (Uo eR q (q.length/eR.length))
def B9(c3:M (M o))(code:M o):N->o
 |0=>0|i+1=>B9 c3 code i+(c3.getD i []).getD (code.getD i 0).toNat 0
def LS(c3:M (M o))(code:M o):o:=open Classical in if c3.length=code.length/\∀i,i<code.length->0<=code.getD i 0/\code.getD i 0<(c3.getD i []).length then B9 c3 code code.length else 0
def AF(cd:aA pN)(q:M o)(id:o):o:=match cd with
 |some ⟨_,sP,some k⟩=>LS (Cc k.eR q) (ve sP id)|_=>0
def qV(T:aS)(q:M o):M o:=(ng ((dS (T.w.map (·.1))).map λid=>(id,AF T.cd q id))).map (·.1)
def akV(T:aS)(q:M o):(qV T q).Perm (T.w.map (·.1)):=by unfold qV;refine((vm _).map _).trans ?_;rw[eh];rw[show((·.1)∘λid:o=>((id,AF T.cd q id):bP))=(λid:o=>id) from rfl,DU];exact nW _
def tJ(w:nx):M az:=(dS (w.map (·.1))).map λid=>⟨id,⟨none,0,0⟩,ve w id⟩
def alM{w:nx}(ae:(w.map (·.1)).Nodup):((tJ w).map az.bL).Perm (w.map λe=>(e.1,e.2.2)):=by unfold tJ;rw[eh];refine((nW _).map _).trans (acp ?_);rw[eh];refine zQ λe he=>?_;show(e.1,ve w e.1)=_;rw[Pk ae he]
def azT{w:nx}(ae:(w.map (·.1)).Nodup){ls:M az}(ad:(ls.map az.bL).Perm (w.map λe=>(e.1,e.2.2)))(ag:ls.Pairwise λa b=>a.id<=b.id):ls.map az.bL=(tJ w).map az.bL:=by
 have hk:(w.map λe=>(e.1,e.2.2)).map (·.1)=w.map (·.1):=by rw[eh];rfl
 refine azd ?_ ?_ (ad.trans (alM ae).symm);have b3:(ls.map (·.id)).Nodup:=by rw[p6];exact((ad.map _).nodup_iff).2 (by rw[hk];exact ae)
 rw[T4,wy] at b3;rw[wy];refine(ag.and b3).imp λ{x y} iV=>?_;have:=iV.1;have:=iV.2;show x.id<y.id;omega;unfold tJ;rw[eh,wy];exact(D7 ae).imp λh=>h
def ix(T:aS)(q:M o)(k bud:o):M bP:=if T.cd.isSome then e6 k.toNat (((qV T q).take bud.toNat).map (za T.w q)) else e6 k.toNat (((tJ T.w).take bud.toNat).map (hM q))
def gg(T:aS)(q:M o)(_k bud:o):M o:=if T.cd.isSome then dS ((qV T q).take bud.toNat) else dS (((tJ T.w).take bud.toNat).map (·.id))
def jN(T:aS)(q:M o)(_k bud:o):M (o×o×M o×M o×M o):=
 if T.cd.isSome then if(qV T q).drop bud.toNat=[] then[] else[(1,0,[],[],dS ((qV T q).drop bud.toNat))] else(wD ⟨none,0,0⟩ ⟨none,0,0⟩ ⟨none,0,0⟩ ((tJ T.w).drop bud.toNat)).map cn.core
def sound{T:aS}(ae:(T.w.map (·.1)).Nodup){k bud:o}(fA:0<=bud)(c6:(L.map az.bL).Perm (a6 T))(aL:jt L q)(O:rest.map cn.core=jN T q k bud):
  Sound L q k (ix T q k bud) (gg T q k bud) rest/\((gg T q k bud).length:o)<=bud/\(((gg T q k bud).length:o)=bud∨(gg T q k bud).length=L.length):=by
 have hk:=nN T
 unfold jN at O
 unfold ix gg
 by_cases e:T.cd.isSome=ak
 rw[a1 e] at O
 simp only[a1 e]
 have ad:=akV T q
 have ay:(qV T q).take bud.toNat++(qV T q).drop bud.toNat=qV T q:=q2 _ _
 have b3:(qV T q).Nodup:=ad.nodup_iff.2 ae
 have R9:((qV T q).drop bud.toNat).Nodup:=b3.sublist (O4 _ _)
 have h0:dS ((qV T q).drop bud.toNat)=[]↔(qV T q).drop bud.toNat=[]:=by rw[<-Uh,z6,Uh]
 refine am8 (R:=dS ((qV T q).drop bud.toNat)) (by rw[hk];exact ae) c6 aL fA ?_ (by rw[gq];omega) (λan=>?_) (D7 R9) (λr ZS=>?_) ?_
 rw[hk]
 refine((nW _).append_left _).trans ?_
 rw[ay]
 exact ad
 rw[gq]
 by_cases hle:bud.toNat<=(qV T q).length
 omega
 exact aV (h0.2 (sC (by omega))) an
 obtain⟨x,J,e⟩:=bk.1 (c6.mem_iff.1 (ie ZS))
 have aQ:x.1=r.id:=eB sI e
 have aF:x.2.2=r.v:=eB tH e
 unfold za hM
 rw[<-aQ,Pk ae J,aF]
 rw[O]
 by_cases aF:(qV T q).drop bud.toNat=[]
 rw[a1 aF,a1 (h0.2 aF)]
 rw[aG aF,aG λh=>aF (h0.1 h)]
 rw[aG e] at O
 simp only[aG e]
 have ad:((tJ T.w).map az.bL).Perm (L.map az.bL):=(alM ae).trans c6.symm
 have Dl:jt (tJ T.w) q:=⟨aL.Ht,D1 aL.rows.aq (by have:=ad.length_eq;rw[dj,dj] at this;rw[this];exact aL.rows.len) (by rw[p6];exact((ad.map (·.1)).nodup_iff).2 (by rw[<-p6];exact aL.rows.nodup)) λp Dk=>by obtain⟨r,O,rfl⟩:=bk.1 (ad.mem_iff.1 Dk);exact⟨(aL.rows.id r O).1,(aL.rows.id r O).2,(aL.rows.v r O).1,(aL.rows.v r O).2⟩⟩
 have ag:=ar0 (k:=k) (b:=bud) Dl ⟨none,0,0⟩ ⟨none,0,0⟩ ⟨none,0,0⟩
 have hlen:(tJ T.w).length=L.length:=by have:=ad.length_eq;simpa using this
 have sq:(dS (((tJ T.w).take bud.toNat).map (·.id))).length=min bud.toNat L.length:=by rw[z6,dj,gq,hlen]
 refine⟨(Sound.core ag O.symm).bL ad,by rw[sq];omega,by rw[sq];omega⟩
end hc
end
namespace hc
section
variable{c3:M (M o)}{u:H}{s:U}
open lS (eb tc py zz je CS)
def ER(d:o):M ao:=[.int .u64 (cZ d),.int .u64 (c5 d)]
def Ro(d:o):(ER d).length=2:=rfl
def aCn:kI aH 359=some (66,2,16,[.int .u64 0,.int .u64 0]):=by kernel_rfl
def aCm:kI aH 354=some (359,1,24,[.slice none 0 0]):=by kernel_rfl
def aqg(x y:o):kH aH 359 1 #[(0,.agg #[.int .u64 x,.int .u64 y])]=some (66,[.int .u64 x,.int .u64 y]):=by kernel_rfl
def aqf(s:U):kH aH 354 1 #[(0,.slice s.a s.n s.c)]=some (359,[.slice s.a s.n s.c]):=by kernel_rfl
structure yB(u:H)(s:U)(c3:M (M o)):Prop where
 ex:∃cr:M (U×M o),bz u s 1 (cr.flatMap λy=>encS y.1)/\cr.map (·.2)=c3/\∀y∈cr,bz u y.1 2 (y.2.flatMap ER)
def yB.mono{u':H}(h:yB u s c3)(k:u.le u'):yB u' s c3:=by obtain⟨cr,h1,h2,h3⟩:=h.ex;exact⟨cr,h1.mono k,h2,λy ai=>(h3 y ai).mono k⟩
def yB.len(h:yB u s c3):s.n=c3.length:=by obtain⟨cr,h1,h2,_⟩:=h.ex;rw[<-h2,dj];exact gU vF (by decide) h1
def yB.at(h:yB u s c3){x:o}(h0:0<=x)(h1:x<(s.n:o)):∃p,s.a=some p/\∃t:U,u.cell? (p.add (x.toNat*1))=some (.slice t.a t.n t.c)/\bz u t 2 ((c3.getD x.toNat []).flatMap ER):=by
 have ae:=h.len;obtain⟨cr,s1,s2,nS⟩:=h.ex;have ap:x.toNat<cr.length:=by have:=eB iC s2;rw[dj] at this;omega
 have J:cr[x.toNat]?=some cr[x.toNat]:=cy ap;obtain⟨p,ad,I⟩:=bz.elem vF (by decide) s1 J;refine⟨p,ad,_,I 0 _ rfl,?_⟩;have:c3.getD x.toNat []=cr[x.toNat].2:=by rw[<-s2,dm,jq,J];rfl
 rw[this];exact nS _ (kD ap)
def aAK{af:N->aA bx}{d:o}{k:tS}{t:U}{q:M o}{K:U->o->H->Prop}(h:sT af u d k)(aa:Ei d k.eR)(ht:Ints u t q)(aL:hv q d=0)
  (av:∀s u',u.le u'->yB u' s (Cc k.eR q)->K s 0 u'):VM (some ⟨k.b,0,none⟩) t u K:=by
 have ae:=h.len
 have hm:=aa.many
 obtain⟨n,b8,nd,dK⟩:=aa.LD
 obtain⟨d1,d2,d3,d4⟩:=oL aL
 have ap:q.length=k.eR.length*n:=by omega
 have hdiv:q.length/k.eR.length=n:=by rw[ap];exact Nat.mul_div_cancel_left n (by omega)
 apply aEt
 refine⟨λe=>(by cases e),λ_=>⟨_,rfl,_,a8 h.cell 0,qj ht ?_⟩⟩
 rw[aL]
 refine⟨λe=>aV rfl e,λ_=>⟨_,rfl,k.gv,a8 h.cell 1,λs x w=>0<=x/\x<=k.gv.n/\∃cr:M (U×M o),cr.map (·.2)=(lz x.toNat).map (Uo k.eR q n)/\aK u w 359 1 s (cr.flatMap λy=>encS y.1)/\∀y∈cr,aK u w 66 2 y.1 (y.2.flatMap ER)/\dO s y.1,λ_ x _=>k.gv.n-x.toNat,⟨by omega,by omega,[],rfl,aK.nil (H.le.refl u) _ _,λy ai=>(by cases ai)⟩,?_⟩⟩
 rintro s x w ⟨bK,dw,cr,fq,ab,cb⟩
 have hw:=h.mono ab.le
 have aHI:cr.length=x.toNat:=by have:=eB iC fq;simpa using this
 have dM:s.n=cr.length:=gU vF (by decide) ab.own.cI
 have FZ:=ht.mono ab.le
 refine⟨λJ=>?_,λfO=>?_⟩
 obtain⟨p,ad,c,oP,cL,bM⟩:=hw.at bK J
 have pX:=dK c cL
 have yY:=hw.tY c cL
 have Zd:=pX.many
 have pk:=yY.len
 refine⟨p,ad,⟨bK,J⟩,c.1,bM,λs2 y v=>0<=y/\y<=c.1.n/\aK w v 66 2 s2 (((c.2.take y.toNat).map λY=>fG (tB q n x.toNat) Y.2 n).flatMap ER),λ_ y _=>c.1.n-y.toNat,⟨by omega,by omega,aK.nil (H.le.refl w) _ _⟩,?_⟩
 rintro s2 y v ⟨hS,ij,dP⟩
 have asq:s2.n=(c.2.take y.toNat).length:=by have:=gU Ro (by decide) dP.own.cI;rw[dj] at this;exact this
 rw[gq] at asq
 have aB:=hw.mono dP.le
 refine⟨λai=>?_,λawY=>?_⟩
 obtain⟨dv,eJ,Y,aC,S6,Lx,axl⟩:=(yY.mono dP.le).at hS ai
 refine⟨dv,eJ,⟨hS,ai⟩,Y.1,Lx,_,rfl,k.gv,a8 aB.cell 1,?_⟩
 dsimp only
 rw[ae]
 have aja:=FZ.mono dP.le
 refine adk aja ap hm.1 b8 (by omega) bK (by omega) λym rK=>?_
 have pl:=Tz ap (i:=x.toNat) (by omega)
 obtain⟨aQ,aF⟩:=pX.each Y S6
 refine B6 (rK _ aja) axl (TA d4 _ _) (by omega) aF (by omega) λa b Ee ub Mq=>?_
 refine nV aCn (aqg a b) (by decide) rfl (by simp[cK]) dP (by show s2.n<_;omega) (by show(s2.n+1)*_<=_;omega) λau u' bQ h5 _ _ _=>⟨⟨by omega,by omega⟩,⟨by omega,by omega,?_⟩,by omega⟩
 rw[show(y+1).toNat=y.toNat+1 by omega,gJ,aC,er,gZ]
 obtain⟨gk,ew⟩:=Af Ee ub
 rw[Mq,pl] at gk ew
 rw[gk,ew] at bQ
 exact bQ
 have F7:y.toNat=c.2.length:=by have:¬y<(c.1.n:o):=awY;omega
 rw[F7,oE] at dP
 have Di:=ab.mono dP.le
 have ac:dO s s2:=λg h1 h2=>by have:=dP.fresh g h2;exact dL ab h1 this
 refine nV aCm (aqf s2) (by decide) rfl (by simp[cK]) Di (by show s.n<_;omega) (by show(s.n+1)*_<=_;omega) λau u' bQ h5 he eA _=>⟨⟨by omega,by omega⟩,⟨by omega,by omega,cr++ [(s2,c.2.map λY=>fG (tB q n x.toNat) Y.2 n)],?_,?_,λY aC=>?_⟩,by dsimp only;omega⟩
 rw[show(x+1).toNat=x.toNat+1 by omega,List.range_succ,er,er,fq]
 unfold Uo
 rw[show([x.toNat].map λi=>(((k.eR[i]?).map (·.2)).getD []).map λy=>fG (tB q n i) y.2 n)=[(((k.eR[x.toNat]?).map (·.2)).getD []).map λy=>fG (tB q n x.toNat) y.2 n] from rfl,oP]
 rfl
 rw[gZ];exact bQ
 have key:∀Y:U×M o,aK u v 66 2 Y.1 (Y.2.flatMap ER)->dO s Y.1->aK u u' 66 2 Y.1 (Y.2.flatMap ER)/\dO au Y.1:=λY h1 h2=>⟨aK.else h1 he (λg W=>Di.fresh g W) h2,λg g1 g2=>by rcases eA g g1 with e|e;exact h2 g e g2;exact dL h1 g2 e⟩
 rcases cM.1 aC with aC|aC
 exact key Y ((cb Y aC).1.mono dP.le) (cb Y aC).2
 rw[gp.1 aC]
 exact key (s2,_) (dP.weaken ab.le) ac
 have fh:x.toNat=k.eR.length:=by have:¬x<(k.gv.n:o):=fO;omega
 rw[fh] at fq
 refine av _ _ ab.le ⟨cr,ab.own.cI,?_,λy ai=>(cb y ai).1.own.cI⟩
 rw[fq]
 unfold Cc
 rw[hdiv]
structure HK(c3:M (M o)):Prop where
 many:c3.length<=8
 each:∀r∈c3,∀d∈r,0<=d/\d<=64*18446744056529682436
def HK.get(h:HK c3)(i j:N):0<=(c3.getD i []).getD j 0/\(c3.getD i []).getD j 0<=64*18446744056529682436:=by
 rw[dm (l:=c3)];cases e:c3[i]? with
 |none=>simp|some r=>
  have O:=dB e;simp only[JR];rw[dm];cases aF:r[j]? with
  |none=>simp|some d=>exact h.each r O d (dB aF)
def aCo{d:o}{eR:M (U×M (U×M o))}{q:M o}(aa:Ei d eR)(aL:hv q d=0):HK (Cc eR q):=by
 obtain⟨n,b8,nd,dK⟩:=aa.LD;obtain⟨d1,d2,d3,d4⟩:=oL aL;have hm:=aa.many;have ap:q.length=eR.length*n:=by omega
 have hdiv:q.length/eR.length=n:=by rw[ap];exact Nat.mul_div_cancel_left n (by omega)
 have Ig:n<=64:=by have:1*n<=eR.length*n:=tG _ hm.1;omega
 refine⟨by unfold Cc;rw[dj,List.length_range];omega,λr O y ai=>?_⟩;unfold Cc at O;obtain⟨i,hi,rfl⟩:=bk.1 O;have eU:i<eR.length:=JY.1 hi;rw[hdiv] at ai;unfold Uo at ai;rw[cy eU] at ai;obtain⟨Y,aC,rfl⟩:=bk.1 ai;obtain⟨aQ,aF⟩:=(dK _ (kD eU)).each Y aC;have:=Hf (TA d4 n i) aF n (by rw[Tz ap eU];omega) (by omega);have h2:(n:o)*18446744056529682436<=64*18446744056529682436:=by omega
 omega
def aCa(h:HK c3)(code:M o):∀i:N,0<=B9 c3 code i/\B9 c3 code i<=i*(64*18446744056529682436):=by
 intro i;induction i with
 |zero=>exact⟨mw _,mw _⟩|succ i aM=>have:=h.get i (code.getD i 0).toNat;show 0<=B9 c3 code i+_/\B9 c3 code i+_<=_;omega
def aAH{t:U}{code:M o}{K:o->o->o->H->Prop}(ag:yB u s c3)(ht:Ints u t code)(aa:HK c3)(av:∀x y e,cz x->cz y->dy x y=LS c3 code->K x y e u):VN s t u K:=by
 have dM:=ag.len;have aac:=ht.len;have NX:=ht.max;have z0:cz 0:=⟨by decide,by decide⟩;have bad:¬(c3.length=code.length/\∀i,i<code.length->0<=code.getD i 0/\code.getD i 0<(c3.getD i []).length)->K 0 0 101 u:=λh=>av 0 0 101 z0 z0 (by unfold LS;rw[aG h];rfl);apply aEu;refine⟨λan=>bad λh=>an (by omega),λhe=>⟨λ_ x _ _ w=>w=u/\0<=x/\x<=t.n/\∀i:N,(i:o)<x->0<=code.getD i 0/\code.getD i 0<(c3.getD i []).length,λ_ x _ _ _=>t.n-x.toNat,⟨rfl,by omega,by omega,λi hi=>aV hi (by omega)⟩,?_⟩⟩;rintro _ x _ _ w ⟨rfl,bK,dw,W⟩;refine⟨λJ=>?_,λfO=>?_⟩;obtain⟨p,ad,bM⟩:=ht.at bK J;obtain⟨dv,eJ,y,yN,UZ⟩:=ag.at bK (by omega);have F8:=gU Ro (by decide) UZ;refine⟨p,ad,⟨bK,J⟩,_,bM,λaHr=>bad λh=>?_,λoT=>⟨dv,eJ,⟨bK,by omega⟩,y,yN,λhle=>bad λh=>?_,λbw=>⟨⟨by omega,by omega⟩,⟨rfl,by omega,by omega,λi hi=>?_⟩,by dsimp only;omega⟩⟩⟩;have:=h.2 x.toNat (by omega);omega;have:=h.2 x.toNat (by omega);omega;by_cases e:i=x.toNat;rw[e];omega;exact W i (by omega);have fh:x=code.length:=by have:¬x<(t.n:o):=fO;omega
 have ef:c3.length=code.length/\∀i,i<code.length->0<=code.getD i 0/\code.getD i 0<(c3.getD i []).length:=⟨by omega,λi hi=>W i (by omega)⟩;have e:LS c3 code=B9 c3 code code.length:=a1 ef;refine⟨λ_ x a b _ _ v=>v=w/\0<=x/\x<=t.n/\cz a/\cz b/\dy a b=B9 c3 code x.toNat,λ_ x _ _ _ _ _=>t.n-x.toNat,⟨rfl,by omega,by omega,z0,z0,rfl⟩,?_⟩;rintro _ x a b _ _ v ⟨rfl,bK,dw,Ee,ub,hw⟩;refine⟨λJ=>?_,λfO=>?_⟩;obtain⟨p,ad,bM⟩:=ht.at bK J;obtain⟨dv,eJ,y,yN,UZ⟩:=ag.at bK (by omega);have F8:=gU Ro (by decide) UZ;obtain⟨g0,g1⟩:=ef.2 x.toNat (by omega);obtain⟨j,aN⟩:∃j,j=(code.getD x.toNat 0).toNat:=⟨_,rfl⟩;have kM:j<(c3.getD x.toNat []).length:=by omega
 have ain:(c3.getD x.toNat [])[j]?=some (c3.getD x.toNat [])[j]:=cy kM;obtain⟨mo,rH,fc⟩:=bz.elem Ro (by decide) UZ ain;have ar:(c3.getD x.toNat []).getD j 0=(c3.getD x.toNat [])[j]:=by rw[dm,ain];rfl
 have bH:=aa.get x.toNat j;rw[ar] at bH;have Z8:=aCa aa code x.toNat;have Df:=aa.many;have aHN:(x.toNat:o)<=8:=by omega
 have afB:=fc 0 _ rfl;rw[Addr.add_zero'] at afB;refine⟨p,ad,⟨bK,J⟩,_,bM,dv,eJ,⟨bK,by omega⟩,y,yN,mo,rH,⟨g0,by omega⟩,_,by unfold aR;rw[<-aN];exact afB,_,by unfold aR;rw[<-aN];exact fc 1 _ rfl,?_⟩;have asO:lh (c3.getD x.toNat [])[j]:=⟨bH.1,by omega⟩;refine am6 Ee ub (Fs asO) (rQ _) (λkV kF nj aCZ iV=>⟨λh=>aV rfl h,λ_=>⟨⟨by omega,by omega⟩,⟨rfl,by omega,by omega,nj,aCZ,?_⟩,by dsimp only;omega⟩⟩) λatT=>?_;rw[iV,mD,hw,show(x+1).toNat=x.toNat+1 by omega];show _=B9 c3 code x.toNat+_;rw[<-aN,ar];rw[mD,hw] at atT;omega;have fh:x.toNat=code.length:=by have:¬x<(t.n:o):=fO;omega
 exact av a b 0 Ee ub (by rw[e,hw,fh])
end
section
variable{u aj:H}{b:N}{q:M o}{t:U}
open lS (eb tc py zz je CS)
def apJ:hf aH 318=ak:=by kernel_rfl
def aAF{l:M (o×ao)}{K:U->H->Prop}(h:fz u b l)(ap:l.length<=1000000)(av:∀s u',aK u u' 3 1 s ((dS (l.map (·.1))).flatMap encI)->K s u'):
  VK (some b) u λfv aU=>vp fv aU K:=by
 have b3:(l.map (·.1)).Nodup:=by obtain⟨_,_,_,he⟩:=h;exact he.nodup
 refine aEp (some b) u _ λn0 e1=>?_
 have hle:=bZ (u:=u) (b:=n0) (.cells #[.map (some b)] 125 (0,0)) e1
 refine eE.adl ap b3 (λaj rL=>?_) λs u' ab=>av s u' (ab.weaken hle)
 have hm:=h.mono (hle.trans rL)
 have I:aj.cell? ⟨n0,0,none⟩=some (.map (some b)):=a8 (rL _ _ (bi _ _ _)) 0
 intro mE cY k0 ai v K h0 av
 refine⟨_,_,_,rfl,hd apJ,hx.weaken (ss:=[]) ?_⟩
 exact aEq mE ⟨n0,0,none⟩ v _ ⟨_,qE (k0 _ _ h0) I,eE.aa1 je hm cY k0 ai h0 av⟩
def azy{w:nx}{d:o}(ae:(w.map (·.1)).Nodup)(ar:1<=d/\d<=64)(hi:∀e∈w,1<=e.1/\e.1<=1000000000)(aB:∀e∈w,(e.2.2.length:o)=d/\c8 e.2.2)(ag:w.length<=512)(aL:hv q d=0){ls:M az}(ad:(ls.map az.bL).Perm (w.map λe=>(e.1,e.2.2))):jt ls q:=by obtain⟨_,_,d3,d4⟩:=oL aL;refine⟨d4,?_⟩;rw[d3];have ap:=ad.length_eq;rw[dj,dj] at ap;refine D1 ar (by omega) ?_ λp Dk=>?_;rw[p6];refine((ad.map (·.1)).nodup_iff).2 ?_;rw[eh];exact ae;obtain⟨e,he,rfl⟩:=bk.1 (ad.mem_iff.1 Dk);exact⟨(hi e he).1,(hi e he).2,aB e he⟩
def jW.weaken{u':H}{aI ss bd:U}{e0:M bP}{seen:M o}{rest:M cn}(h:jW u u' aI ss bd e0 seen rest)(k:aj.le u):jW aj u' aI ss bd e0 seen rest:=
 ⟨h.h.weaken k,h.s.weaken k,h.r.weaken k,λr O=>⟨(h.g r O).l.weaken k,(h.g r O).h.weaken k,(h.g r O).i.weaken k⟩,h.eG⟩
def aBz{af:N->aA bx}{T:aS}{k bud:o}{K:U->U->U->o->H->Prop}(h:In aj u af b T)(aT:dU T)(kb:T.cd=none)(ht:Ints u t q)
  (dq:hZ q T.aq k bud≠0->∀u',u.le u'->K ⟨none,0,0⟩ ⟨none,0,0⟩ ⟨none,0,0⟩ (hZ q T.aq k bud) u')
  (bH:hZ q T.aq k bud=0->∀aI ss bd rest u',jW u u' aI ss bd (ix T q k bud) (gg T q k bud) rest->rest.map cn.core=jN T q k bud->K aI ss bd 0 u'):aei (some ⟨b,0,none⟩) t k bud u K:=by
 apply aDd
 refine⟨_,rfl,_,aS.bM h.aJ.cell,Kv ht ⟨λan=>dq an u (H.le.refl u),λhe=>?_⟩⟩
 obtain⟨aB,cq,cH,fA,ga⟩:=w6.1 he
 refine z7 h aT λs ls aU b4 ad ag=>?_
 have hle:=b4.own.le
 have ae:=h.aJ.r8
 have mU:=azT ae ad ag
 have aL:=azy ae aT.hB aT.ids aT.vec aT.small aB ad
 have E9:¬T.cd.isSome=ak:=by rw[kb];simp
 have anA:∀j,(ls.take j).map az.bL=((tJ T.w).take j).map az.bL:=λj=>by rw[Kc,mU,Kc]
 have br:∀j,(ls.drop j).map az.bL=((tJ T.w).drop j).map az.bL:=λj=>by rw[DS,mU,DS]
 have MF:=anb.2 ⟨aL,cq,cH,fA,ga⟩
 refine aAI b4.rws (ht.mono hle) (λan=>aV MF an) λ_ aI ss bd Z a2 a3 u' ay=>?_
 refine bH he aI ss bd (wD Z a2 a3 (ls.drop bud.toNat)) u' ?_ ?_
 unfold ix gg
 rw[aG E9,aG E9,<-ail (anA bud.toNat),p6 ((tJ T.w).take bud.toNat),<-anA,<-p6]
 exact jW.weaken ay hle
 unfold jN
 rw[aG E9]
 exact azH (br bud.toNat)
def aAJ{a b:bP}{K:o->H->Prop}(h:K (if bw a b=ak then -1 else 1) u):aef a.1 (cZ a.2) (c5 a.2) b.1 (cZ b.2) (c5 b.2) u K:=by apply aC8;refine KA ⟨λaa=>?_,λaa=>?_⟩;rw[a1 aa] at h;exact h;rw[aG (by rw[aa];simp)] at h;exact h
structure apk(B:H)(ck:N)(k:o)(w:nx)(q ord:M o)(bud x:N)(jr mz:U)(v:H):Prop where
 ex:∃v0,iZ B ck k v0 ((ord.take (min x bud)).map (za w q))/\aK v0 v 3 1 jr (((ord.take x).drop bud).flatMap encI)/\aK v0 v 3 1 mz ((ord.take (min x bud)).flatMap encI)/\dO jr mz
def alb{v0 v:H}{s:U}{l m:M o}{Y:o}(ag:aK v0 v 3 1 s (l.flatMap encI))(ht:aK v0 v 3 1 t (m.flatMap encI))(ac:dO s t)(ap:l.length<=1000000){K:U->H->Prop}
  (av:∀au b6,aK v0 b6 3 1 au ((l++ [Y]).flatMap encI)->aK v0 b6 3 1 t (m.flatMap encI)->dO au t->K au b6):
  c9 aH (dI 30 1 #[(0,.int .i64 Y)]) [.one .slice] v λs1 aU=>c9 aH (ee #[30,30] 30 #[.slice s.a s.n s.c,.slice s1.a s1.n s1.c]) [.one .slice] aU K:=by
 have ae:=ag.ints.len
 refine nV o4 (Aw Y) (by decide) rfl (by simp[cK]) ag (by omega) (by omega) λau b6 ab _ he eA _=>av au b6 ?_ (aK.else ht he (λg W=>ag.fresh g W) ac) λg W h2=>?_
 rw[gZ];exact ab
 rcases eA g W with e|e
 exact ac g e h2
 exact dL ht h2 e
def aAR{af:N->aA bx}{T:aS}{c:pN}{k bud:o}{K:U->U->U->o->H->Prop}(h:In aj u af b T)(aT:dU T)(kb:T.cd=some c)(ht:Ints u t q)
  (dq:hZ q T.aq k bud≠0->∀u',u.le u'->K ⟨none,0,0⟩ ⟨none,0,0⟩ ⟨none,0,0⟩ (hZ q T.aq k bud) u')
  (bH:hZ q T.aq k bud=0->∀aI ss bd rest u',jW u u' aI ss bd (ix T q k bud) (gg T q k bud) rest->rest.map cn.core=jN T q k bud->K aI ss bd 0 u'):aee (some ⟨b,0,none⟩) t k bud u K:=by
 have aJ:=h.aJ
 have cell:u b=some (.cells #[.int .i64 T.aq,.map (some T.m),.pointer c.ptr,.map (some c.hV)] 132 (0,0)):=by have:=aJ.cell;unfold aS.obj at this;rw[kb] at this;exact this
 have s5:=aJ.s5 c kb
 apply aC7
 refine⟨_,rfl,_,a8 cell 0,Kv ht ⟨λan=>dq an u (H.le.refl u),λhe Lc a7=>?_⟩⟩
 have bH:=bH he
 obtain⟨aB,cq,cH,fA,ga⟩:=w6.1 he
 obtain⟨_,_,d3,d4⟩:=oL aB
 have ae:=aJ.r8
 have pk:(c.sP.map (·.1)).Nodup:=by obtain⟨es,cl,_,he⟩:=s5.map;have:=he.nodup;rw[Rq] at this;exact this
 have gf:=aT.small
 have ly:∀dN,c.co=some dN->HK (Cc dN.eR q):=λdN hk=>aCo (aT.tY c dN kb hk) aB
 have main:∀(lE:U) (v:H),u.le v->(∀dN,c.co=some dN->yB v lE (Cc dN.eR q))->Lc lE v:=by
  intro lE v hle aaa;apply a7;refine⟨_,rfl,_,a8 (hle _ _ cell) 1,aAF (aJ.map.mono hle) (by simp[eb];omega) λqh gK qL=>?_⟩;rw[Rq] at qL;obtain⟨ids,kv⟩:∃ids,ids=dS (T.w.map (·.1)):=⟨_,rfl⟩;rw[<-kv] at qL;have eU:ids.length=T.w.length:=by rw[kv,z6,dj]
  have agK:=qL.ints.len;have aiu:=hle.trans qL.le;refine⟨λq3 x w=>0<=x/\x<=qh.n/\aK gK w 68 3 q3 (((ids.take x.toNat).map λid=>((id,AF T.cd q id):bP)).flatMap fX),λ_ x _=>qh.n-x.toNat,⟨by omega,by omega,aK.nil (H.le.refl gK) _ _⟩,?_⟩;rintro q3 x w ⟨bK,dw,ab⟩;have hw:=aiu.trans ab.le;have EY:q3.n=(ids.take x.toNat).length:=by have:=ab.fq.len;rw[dj] at this;exact this
  rw[gq] at EY;refine⟨λJ=>?_,λfO=>?_⟩
  .obtain⟨p,ad,bM⟩:=(qL.ints.mono ab.le).at bK J;have fh:x.toNat<ids.length:=by omega
   have S2:ids[x.toNat]?=some ids[x.toNat]:=cy fh;have ar:ids.getD x.toNat 0=ids[x.toNat]:=by rw[dm,S2];rfl
   rw[ar] at bM;have one:∀(a cT:o),a=cZ (AF T.cd q ids[x.toNat])->cT=c5 (AF T.cd q ids[x.toNat])->∀{gw:U->H->Prop},(∀au w',bh (x+1)->(0<=x+1/\x+1<=qh.n/\aK gK w' 68 3 au (((ids.take (x+1).toNat).map λid=>((id,AF T.cd q id):bP)).flatMap fX))->(qh.n-(x+1).toNat:N)<qh.n-x.toNat->gw au w')->
     c9 aH (dI 38 1 #[(0,.agg #[.int .i64 ids[x.toNat],.int .u64 a,.int .u64 cT])]) [.one .slice] w λs1 aU=>c9 aH (ee #[38,38] 38 #[.slice q3.a q3.n q3.c,.slice s1.a s1.n s1.c]) [.one .slice] aU gw:=by
    intro a cT ay R2 gw oi
    subst ay;subst R2
    refine nV ans (ap6 _ _ _) (by decide) rfl (by simp[cK]) ab (by show q3.n<_;omega) (by show(q3.n+1)*_<=_;omega) λau w' bQ _ _ _ _=>oi au w' ⟨by omega,by omega⟩ ⟨by omega,by omega,?_⟩ (by omega)
    rw[show(x+1).toNat=x.toNat+1 by omega,gJ,S2,er,gZ]
    exact bQ
   refine⟨p,ad,⟨bK,J⟩,_,bM,_,rfl,c.ptr,a8 (hw _ _ cell) 2,λan=>?_,λA5=>?_⟩;cases hk:c.co with
   |none=>exact aV (by simp[pN.ptr,hk]) an|some dN=>
    have Sf:AF T.cd q ids[x.toNat]=LS (Cc dN.eR q) (ve c.sP ids[x.toNat]):=by obtain⟨hV,sP,co⟩:=c;obtain rfl:co=some dN:=hk;rw[kb];rfl
    obtain⟨y,ai,cx⟩:∃y:U,(fD (eb c.sP) ids[x.toNat]).getD (.slice none 0 0)=aE.slice.enc y/\Ints w y (ve c.sP ids[x.toNat]):=by rcases tc c.sP ids[x.toNat] with⟨W,hm⟩|⟨e,he,cm,W⟩;exact⟨⟨none,0,0⟩,by rw[W];rfl,by rw[azP hm];exact Ints.nil w⟩;exact⟨e.2.1,by rw[W];rfl,by rw[<-cm,Pk pk he];exact(s5.vec e he).1.mono hw⟩
    refine⟨_,rfl,_,a8 (hw _ _ cell) 3,Ps je (s5.map.mono hw) (ct:=.slice) y ai ?_⟩;refine aAH ((aaa dN hk).mono (qL.le.trans ab.le)) cx (ly dN hk) λa cT e Ee adO Yo=>?_;obtain⟨gk,ew⟩:=Af Ee adO;rw[Yo,<-Sf] at gk ew;exact one a cT gk ew λau w' i1 i2 i3=>⟨i1,i2,i3⟩
   have Sf:AF T.cd q ids[x.toNat]=0:=by
     obtain⟨hV,sP,co⟩:=c;cases co with
     |none=>rw[kb];rfl|some dN=>simp[pN.ptr] at A5
   exact one 0 0 (by rw[Sf];rfl) (by rw[Sf];rfl) λau w' i1 i2 i3=>⟨i1,i2,i3⟩
  have fh:x.toNat=ids.length:=by have:¬x<(qh.n:o):=fO;omega
  rw[fh,oE] at ab;rw[fh] at EY;refine amQ (cf:=λa b=>if bw a b=ak then -1 else 1) (λa b=>by by_cases h:bw a b=ak<;>simp[h]) (enters_of func317 (by kernel_rfl) rfl)
   (λa b u'=>aAJ (K:=λfC cQ=>fC=(if bw a b=ak then -1 else 1)/\cQ=u') ⟨rfl,rfl⟩) ab (by rw[dj];omega) λhs Nr _=>?_
  obtain⟨ag,YV⟩:∃ag,ag=ng (ids.map λid=>((id,AF T.cd q id):bP)):=⟨_,rfl⟩;rw[<-YV] at Nr;obtain⟨ord,Nw⟩:∃ord,ord=qV T q:=⟨_,rfl⟩;have Nv:ord=ag.map (·.1):=by rw[Nw,YV,kv];rfl
  have xG:ord.length=q3.n:=by rw[Nv,dj,YV,PF,dj];omega
  have avP:ord.Perm (T.w.map (·.1)):=by rw[Nw];exact akV T q
  have ajv:=aiu.trans Nr.le;refine PM (λaa=>by omega) λ_ _ ck adM aHT vX p5=>?_;refine⟨λjr x acN mz acO w=>acN=⟨none,0,0⟩/\acO=⟨none,0,0⟩/\0<=x/\x<=q3.n/\apk hs ck k T.w q ord bud.toNat x.toNat jr mz w,λ_ x _ _ _ _=>q3.n-x.toNat,⟨rfl,rfl,by omega,by omega,adM,by simpa using p5,by simpa using aK.nil (H.le.refl adM) 3 1,by simpa using aK.nil (H.le.refl adM) 3 1,λg W=>by simp[U.al] at W⟩,?_⟩;rintro jr x acN mz acO w ⟨Xg,Xh,bK,dw,v0,j9,AL,Ie,p1⟩;change aK v0 w _ 1 jr _ at AL;change aK v0 w _ 1 mz _ at Ie;change dO jr mz at p1;have iy:=j9.le;have lw:=ajv.trans (iy.trans AL.le);refine⟨λJ=>?_,λfO=>?_⟩;obtain⟨p,ad,y,ai,bM,c1,c2⟩:=(Nr.fq.mono (iy.trans AL.le)).at bK J;have ajQ:ord[x.toNat]?=some y.1:=by rw[Nv,jq,ai];rfl
  have Bh:ord.take (x+1).toNat=ord.take x.toNat++ [y.1]:=by rw[show(x+1).toNat=x.toNat+1 by omega,gJ,ajQ];rfl
  have mj:y.1∈T.w.map (·.1):=avP.mem_iff.1 (dB ajQ);have fh:x.toNat<ord.length:=by omega
  refine⟨p,ad,⟨bK,J⟩,_,bM,_,c1,_,c2,λaa=>?_,λaa=>?_⟩;refine alb AL Ie p1 (by rw[mv,gq];omega) λau w' i1 i2 i3=>⟨⟨by omega,by omega⟩,⟨Xg,Xh,by omega,by omega,v0,?_,?_,?_,i3⟩,by dsimp only;omega⟩;rw[show min (x+1).toNat bud.toNat=min x.toNat bud.toNat by omega];exact j9;rw[Bh,ab6 (by rw[gq];omega)];exact i1;rw[show min (x+1).toNat bud.toNat=min x.toNat bud.toNat by omega];exact i2;obtain⟨e,ku,cm⟩:=bk.1 mj;obtain⟨Y,aC,W⟩:∃Y,fD (eb T.w) y.1=some (aE.slice.enc Y)/\Ints u Y (ve T.w y.1):=by rcases tc T.w y.1 with⟨_,hm⟩|⟨e,he,cm,W⟩;exact aV mj hm;exact⟨e.2.1,W,by rw[<-cm,Pk ae he];exact(aJ.vec e he).1⟩
  have FT:ve T.w y.1=e.2.2:=by rw[<-cm];exact Pk ae ku
  obtain⟨v1,v2⟩:=aT.vec e ku;refine⟨_,rfl,_,a8 (lw _ _ cell) 1,Ps je (aJ.map.mono lw) (ct:=.slice) Y (by rw[aC];rfl) ?_⟩;refine B6 (W.mono lw) (ht.mono lw) (by rw[FT];exact v2) (by rw[FT];have:=aT.hB;omega) d4 (by rw[FT];omega) λa cT Ee adO Yo=>?_;obtain⟨gk,ew⟩:=Af Ee adO;rw[Yo] at gk ew;rw[gk,ew];have I:Ai (some ⟨ck,0,none⟩) (za T.w q y.1).1 (cZ (za T.w q y.1).2) (c5 (za T.w q y.1).2) v0 λ_ b6=>iZ hs ck k b6 (za T.w q y.1::(ord.take (min x.toNat bud.toNat)).map (za T.w q)):=PL j9 cq cH λ_ _ b5=>b5;refine I.frame AL.le ?_;rintro _ ji w' ac te;have Ry:=aK.H7 AL ac;have Rz:=aK.H7 Ie ac;have aQ:min x.toNat bud.toNat=x.toNat:=by omega
  have aF:min (x+1).toNat bud.toNat=(x+1).toNat:=by omega
  refine alb Rz Ry p1.symm (by rw[gq];omega) λau ew i1 i2 i3=>⟨⟨by omega,by omega⟩,⟨Xg,Xh,by omega,by omega,ji,?_,?_,?_,i3.symm⟩,by dsimp only;omega⟩;rw[aF,Bh,er];rw[aQ] at te;exact te.perm (nc _ _).symm;have d1:(ord.take (x+1).toNat).drop bud.toNat=[]:=sC (by rw[gq];omega);have d2:(ord.take x.toNat).drop bud.toNat=[]:=sC (by rw[gq];omega);rw[d1];rw[d2] at i2;exact i2;rw[aF,Bh];rw[aQ] at i1;exact i1;have fh:x.toNat=ord.length:=by have:¬x<(q3.n:o):=fO;omega
  obtain⟨S,bg⟩:∃S,S=ord.take bud.toNat:=⟨_,rfl⟩;obtain⟨R,b4⟩:∃R,R=ord.drop bud.toNat:=⟨_,rfl⟩;have ark:ord.take (min x.toNat bud.toNat)=S:=by rw[bg,fh];rcases Nat.le_total ord.length bud.toNat with b5|b5;rw[BR b5,oE,gY b5];rw[Nat.min_eq_right b5]
  have arj:(ord.take x.toNat).drop bud.toNat=R:=by rw[fh,oE,b4]
  rw[ark] at j9 Ie;rw[arj] at AL;have uj:S.length<=ord.length:=by rw[bg,gq];omega
  have Iq:R.length<=ord.length:=by rw[b4,mv];omega
  have E9:T.cd.isSome=ak:=by rw[kb];rfl
  have aw4:ix T q k bud=e6 k.toNat (S.map (za T.w q)):=by unfold ix;rw[a1 E9,<-Nw,<-bg]
  have aw6:gg T q k bud=dS S:=by unfold gg;rw[a1 E9,<-Nw,<-bg]
  have aw5:jN T q k bud=if R=[] then[] else[(1,0,[],[],dS R)]:=by unfold jN;rw[a1 E9,<-Nw,<-b4]
  rw[aw4,aw6,aw5] at bH;have RH:=AL.ints.len;refine He Ie (by omega) λanL xE auf=>?_;have Ry:aK v0 anL 3 1 jr (R.flatMap encI):=aK.else AL auf (λg W=>Ie.fresh g W) p1.symm;intro Wu CZ;have P2:=ajv.trans iy;have Oy:∀(x:U),dO x ⟨none,0,0⟩:=λx g _ W=>by simp[U.al] at W
  have yQ:∀(x:U),dO ⟨none,0,0⟩ x:=λx g W=>by simp[U.al] at W
  have last:∀(bd:U) (rest:M cn) (v:H),iZ hs ck k v (S.map (za T.w q))->aK v0 v 3 1 mz ((dS S).flatMap encI)->aK u v 102 6 bd (rest.flatMap uf)->(∀r∈rest,yz u v r)->(rj ⟨none,0,0⟩ mz bd rest).Pairwise dO->rest.map cn.core=(if R=[] then[] else[(1,0,[],[],dS R)])->Wu ⟨none,0,0⟩ mz bd v:=by intro bd rest v i1 i2 i3 i4 i5 i6;refine CZ ⟨none,0,0⟩ mz bd v (Kz i1 λau u' bQ=>bH au mz bd rest u' ⟨bQ.weaken (P2.trans i2.le),(i2.weaken P2).mono bQ.le,i3.mono bQ.le,λr O=>⟨(i4 r O).l.mono bQ.le,(i4 r O).h.mono bQ.le,(i4 r O).i.mono bQ.le⟩,?_⟩ i6);refine k9.2 ⟨λy ai=>?_,(k9.1 i5).2⟩;have kn:∀{e dN:N} {xs:M ao} {aU:H},aK aU v e dN y xs->dO au y:=λb5 g h1 h2=>dL b5 h2 (bQ.fresh g h1);rcases cP.1 ai with rfl|ai;exact kn i2;rcases cP.1 ai with rfl|ai;exact kn i3;obtain⟨r,O,ai⟩:=ep.1 ai;simp only[cn.jE,cP,qe,qf] at ai;rcases ai with rfl|rfl|rfl;exact kn (i4 r O).l;exact kn (i4 r O).h;exact kn (i4 r O).i
  have auo:dO mz jr:=p1.symm;obtain rfl:acN=⟨none,0,0⟩:=Xg;obtain rfl:acO=⟨none,0,0⟩:=Xh;refine⟨λoT=>?_,λrF=>?_⟩;have Ya:R≠[]:=λe=>by rw[e] at RH;simp at RH;omega
  refine He Ry (by omega) λKG xF aug=>?_;have Rz:aK v0 KG 3 1 mz ((dS S).flatMap encI):=aK.else xE aug (λg W=>Ry.fresh g W) p1;refine mA (eE.afu jr) λj8 mh=>?_;obtain⟨Y,aC⟩:∃Y,Y=KG.ins j8 (.cells [cJ .i64 1,.slice none 0 0,.slice none 0 0,.int .u64 0,.int .u64 0,.slice jr.a jr.n jr.c].toArray 102 (0,0)):=⟨_,rfl⟩;have DA:KG.le Y:=by rw[aC];exact bZ _ mh
  have aiJ:=aK.make (k:=6) (H.le.refl KG) mh (cells:=[cJ .i64 1,.slice none 0 0,.slice none 0 0,.int .u64 0,.int .u64 0,.slice jr.a jr.n jr.c].toArray) (e:=102) (n:=1) (by omega) (by simp);rw[<-aC] at aiJ ⊢;have F4:u.le KG:=P2.trans xF.le;have IC:∀{e dN:N} {y:U} {xs:M ao} {aU:H},aK aU KG e dN y xs->dO y ⟨some ⟨j8,0,none⟩,1,1⟩:=λb5 g h1 h2=>by
   have:j8=g:=by simpa[U.al] using h2
   exact dL b5 h1 (by rw[<-this];exact mh)
  refine last ⟨some ⟨j8,0,none⟩,1,1⟩ [eE.EC jr (dS R)] Y (j9.mono (xF.le.trans DA)) (Rz.mono DA) ?_ (λr O=>?_) ?_ ?_;have aQ:([eE.EC jr (dS R)]:M cn).flatMap uf=[cJ .i64 1,.slice none 0 0,.slice none 0 0,.int .u64 0,.int .u64 0,.slice jr.a jr.n jr.c]:=by simp[uf,eE.EC,YW,abi]
  rw[aQ];exact aiJ.weaken F4;rw[gp.1 O];exact⟨aK.nil (F4.trans DA) _ _,aK.nil (F4.trans DA) _ _,(xF.weaken P2).mono DA⟩;show([⟨none,0,0⟩,mz,⟨some ⟨j8,0,none⟩,1,1⟩,⟨none,0,0⟩,⟨none,0,0⟩,jr]:M U).Pairwise dO;simp only[k9,cP,qe,qf,J5,O8,oZ,r5,Uf,Ug];exact⟨⟨yQ _,yQ _,yQ _,yQ _,yQ _⟩,⟨IC Rz,Oy _,Oy _,auo⟩,⟨Oy _,Oy _,(IC xF).symm⟩,⟨yQ _,yQ _⟩,yQ _⟩;rw[aG Ya];rfl;have X9:R=[]:=by
    have:jr.n=0:=by omega
    rw[this] at RH;exact kS RH.symm
  refine last ⟨none,0,0⟩ [] anL (j9.mono xE.le) xE (aK.nil (P2.trans xE.le) _ _) (λr O=>(by cases O)) ?_ (by rw[a1 X9];rfl);show([⟨none,0,0⟩,mz,⟨none,0,0⟩]:M U).Pairwise dO;simp only[k9,cP,qe,qf,J5,O8,oZ,r5,Uf,Ug];exact⟨⟨yQ _,yQ _⟩,Oy _⟩
 refine⟨_,rfl,_,a8 cell 2,λan=>⟨_,rfl,_,a8 cell 2,?_⟩,λA5=>main ⟨none,0,0⟩ u (H.le.refl u) λdN hk=>?_⟩
 cases hk:c.co with
 |none=>exact aV (by simp[pN.ptr,hk]) an
 |some dN=>rw[show c.ptr=some ⟨dN.b,0,none⟩ by simp[pN.ptr,hk]];refine aAK (s5.co dN hk) (aT.tY c dN kb hk) ht aB λs u' hle aaa=>main s u' hle λdV dJ=>?_;rw[hk] at dJ;obtain rfl:=cX dJ;exact aaa
 simp[pN.ptr,hk] at A5
end
end hc
section
variable{u aj u':H}{D:N->Prop}{b:N}{q:M o}{t:U}{X:cF}{L:M az}{k bud:o}{K:aD->o->H->Prop}
def cF.Q2:cF->M o->o->o->M bP
 | .ow X=>kW.ix X| .aZ X=>lS.ix X| .nM X=>jH.ix X| .ae X=>eE.ix X| .c3 X=>hc.ix X
def cF.rj:cF->M o->o->o->M o
 | .ow X=>kW.gg X| .aZ X=>lS.gg X| .nM X=>jH.gg X| .ae X=>λq _ bud=>eE.gg X q bud| .c3 X=>hc.gg X
def cF.WD:cF->M o->o->o->M (o×o×M o×M o×M o)
 | .ow X=>kW.jN X| .aZ X=>lS.jN X| .nM X=>jH.jN X| .ae X=>λq _ bud=>eE.jN X q bud| .c3 X=>hc.jN X
def cF.ids(h:X.dD aj u D b):(X.rows.map (·.1)).Nodup:=by
 cases X with
 |ow X=>obtain⟨af,h1,h2,h3⟩:=fa.ex h;exact h2.aJ.r8
 |aZ X=>obtain⟨af,h1,h2,h3⟩:=fa.ex h;exact h2.aJ.r8
 |nM X=>obtain⟨af,h1,h2,h3⟩:=fa.ex h;rw[show(cF.nM X).rows=jH.a6 X from rfl,jH.aaQ];exact h3.nodup
 |ae X=>obtain⟨af,h1,h2,h3⟩:=fa.ex h;rw[show(cF.ae X).rows=eE.fg X.g from rfl,eE.tI];exact(eE.Gw h2).aJ.nodup
 |c3 X=>obtain⟨af,h1,h2,h3⟩:=fa.ex h;rw[show(cF.c3 X).rows=hc.a6 X from rfl,hc.nN];exact h2.aJ.r8
def cF.Um(h:X.dD aj u D b)(ac:X.rows.length<=512)(ad:(L.map az.bL).Perm X.rows):hp L X.aq:=by
 have ae:=ad.length_eq;rw[dj] at ae;have ar:(L.map (·.id)).Nodup:=by rw[p6,(ad.map (·.1)).nodup_iff];exact cF.ids h
 have fin:(1<=X.aq/\X.aq<=64)->(∀p∈X.rows,1<=p.1/\p.1<=1000000000/\(p.2.length:o)=X.aq/\c8 p.2)->hp L X.aq:=λh1 h2=>D1 h1 (by omega) ar λp hm=>h2 p (ad.mem_iff.1 hm);cases X with
 |ow X=>obtain⟨af,h1,h2,h3⟩:=fa.ex h;exact fin h3.hB λp hm=>by obtain⟨e,he,rfl⟩:=bk.1 hm;exact⟨(h3.ids e he).1,(h3.ids e he).2,h3.vec e he⟩
 |aZ X=>obtain⟨af,h1,h2,h3⟩:=fa.ex h;exact fin h3.hB λp hm=>by obtain⟨e,he,rfl⟩:=bk.1 hm;exact⟨(h3.ids e he).1,(h3.ids e he).2,h3.vec e he⟩
 |nM X=>obtain⟨af,h1,h2,h3⟩:=fa.ex h;exact fin h3.hB λp hm=>by obtain⟨r,O,rfl⟩:=bk.1 hm;obtain⟨l,ap,dz⟩:=ep.1 O;exact⟨(h3.ids l ap r dz).1,(h3.ids l ap r dz).2,h3.vec l ap r dz⟩
 |ae X=>obtain⟨af,h1,h2,h3⟩:=fa.ex h;exact fin h3.k.ok.hB λp hm=>by obtain⟨e,he,rfl⟩:=bk.1 hm;exact⟨(h3.k.ok.ids e he).1,(h3.k.ok.ids e he).2,h3.k.ok.vec e he⟩
 |c3 X=>obtain⟨af,h1,h2,h3⟩:=fa.ex h;exact fin h3.hB λp hm=>by obtain⟨e,he,rfl⟩:=bk.1 hm;exact⟨(h3.ids e he).1,(h3.ids e he).2,h3.vec e he⟩
def cF.sound(h:X.dD aj u D b)(he:hZ q X.aq k bud=0)(c6:(L.map az.bL).Perm X.rows)(aL:jt L q){rest:M cn}(O:rest.map cn.core=X.WD q k bud):
  Sound L q k (X.Q2 q k bud) (X.rj q k bud) rest/\((X.rj q k bud).length:o)<=bud/\(((X.rj q k bud).length:o)=bud∨(X.rj q k bud).length=L.length∨qw q k (X.Q2 q k bud) rest):=by
 obtain⟨aB,cq,_,fA,_⟩:=w6.1 he
 have ar:=(oL aB).2.2.1
 cases X with
 |ow X=>obtain⟨af,h1,h2,h3⟩:=fa.ex h;exact kW.PR h3 cq fA ar c6 aL O
 |aZ X=>obtain⟨af,h1,h2,h3⟩:=fa.ex h;exact lS.PR h3 cq fA ar c6 aL O
 |nM X=>obtain⟨af,h1,h2,h3⟩:=fa.ex h;exact jH.PR h3 cq fA ar c6 aL O
 |ae X=>obtain⟨af,h1,h2,h3⟩:=fa.ex h;obtain⟨s1,s2,nS⟩:=eE.aj8 (D:=D) (b:=b) ⟨af,h1,eE.Gw h2,h3⟩ he c6 aL O;exact⟨s1,s2,nS.imp id .inl⟩
 |c3 X=>obtain⟨af,h1,h2,h3⟩:=fa.ex h;obtain⟨s1,s2,nS⟩:=hc.sound h2.aJ.r8 fA c6 aL O;exact⟨s1,s2,nS.imp id .inl⟩
def cF.Hc{K:U->U->U->o->H->Prop}(h:X.dD aj u D b)(kc:X.e4<=2700)(ht:Ints u t q)
  (dq:hZ q X.aq k bud≠0->∀u',u.le u'->K ⟨none,0,0⟩ ⟨none,0,0⟩ ⟨none,0,0⟩ (hZ q X.aq k bud) u')
  (bH:hZ q X.aq k bud=0->∀aI ss bd rest u',jW u u' aI ss bd (X.Q2 q k bud) (X.rj q k bud) rest->rest.map cn.core=X.WD q k bud->K aI ss bd 0 u'):
  nn aH (X.iface b) "Search" #[.slice t.a t.n t.c,.int .i64 k,.int .i64 bud] [.agg [.slice,.slice,.slice],.one (.int .i64)] u K:=by
 cases X with
 |ow X=>obtain⟨af,h1,h2,h3⟩:=fa.ex h;exact lj (f:=255) (by kernel_rfl) PY (by kernel_rfl) (kW.Hc h2 h3 kc ht (λan=>dq an u (H.le.refl u)) bH)
 |aZ X=>obtain⟨af,h1,h2,h3⟩:=fa.ex h;exact lj (f:=275) (by kernel_rfl) P0 (by kernel_rfl) (lS.Hc h2 h3 kc ht (λan=>dq an u (H.le.refl u)) bH)
 |nM X=>obtain⟨af,h1,h2,h3⟩:=fa.ex h;exact lj (f:=283) (by kernel_rfl) PX (by kernel_rfl) (jH.Hc h2 h3 ht (λan=>dq an u (H.le.refl u)) bH)
 |ae X=>obtain⟨af,h1,h2,h3⟩:=fa.ex h;exact lj (f:=291) (by kernel_rfl) PW (by kernel_rfl) (eE.amD (eE.Gw h2) h3 ht dq λhe aI ss bd j4 u' ay=>bH he aI ss bd _ u' ay (eE.alH j4 X q bud))
 |c3 X=>
  obtain⟨af,h1,h2,h3⟩:=fa.ex h;cases e:X.cd with
  |none=>rw[cF.Ji e];exact lj (f:=309) (by kernel_rfl) PZ (by kernel_rfl) (hc.aBz h2 h3 e ht dq bH)|some c=>rw[cF.Jh e];exact lj (f:=312) (by kernel_rfl) anU (by kernel_rfl) (hc.aAR h2 h3 e ht dq bH)
def aS.aq(X:aS):o:=X.X.aq
def aS.b9(_:aS):o:=0
def a6(X:aS):M Ao:=X.X.rows
def ix(X:aS)(q:M o)(k bud:o):M bP:=X.X.Q2 q k bud
def gg(X:aS)(q:M o)(k bud:o):M o:=X.X.rj q k bud
def jN(X:aS)(q:M o)(k bud:o):M (o×o×M o×M o×M o):=X.X.WD q k bud
abbrev jy(l:M az)(aq A B E F:o):o:=yG l aq A B E F
def mX(X:aS):N:=X.X.e4
abbrev kG(u:H):Prop:=eE.kG u
def kG.mono(h:kG u)(hu:u.le u'):kG u':=eE.kG.mono h hu
def dD.base{X:aS}(h:dD aj u D b X):aj.le u/\(∀c,D c->aj c=none)/\∀c,D c->u c≠none:=by obtain⟨km,h1,_,h3,a7,bO⟩:=h.ex;obtain⟨cq,cH,kP⟩:=cF.base bO;refine⟨cq,λc I=>?_,λc I=>?_⟩;rcases(h1 c).1 I with rfl|I;exact h3;exact cH c I;rcases(h1 c).1 I with rfl|I;rw[a7];simp;exact kP c I
def dD.same{X:aS}(h:dD aj u D b X)(hu:∀c z,u c=some z->D c->u' c=some z)(hle:aj.le u'):dD aj u' D b X:=by obtain⟨km,h1,h2,h3,a7,bO⟩:=h.ex;exact⟨km,h1,h2,h3,hu _ _ a7 ((h1 b).2 (.inl rfl)),cF.same bO (λc z I ar=>hu c z I ((h1 c).2 (.inr ar))) hle⟩
def dD.mono{X:aS}(h:dD aj u D b X)(hu:u.le u'):dD aj u' D b X:=h.same (λc z I _=>hu c z I) (h.base.1.trans hu)
def dD.nf{v:H}{X:aS}(h:dD aj u D b X)(aB:v.le aj):dD v u D b X:=by obtain⟨km,h1,h2,h3,a7,bO⟩:=h.ex;exact⟨km,h1,h2,aB.none h3,a7,cF.nf bO aB⟩
def dD.alL{X:aS}(h:dD aj u D b X):((a6 X).map (·.1)).Nodup:=by obtain⟨km,_,_,_,_,bO⟩:=h.ex;exact cF.ids bO
def dD.eX{qx km:N->Prop}{X:aS}{ny:cF}(h1:∀c,D c↔c=b∨km c)(h2:¬km b)(h3:aj b=none)(a7:u b=some X.obj)(is:ny.dD aj u' qx X.dX)(t:ik u km u' qx)(ht:ny.fB=X.X.fB):
  dD aj u' (λc=>c=b∨qx c) b {X with X:=ny}/\ik u D u' λc=>c=b∨qx c:=by
 have aa:¬qx b:=λar=>by rcases t.grow b ar with h|h;exact h2 h;rw[a7] at h;cases h
 refine⟨⟨qx,λ_=>BJ,aa,h3,?_,is⟩,λc z I ar=>t.bS c z I λh=>ar ((h1 c).2 (.inr h)),λc I=>?_⟩
 rw[t.bS _ _ a7 h2]
 unfold aS.obj cF.iface
 simp only[ht]
 rcases I with rfl|I
 exact .inl ((h1 c).2 (.inl rfl))
 exact(t.grow c I).imp (λh=>(h1 c).2 (.inr h)) id
def adf{X:aS}{K:o->H->Prop}(h:dD aj u D b X)(av:K (a6 X).length u):Qf (some ⟨b,0,none⟩) u K:=by obtain⟨km,_,_,_,a7,bO⟩:=h.ex;apply aC1;exact⟨λe=>(by cases e),λ_=>⟨_,rfl,_,a8 a7 4,cF.B5 bO av⟩⟩
def UJ{X:aS}{K:U->H->Prop}(h:dD aj u D b X)(av:∀s ls u',sb u u' s ls->(ls.map az.bL).Perm (a6 X)->(ls.Pairwise λa b=>a.id<=b.id)->K s u'):KT (some ⟨b,0,none⟩) u K:=by obtain⟨km,_,_,_,a7,bO⟩:=h.ex;apply aC3;exact⟨λe=>(by cases e),λ_=>⟨_,rfl,_,a8 a7 4,cF.z7 bO av⟩⟩
def amJ{X:aS}{id:o}(h:dD aj u D b X)(kc:mX X<=2700)(hK:kG aj)(ht:Ints u t q)(fq:(∀g,t.al=some g->¬D g)∨Ints aj t q)
  (dq:fR id q X.aq (decide (id∈(a6 X).map (·.1))) (a6 X).length≠0->K ax (fR id q X.aq (decide (id∈(a6 X).map (·.1))) (a6 X).length) u)
  (bH:fR id q X.aq (decide (id∈(a6 X).map (·.1))) (a6 X).length=0->∀u' fy dE,dD aj u' fy b dE->ik u D u' fy->(a6 dE).Perm ((id,q)::(a6 X).filter λx=>x.1 !=id)->dE.aq=X.aq->dE.b9=X.b9->mX dE<=mX X+1->K (decide (id∉(a6 X).map (·.1))) 0 u'):
  Ek (some ⟨b,0,none⟩) id t u K:=by
 obtain⟨km,h1,h2,h3,a7,bO⟩:=h.ex
 apply aC2
 refine⟨λe=>(by cases e),λ_=>⟨_,rfl,_,a8 a7 4,cF.D8 bO kc hK ht (fq.imp (λh g W ar=>h g W ((h1 g).2 (.inr ar))) λh=>h) dq λhe u' fy ny i1 i2 i3 i4 i5 i6=>?_⟩⟩
 obtain⟨kO,aaR⟩:=dD.eX h1 h2 h3 a7 i1 i2 i5
 exact bH he u' _ _ kO aaR i3 i4 rfl i6
def adg{X:aS}{id:o}(h:dD aj u D b X)(kc:mX X<=2700)(hK:kG aj)(ht:Ints u t q)(fq:∀g,t.al=some g->¬D g)
  (dq:fR id q X.aq (decide (id∈(a6 X).map (·.1))) (a6 X).length≠0->K ax (fR id q X.aq (decide (id∈(a6 X).map (·.1))) (a6 X).length) u)
  (bH:fR id q X.aq (decide (id∈(a6 X).map (·.1))) (a6 X).length=0->∀u' fy dE,dD aj u' fy b dE->ik u D u' fy->(a6 dE).Perm ((id,q)::(a6 X).filter λx=>x.1 !=id)->dE.aq=X.aq->dE.b9=X.b9->mX dE<=mX X+1->K (decide (id∉(a6 X).map (·.1))) 0 u'):
  Ek (some ⟨b,0,none⟩) id t u K:=amJ h kc hK ht (.inl fq) dq bH
def amK{X:aS}{id:o}(h:dD aj u D b X)(kc:mX X<=2700)(hK:kG aj)(ht:Ints aj t q)
  (dq:fR id q X.aq (decide (id∈(a6 X).map (·.1))) (a6 X).length≠0->K ax (fR id q X.aq (decide (id∈(a6 X).map (·.1))) (a6 X).length) u)
  (bH:fR id q X.aq (decide (id∈(a6 X).map (·.1))) (a6 X).length=0->∀u' fy dE,dD aj u' fy b dE->ik u D u' fy->(a6 dE).Perm ((id,q)::(a6 X).filter λx=>x.1 !=id)->dE.aq=X.aq->dE.b9=X.b9->mX dE<=mX X+1->K (decide (id∉(a6 X).map (·.1))) 0 u'):
  Ek (some ⟨b,0,none⟩) id t u K:=amJ h kc hK (ht.mono h.base.1) (.inr ht) dq bH
def ade{X:aS}{id:o}(h:dD aj u D b X)(kc:mX X<=2700)(eg:id∉(a6 X).map (·.1)->∀u',u.le u'->K ax 0 u')
  (ky:id∈(a6 X).map (·.1)->∀u' fy dE,dD aj u' fy b dE->ik u D u' fy->a6 dE=(a6 X).filter (λx=>x.1 !=id)->dE.aq=X.aq->dE.b9=X.b9->mX dE<=mX X->K ak 0 u'):Qe (some ⟨b,0,none⟩) id u K:=by
 obtain⟨km,h1,h2,h3,a7,bO⟩:=h.ex
 apply aC0
 refine⟨λe=>(by cases e),λ_=>⟨_,rfl,_,a8 a7 4,cF.wH bO kc eg λhm u' fy ny i1 i2 i3 i4 i5 i6=>?_⟩⟩
 obtain⟨kO,aaR⟩:=dD.eX h1 h2 h3 a7 i1 i2 i5
 exact ky hm u' _ _ kO aaR i3 i4 rfl i6
def UK{X:aS}{K:U->U->U->o->H->Prop}(h:dD aj u D b X)(kc:mX X<=2700)(ht:Ints u t q)
  (dq:hZ q X.aq k bud≠0->∀u',u.le u'->K ⟨none,0,0⟩ ⟨none,0,0⟩ ⟨none,0,0⟩ (hZ q X.aq k bud) u')
  (bH:hZ q X.aq k bud=0->∀aI ss bd rest u',jW u u' aI ss bd (ix X q k bud) (gg X q k bud) rest->rest.map cn.core=jN X q k bud->K aI ss bd 0 u'):KU (some ⟨b,0,none⟩) t k bud u K:=by
 obtain⟨km,_,_,_,a7,bO⟩:=h.ex
 apply aC4
 exact⟨λe=>(by cases e),λ_=>⟨_,rfl,_,a8 a7 4,cF.Hc bO kc ht dq bH⟩⟩
def UI{s:U}{l:M az}{aq A B E F e3:o}{K:aA bc->o->H->Prop}(ag:eF u s l)(hK:kG u)(Mp:cz e3)
  (dq:jy l aq A B E F≠0->K none (jy l aq A B E F) u) (bH:jy l aq A B E F=0->∀b D X u',dD u u' D b X->(a6 X).Perm (l.map az.bL)->X.aq=aq->(X.k=A/\X.s=B/\X.p=E/\X.c=F)->mX X=0->K (some ⟨b,0,none⟩) 0 u'):K2 s aq A B E F e3 u K:=by
 refine hx.weaken (ss:=[.one .ptr,.one (.int .i64)]) ?_
 apply aE4
 exact aAN ag hK Mp (λan _ l=>⟨u,l,dq an⟩) λhe b D X u' ll O ar h1 h2 h3 a7 W=>⟨u',H.le.refl u',bH he b D X u' ll O ar ⟨h1,h2,h3,a7⟩ W⟩
def Tc{X:aS}(h:dD aj u D b X)(he:hZ q X.aq k bud=0)(c6:(L.map az.bL).Perm (a6 X))(aL:jt L q){rest:M cn}(O:rest.map cn.core=jN X q k bud):
  Sound L q k (ix X q k bud) (gg X q k bud) rest/\((gg X q k bud).length:o)<=bud/\(((gg X q k bud).length:o)=bud∨(gg X q k bud).length=L.length∨qw q k (ix X q k bud) rest):=by
 obtain⟨km,_,_,_,_,bO⟩:=h.ex
 exact cF.sound bO he c6 aL O
def Oe{X:aS}(h:dD aj u D b X)(ac:(a6 X).length<=512)(ad:(L.map az.bL).Perm (a6 X)):hp L X.aq:=by obtain⟨km,_,_,_,_,bO⟩:=h.ex;exact cF.Um bO ac ad
def axj{l:M az}{d A B E F:o}(h:jy l d A B E F=0):hp l d:=by unfold jy yG at h;by_cases h1:yk A B E F≠0;rw[a1 h1] at h;exact aV h h1;rw[aG h1] at h;by_cases h2:o2 l d≠0;rw[a1 h2] at h;exact aV h h2;exact B0.1 (by simpa using h2)
end
