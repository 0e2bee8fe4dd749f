/- Texts of mine, joined and packed by pack.py. -/
import Derived.Test.YtejdhbfjjgcljaaGreatDoorMrc13
set_option linter.all false
open _root_ renaming Nat->N,List->J,Option->ay,Array->cu,Int->o,Bool->aI,False->ej,absurd->a6
open Go renaming Value->ao,World->b6,TypeId->dC,FuncId->ju,Addr->ba
open Bool renaming true->ak,false->ax
open Go.Obj renaming cells->bA
open Go.IntKind renaming wrap->cw
open Go.Made renaming depth->uz
open Go.Instr renaming buildSlice->dA
open Go.Builtin renaming append_->dW
open Go.Addr renaming add->ep,mk->cr
open List renaming range->ox,length->hR
open Go.Proofs.Tryz renaming prog->aH
open Go.Value renaming int->cG,slice->dX,oneCell'->cF
open Int renaming tmod->nh
open List.Perm renaming cons->iL
open List.Pairwise renaming nil->mE
open Prod renaming fst->pd,snd->pR
set_option maxRecDepth 100000
noncomputable section
namespace Go.Proofs.YtejdhbfjjgcljaaGreatDoor
open H
open _root_.Go.Proofs.Tryz
namespace gO
section
variable{u:H}{s:U}{c r:o}
def an9:hl aH 106=ak:=by kernel_rfl
def aAI:j9 aH 189=some (133,1,24,[.slice none 0 0]):=by kernel_rfl
def aoA(s:U):kp aH 189 1 #[(0,.slice s.a s.n s.c)]=some (133,[.slice s.a s.n s.c]):=by kernel_rfl
structure Ka(u:H)(n0 b3 eN mz e9:N)(s:U)(p c r Gz:o):Prop where
 bK:u.cell? ⟨n0,0,none⟩=some (.slice s.a s.n s.c)
 c1:u.cell? ⟨b3,0,none⟩=some (.int .i64 p)
 c2:u.cell? ⟨eN,0,none⟩=some (.int .i64 c)
 fM:u.cell? ⟨mz,0,none⟩=some (.int .i64 r)
 tw:u.cell? ⟨e9,0,none⟩=some (.int .u64 Gz)
def Ka.mono{u':H}{n0 b3 eN mz e9:N}{p Gz:o}(h:Ka u n0 b3 eN mz e9 s p c r Gz)(k:u.le u'):Ka u' n0 b3 eN mz e9 s p c r Gz:=
 ⟨H.le.cell k h.bK,H.le.cell k h.c1,H.le.cell k h.c2,H.le.cell k h.fM,H.le.cell k h.tw⟩
def ay4{n0 b3 eN mz e9:N}{L:J (U×J o)}{p n:N}{Gz i:o}{K:U->H->Prop}(b4:Ka u n0 b3 eN mz e9 s p c r Gz)(h:mh u s L)(aA:∀x∈L,x.2.length=p*n/\db x.2)(ad:1<=p)(ae:1<=n/\n<=64)(sM:L.length<=512)
  (I:1<=c/\c<=16) (hv:c<=L.length) (O:0<=r/\r<=20) (i0:0<=i) (i1:i<p) (aq:∀ap u' cs,fL u u' ap cs->wq cs n->K ap u'):adm i ⟨n0,0,none⟩ ⟨b3,0,none⟩ ⟨eN,0,none⟩ ⟨mz,0,none⟩ ⟨e9,0,none⟩ u K:=by
 have dw:=h.len
 apply aCX
 refine⟨s,b4.bK,λnk x w=>0<=x/\x<=s.n/\∃D:J (U×J o),D.map (·.2)=(L.take x.toNat).map (λy=>s4 y.2 n i.toNat)/\aD u w 30 1 nk (D.flatMap λc=>encS c.1)/\∀y∈D,Ints u y.1 y.2,λ_ x _=>s.n-x.toNat,⟨by omega,by omega,[],by simp,aD.nil (H.le.refl u) _ _,λy ah=>(by cases ah)⟩,?_⟩
 rintro nk x w ⟨bG,dy,D,eM,ab,cA⟩
 have Q2:D.length=x.toNat:=by have:=dV hR eM;simp at this;omega
 have aFe:nk.n=D.length:=gY u5 (by decide) ab.own.cC
 refine⟨λM=>?_,λgr=>?_⟩
 obtain⟨q,aO,y,aiy,Sh,Eb,_⟩:=(h.mono ab.le).at bG M
 obtain⟨v1,v2⟩:=aA y Sh
 refine⟨q,aO,⟨bG,M⟩,y.1,Eb,_,H.le.cell ab.le b4.c1,?_⟩
 have aix:=h.ints y Sh
 refine abX (aix.mono ab.le) v1 ad ae.1 (by have:=v2.1;omega) i0 i1 λt ht=>?_
 refine np TZ (jm.Qj t) (by decide) rfl (by simp[cF]) ab (by show nk.n<_;omega) (by show(nk.n+1)*_<=_;omega) λap u' bQ hJ _ _ _=>⟨⟨by omega,by omega⟩,⟨by omega,by omega,D++ [(t,s4 y.2 n i.toNat)],?_,?_,λY aB=>?_⟩,?_⟩
 rw[show(x+1).toNat=x.toNat+1 by omega,gT,aiy,dY,dY,eM]
 rfl
 rw[gU];exact bQ
 rcases cK.1 aB with aB|aB
 exact cA Y aB
 rw[fI.1 aB];exact ht u aix
 dsimp only;omega
 have eO:x.toNat=L.length:=by have:¬x<(s.n:o):=gr;omega
 rw[eO,ni] at eM
 have Cl:mh w nk D:=⟨ab.own.cC,λy ah=>(cA y ah).mono ab.le⟩
 have HH:∀y∈D.map (·.2),y.length=n/\db y:=λy ah=>by rw[eM] at ah;obtain⟨Y,aB,rfl⟩:=bk.1 ah;obtain⟨v1,v2⟩:=aA Y aB;exact⟨SI v1 (by omega),SJ v2 _ _⟩
 refine⟨_,H.le.cell ab.le b4.c2,_,H.le.cell ab.le b4.fM,_,H.le.cell ab.le b4.tw,?_⟩
 refine ali Cl (λy ah=>HH y.2 (bk.2 ⟨y,ah,rfl⟩)) ae (by omega) ⟨I.1,by omega⟩ (by omega) O λap u' cs dU he=>aq ap u' cs (dU.weaken ab.le) ?_
 obtain⟨abx,auA⟩:∃Y,Y=cw .u64 (Gz+cw .u64 i):=⟨_,rfl⟩
 rw[<-auA] at he
 have aC:jm.zQ abx c r n (D.map (·.2))=acn abx c.toNat r.toNat n (D.map (·.2)):=by unfold jm.zQ;rw[az λe=>?_,dg,az (by omega)];have:=dV hR e;rw[dg,nT] at this;omega
 obtain⟨g1,g2,g3⟩:=jm.aep (seed:=abx) (b:=r) HH ae (a:=c) ⟨I.1,by omega⟩
 rw[aC,<-he] at g1 g2 g3
 rw[dg] at g2 g3
 exact⟨by omega,⟨g2,g3⟩,λy ah=>by obtain⟨cx,cS⟩:=g1 y.2 (bk.2 ⟨y,ah,rfl⟩);exact⟨by omega,cS⟩⟩
structure DU(u u':H)(d:o)(k:tn):Prop where
 le:u.le u'
 new:u k.b=none
 cell:u' k.b=some (.cells #[.int .i64 d,.slice k.fS.a k.fS.n k.fS.c] 191 (0,0))
 own:aD u u' 133 1 k.fS (k.eK.flatMap λc=>encS c.1)
 each:∀c∈k.eK,fL u u' c.1 c.2
def aAr{n:N}{d:o}{a:U}{f:H->Prop}(h:u n=some (.cells #[.int .i64 d,.slice a.a a.n a.c] 191 (0,0)))(ac:f (u.ins n (.cells #[.int .i64 d,.slice s.a s.n s.c] 191 (0,0)))):H.aN u (ep (cr n 0 none) 1) [.slice s.a s.n s.c] f:=
 ⟨_,_,h,rfl,by simp[iC],by simp[cF],ac⟩
def azC{L:J (U×J o)}{d p seed:o}{K:ay ba->o->H->Prop}(h:mh u s L)(aA:∀x∈L,(x.2.length:o)=d/\db x.2)(aw:1<=d/\d<=64)(ad:1<=p/\p<=8)(MG:nh d p=0)
  (I:1<=c/\c<=16) (hv:c<=L.length) (sM:L.length<=512) (O:0<=r/\r<=20) (aq:∀u' k,DU u u' d k->DK d k.eK->K (some ⟨k.b,0,none⟩) 0 u'):UQ s d p c r seed u K:=by
 have dw:=h.len
 obtain⟨n,ae⟩:∃n:N,d=p*n:=by
  refine⟨(d/p).toNat,?_⟩;have h1:d%p=0:=by rw[<-ajQ (by omega)];exact MG
  have h2:=Int.mul_ediv_add_emod d p;have h3:0<=d/p:=Int.ediv_nonneg (by omega) (by omega);rw[tb h3];omega
 obtain⟨P,ew⟩:∃P:N,p=P:=⟨p.toNat,by omega⟩
 subst ew
 have gj:1<=n:=by rcases Oa n with e|e;rw[e] at ae;simp at ae;omega;exact e
 have atG:n<=64:=by
  have:1*n<=P*n:=r2 _ (by omega);have:((P*n:N):o)=d:=by rw[Gi];exact ae.symm
  omega
 have CL:∀x∈L,x.2.length=P*n/\db x.2:=λx M=>by obtain⟨v1,v2⟩:=aA x M;rw[ae,<-Gi] at v1;exact⟨by omega,v2⟩
 apply aCW
 intro n0 h0 b3 h1 eN h2 mz h3 e9 a7 BL bE
 obtain⟨fG,jU⟩:∃fG,fG=(bA #[dX s.a s.n s.c] 133 (0,0)):=⟨_,rfl⟩
 obtain⟨eJ,kf⟩:∃eJ,eJ=(bA #[cG .i64 (P:o)] 3 (0,0)):=⟨_,rfl⟩
 obtain⟨hE,dz⟩:∃hE,hE=(bA #[cG .i64 c] 3 (0,0)):=⟨_,rfl⟩
 obtain⟨yZ,kv⟩:∃yZ,yZ=(bA #[cG .i64 r] 3 (0,0)):=⟨_,rfl⟩
 obtain⟨y0,Ys⟩:∃y0,y0=(bA #[cG .u64 seed] 26 (0,0)):=⟨_,rfl⟩
 rw[<-jU] at h1 h2 h3 a7 ⊢
 rw[<-kf] at h2 h3 a7 ⊢
 rw[<-dz] at h3 a7 ⊢
 rw[<-kv] at a7 ⊢
 rw[<-Ys]
 obtain⟨ub,b9⟩:∃ub,ub=((((u.ins n0 fG).ins b3 eJ).ins eN hE).ins mz yZ).ins e9 y0:=⟨_,rfl⟩
 rw[<-b9]
 have jH:=bW (u:=u) (b:=n0) fG h0
 have eZ:=bW (b:=b3) eJ h1
 have fZ:=bW (b:=eN) hE h2
 have uj:=bW (b:=mz) yZ h3
 have nO:=bW (b:=e9) y0 a7
 rw[<-b9] at nO
 have lub:u.le ub:=(((jH.trans eZ).trans fZ).trans uj).trans nO
 have b4:Ka ub n0 b3 eN mz e9 s P c r seed:=by refine⟨H.le.cell (((eZ.trans fZ).trans uj).trans nO) ?_,H.le.cell ((fZ.trans uj).trans nO) ?_,H.le.cell (uj.trans nO) ?_,H.le.cell nO ?_,?_⟩;have:=bf u n0 fG;rw[jU] at this ⊢;exact a1 this 0;have:=bf (u.ins n0 fG) b3 eJ;rw[kf] at this ⊢;exact a1 this 0;have:=bf ((u.ins n0 fG).ins b3 eJ) eN hE;rw[dz] at this ⊢;exact a1 this 0;have:=bf (((u.ins n0 fG).ins b3 eJ).ins eN hE) mz yZ;rw[kv] at this ⊢;exact a1 this 0;have:=bf ((((u.ins n0 fG).ins b3 eJ).ins eN hE).ins mz yZ) e9 y0;rw[<-b9,Ys] at this;exact a1 this 0
 clear b9 jH eZ fZ uj nO h0 h1 h2 h3 a7 jU kf dz kv Ys
 have Z:=h.mono lub
 refine⟨λe=>a6 e (by omega),λ_=>bE _ _ ⟨λe=>a6 (uI e) (by omega),λ_ adG mo=>⟨_,b4.c1,λe=>a6 e (by omega),λ_=>⟨_,b4.c1,λe=>a6 e (by omega),λ_=>⟨_,b4.c2,λe=>a6 e (by omega),λ_=>⟨_,b4.c2,λe=>a6 e (by omega),λ_=>⟨_,b4.fM,λe=>a6 e (by omega),λ_=>⟨_,b4.fM,mo _ _ ⟨λe=>a6 (uI e) (by omega),λ_=>⟨_,b4.c1,by omega,λe=>a6 MG e,λ_=>⟨s,b4.bK,λe=>a6 e (by omega),λ_=>⟨s,b4.bK,_,b4.c2,λe=>a6 e (by omega),λ_=>⟨s,b4.bK,?_⟩⟩⟩⟩⟩⟩⟩⟩⟩⟩⟩⟩⟩
 refine⟨λ_ _ x w=>w=ub/\0<=x/\x<=s.n,λ_ _ x _=>s.n-x.toNat,⟨rfl,by omega,by omega⟩,?_⟩
 rintro _ _ x w ⟨rfl,bG,dy⟩
 refine⟨λM=>?_,λ_=>?_⟩
 obtain⟨q,aO,y,aiy,Sh,Eb,aEJ⟩:=Z.at bG M
 obtain⟨v1,v2⟩:=aA y Sh
 refine⟨q,aO,⟨bG,M⟩,y.1,Eb,pX aEJ ?_⟩
 have xh:gn y.2 d=0:=by rw[<-v1];exact y3 v2 (by omega)
 rw[xh]
 exact⟨λe=>a6 rfl e,λ_=>⟨⟨by omega,by omega⟩,⟨rfl,by omega,by omega⟩,by dsimp only;omega⟩⟩
 intro m hm
 have qt:=bW (u:=w) (b:=m) (.cells #[.int .i64 d,.slice none 0 0] 191 (0,0)) hm
 refine⟨_,H.le.cell qt b4.c1,λx v=>0<=x/\x<=P/\∃(fS:U) (eK:J (U×J (U×J o))),eK.length=x.toNat/\v m=some (.cells #[.int .i64 d,.slice fS.a fS.n fS.c] 191 (0,0))/\aD w v 133 1 fS (eK.flatMap λc=>encS c.1)/\fS.aj≠some m/\
  ∀c∈eK,fL w v c.1 c.2/\wq c.2 n/\dH fS c.1/\(∀y∈c.2,dH fS y.1)/\c.1.aj≠some m/\∀y∈c.2,y.1.aj≠some m,λx _=>P-x.toNat,⟨by omega,by omega,⟨none,0,0⟩,[],rfl,bf _ _ _,aD.nil qt _ _,by simp[U.aj],λc I=>(by cases I)⟩,?_⟩
 rintro x v ⟨bG,dy,fS,eK,ev,fP,ab,fq,HS⟩
 have aF2:fS.n=eK.length:=gY Wl (by decide) ab.own.cC
 refine⟨λM=>?_,λgr=>?_⟩
 refine⟨fS,a1 fP 1,_,_,_,rfl,hh an9,?_⟩
 refine ay4 (b4.mono ab.le) (Z.mono ab.le) CL (by omega) ⟨gj,atG⟩ sM I hv O bG M λph lR cs dU bH=>⟨dU.own.le,?_⟩
 have yO:=dU.own.le
 have atW:=ab.mono yO
 refine c4.OK (zl aAI (aoA ph) (by decide) rfl (by simp[cF]) atW (by show fS.n<_;omega) (by show(fS.n+1)*_<=_;omega) λDr hc Mz aFP agz Xx _=>?_) λ_ _ bV=>⟨yO.trans bV.1,bV.2⟩
 have Hk:hc m=some (.cells #[.int .i64 d,.slice fS.a fS.n fS.c] 191 (0,0)):=agz m _ (yO _ _ fP) fq
 refine aAr Hk ⟨⟨by omega,by omega⟩,⟨by omega,by omega,Dr,eK++ [(ph,cs)],by rw[eC,ev];simp;omega,bf _ _ _,?_,?_,λc cJ=>?_⟩,by dsimp only;omega⟩
 have al:Dr.aj≠some m:=λe=>by rcases Xx m e with aC|aC;exact fq aC;rw[yO _ _ fP] at aC;cases aC
 rw[gU]
 exact aD.xj Mz hm al _
 intro e
 rcases Xx m e with aC|aC
 exact fq aC
 rw[yO _ _ fP] at aC;cases aC
 have ae3:∀{t:U},dH fS t->(∀g,t.aj=some g->lR g≠none)->dH Dr t:=λac hk g W ht=>by rcases Xx g W with aC|aC;exact ac g aC ht;exact hk g ht aC
 have key:∀(t:U) (l:J (U×J o)),fL w lR t l->wq l n->dH fS t->(∀y∈l,dH fS y.1)->t.aj≠some m->(∀y∈l,y.1.aj≠some m)->
   fL w (hc.ins m (.cells #[.int .i64 d,.slice Dr.a Dr.n Dr.c] 191 (0,0))) t l/\wq l n/\dH Dr t/\(∀y∈l,dH Dr y.1)/\t.aj≠some m/\∀y∈l,y.1.aj≠some m:=λt l cT da dm fx rn F2=>
  ⟨jm.Ue (cT.else agz (λg W=>ab.fresh g W) dm fx) hm rn F2 _,da,ae3 dm λg W=>dF cT.own W,λy ah=>ae3 (fx y ah) λg W=>dF (cT.inner y ah) W,rn,F2⟩
 rcases cK.1 cJ with cJ|cJ
 obtain⟨cT,da,dm,fx,rn,F2⟩:=HS c cJ
 exact key c.1 c.2 (cT.mono yO) da dm fx rn F2
 rw[fI.1 cJ]
 refine key ph cs (dU.weaken ab.le) bH (λg W ht=>?_) (λy ah g W ht=>?_) (λe=>?_) λy ah e=>?_
 exact dF ab W (dU.own.fresh g ht)
 exact dF ab W ((dU.inner y ah).fresh g ht)
 have:=dU.own.fresh m e;rw[fP] at this;cases this
 have:=(dU.inner y ah).fresh m e;rw[fP] at this;cases this
 have avb:x.toNat=P:=by have:¬x<(P:o):=gr;omega
 refine aq v ⟨m,fS,eK⟩ ⟨lub.trans ab.le,lub.none hm,fP,ab.weaken lub,λc I=>(HS c I).1.weaken lub⟩ ⟨⟨by show 1<=eK.length;omega,by show eK.length<=8;omega⟩,n,gj,?_,λc I=>(HS c I).2.1⟩
 show((eK.length*n:N):o)=d
 rw[ev,avb,Gi,ae]
end
end gO
section
variable{u ai:H}{b:N}{D:N->Prop}{q:J o}{k:o}{f:ju}{l:J av}
def eA.bM:x5 eA.ef:=⟨λh ac hu=>h.bM ac hu⟩
def eA.toG{af:N->ay eA.bu}{T:eA.aT}(h:eA.In ai u af b T):mf eA.ef ai u af b T:=⟨h.aF,h.le,h.out,h.known⟩
def eA.FV{af:N->ay eA.bu}{T:eA.aT}(h:mf eA.ef ai u af b T):eA.In ai u af b T:=⟨h.aF,h.le,h.out,h.known⟩
inductive cD where
 |nN (X:kE.aT)|aZ (X:lE.aT)|mZ (X:jm.aT)|ae (X:eA.aT)|cW (X:gO.aT)
def cD.ek(ai u:H)(D:N->Prop)(b:N):cD->Prop
 | .nN X=>eW kE.ef kE.dP ai u D b X| .aZ X=>eW lE.ef lE.dP ai u D b X| .mZ X=>eW jm.ef jm.dP ai u D b X| .ae X=>eW eA.ef eA.dP ai u D b X| .cW X=>eW gO.ef gO.dP ai u D b X
def cD.rows:cD->J (o×J o)
 | .nN X=>kE.bb X| .aZ X=>lE.bb X| .mZ X=>jm.bb X| .ae X=>eA.e4 X.g| .cW X=>gO.bb X
def cD.dim:cD->o
 | .nN X=>X.dim| .aZ X=>X.dim| .mZ X=>X.dim| .ae X=>X.dim| .cW X=>X.dim
def cD.eR:cD->N
 | .nN X=>X.eR| .aZ X=>X.eR|_=>0
def cD.fb:cD->dC
 | .nN _=>113| .aZ _=>116| .mZ _=>119| .ae _=>122| .cW X=>if X.cd.isSome then 129 else 128
def cD.iface(X:cD)(b:N):ao:=.iface X.fb (.pointer (some ⟨b,0,none⟩))
def cD.GM(X:gO.aT):(cD.cW X).fb=if X.cd.isSome then 129 else 128:=rfl
def cD.IF{X:gO.aT}(h:X.cd=none)(b:N):(cD.cW X).iface b=.iface 128 (.pointer (some ⟨b,0,none⟩)):=by unfold cD.iface;rw[cD.GM,h];rfl
def cD.IE{X:gO.aT}{c:gO.pq}(h:X.cd=some c)(b:N):(cD.cW X).iface b=.iface 129 (.pointer (some ⟨b,0,none⟩)):=by unfold cD.iface;rw[cD.GM,h];rfl
def cD.base{X:cD}(h:X.ek ai u D b):ai.le u/\(∀c,D c->ai c=none)/\∀c,D c->u c≠none:=by cases X<;>exact eW.base h
def cD.same{u':H}{X:cD}(h:X.ek ai u D b)(hu:∀c z,u c=some z->D c->u' c=some z)(hle:ai.le u'):X.ek ai u' D b:=by cases X;exact eW.same kE.bM h hu hle;exact eW.same lE.bM h hu hle;exact eW.same jm.bM h hu hle;exact eW.same eA.bM h hu hle;exact eW.same gO.bM h hu hle
def cD.mono{u':H}{X:cD}(h:X.ek ai u D b)(hu:u.le u'):X.ek ai u' D b:=cD.same h (λc z I _=>hu c z I) ((cD.base h).1.trans hu)
def cD.l6{v:H}{X:cD}(h:X.ek ai u D b)(aA:v.le ai):X.ek v u D b:=by cases X<;>exact eW.l6 h aA
def awn{t e:dC}{name:String}(hm:nS aH t name f ak=ak)(hu:aH.underlying t=some (.pointer e))(p:ay ba)(w:b6):(method (aH.types.size+uz) t (.pointer p) name).run aH w=.ok (f,.pointer p) w:=by obtain⟨i,m,h1,h2,h3,a7⟩:=AT hm;obtain⟨dQ,de⟩:=zZ;rw[de];exact JK h1 h2 h3 a7 hu
def O8:aH.underlying 113=some (.pointer 169):=by kernel_rfl
def Pa:aH.underlying 116=some (.pointer 174):=by kernel_rfl
def O7:aH.underlying 119=some (.pointer 178):=by kernel_rfl
def O6:aH.underlying 122=some (.pointer 184):=by kernel_rfl
def O9:aH.underlying 128=some (.pointer 127):=by kernel_rfl
def amq:aH.underlying 129=some (.pointer 132):=by kernel_rfl
def k1{t e:dC}{name:String}{args:cu ao}{ss:J bj}{K:hd (gD ss) (H->Prop)}(hm:nS aH t name f ak=ak)(hu:aH.underlying t=some (.pointer e))(Z:hl aH f=ak)
  (h:ie aH f (#[.pointer (some ⟨b,0,none⟩)]++args) ss u K):mJ aH (.iface t (.pointer (some ⟨b,0,none⟩))) name args ss u K:=
 ⟨_,_,f,_,rfl,λw _=>awn hm hu _ w,hh Z,h⟩
def V0{name:String}{args:cu ao}{ss:J bj}{K:hd (gD ss) (H->Prop)}(hm:∀w,(method (aH.types.size+uz) 129 (.pointer (some ⟨b,0,none⟩)) name).run aH w=.ok (f,.pointer (some ⟨b,0,none⟩)) w)(Z:hl aH f=ak)
  (h:ie aH f (#[.pointer (some ⟨b,0,none⟩)]++args) ss u K):mJ aH (.iface 129 (.pointer (some ⟨b,0,none⟩))) name args ss u K:=
 ⟨_,_,f,_,rfl,λw _=>hm w,hh Z,h⟩
def cD.Bl{X:cD}{K:o->H->Prop}(h:X.ek ai u D b)(aq:K X.rows.length u):mJ aH (X.iface b) "Len" #[] [.one (.int .i64)] u K:=by
 cases X with
 |nN X=>obtain⟨af,h1,h2,h3⟩:=eW.ex h;exact k1 (f:=252) (by kernel_rfl) O8 (by kernel_rfl) (kE.Bl h2 aq)
 |aZ X=>obtain⟨af,h1,h2,h3⟩:=eW.ex h;exact k1 (f:=272) (by kernel_rfl) Pa (by kernel_rfl) (lE.Bl h2 aq)
 |mZ X=>obtain⟨af,h1,h2,h3⟩:=eW.ex h;exact k1 (f:=280) (by kernel_rfl) O7 (by kernel_rfl) (jm.Bl h2 h3 aq)
 |ae X=>obtain⟨af,h1,h2,h3⟩:=eW.ex h;refine k1 (f:=288) (by kernel_rfl) O6 (by kernel_rfl) (eA.ak6 h2.aF ?_);rw[show(cD.ae X).rows.length=X.g.length by simp[cD.rows,eA.e4]] at aq;exact aq
 |cW X=>
  obtain⟨af,h1,h2,h3⟩:=eW.ex h;have:=gO.Bl h2 aq;cases e:X.cd with
  |some c=>rw[cD.IE e];exact V0 (f:=306) (λw=>by kernel_rfl) (by kernel_rfl) this|none=>rw[cD.IF e];exact k1 (f:=306) (by kernel_rfl) O9 (by kernel_rfl) this
def cD.zn{X:cD}{K:U->H->Prop}(h:X.ek ai u D b)(aq:∀s ls u',qO u u' s ls->(ls.map av.bi).Perm X.rows->(ls.Pairwise λa b=>a.id<=b.id)->K s u'):mJ aH (X.iface b) "Rows" #[] [.one .slice] u K:=by
 cases X with
 |nN X=>obtain⟨af,h1,h2,h3⟩:=eW.ex h;exact k1 (f:=254) (by kernel_rfl) O8 (by kernel_rfl) (kE.zn h2 h3 aq)
 |aZ X=>obtain⟨af,h1,h2,h3⟩:=eW.ex h;exact k1 (f:=274) (by kernel_rfl) Pa (by kernel_rfl) (lE.zn h2 h3 aq)
 |mZ X=>obtain⟨af,h1,h2,h3⟩:=eW.ex h;exact k1 (f:=282) (by kernel_rfl) O7 (by kernel_rfl) (jm.zn h2 h3 aq)
 |ae X=>obtain⟨af,h1,h2,h3⟩:=eW.ex h;exact k1 (f:=290) (by kernel_rfl) O6 (by kernel_rfl) (eA.ak8 (eA.FV h2) h3 aq)
 |cW X=>
  obtain⟨af,h1,h2,h3⟩:=eW.ex h;have:=gO.zn h2 h3 aq;cases e:X.cd with
  |some c=>rw[cD.IE e];exact V0 (f:=308) (λw=>by kernel_rfl) (by kernel_rfl) this|none=>rw[cD.IF e];exact k1 (f:=308) (by kernel_rfl) O9 (by kernel_rfl) this
def vX(a b c:U)(rest:J av):J cp:=if rest=[] then[] else[⟨2,a,b,0,c,mm rest,ml rest,dM (rest.map (·.id))⟩]
def Un.own{aG ss bc:U}{gF:J bP}{seen:J o}{rest:J av}(h:Un ai u aG ss bc gF seen rest):∃a b c:U,jB ai u aG ss bc gF seen (vX a b c rest):=by
 rcases h.r with⟨he,rfl⟩|⟨al,_,a,b,c,h1,h2,h3,a7,b3,eN,mz,f1,f2⟩;refine⟨⟨none,0,0⟩,⟨none,0,0⟩,⟨none,0,0⟩,?_⟩;rw[vX,aV he];refine⟨h.h,h.s,aD.nil h.h.le _ _,λr O=>(by cases O),?_⟩;simp only[qR,Gh];refine jJ.2 ⟨λt ht=>?_,jJ.2 ⟨λt ht=>?_,Jr _ _⟩⟩;rcases cE.1 ht with rfl|ht;exact h.ag;obtain rfl:t=_:=by simpa using ht
 intro g _ W;simp[U.aj] at W;obtain rfl:t=_:=by simpa using ht
 intro g _ W;simp[U.aj] at W;refine⟨a,b,c,?_⟩;rw[vX,az al];have e:([⟨2,a,b,0,c,mm rest,ml rest,dM (rest.map (·.id))⟩]:J cp).flatMap tB=[.int .i64 2,.slice a.a a.n a.c,.slice b.a b.n b.c,.int .u64 0,.int .u64 0,.slice c.a c.n c.c]:=by simp[tB,XV,Z5]
 refine⟨h.h,h.s,by rw[e];exact h1,λr O=>?_,?_⟩;obtain rfl:r=_:=by simpa using O
 exact⟨h2,h3,a7⟩;have Wo:∀x∈[a,b,c],dH aG x/\dH ss x/\dH bc x:=λx M=>⟨λg qX vb=>(f1 x M g vb).1 qX,λg qX vb=>(f1 x M g vb).2.1 qX,λg qX vb=>(f1 x M g vb).2.2 qX⟩;have ne:∀{x y:U},x.aj≠y.aj->dH x y:=λae g M ah=>ae (by rw[M,ah]);simp only[qR,gB,Gh,kA,cp.jj];refine jJ.2 ⟨λt ht=>?_,jJ.2 ⟨λt ht=>?_,jJ.2 ⟨λt ht=>(Wo t ht).2.2,jJ.2 ⟨λt ht=>?_,jJ.2 ⟨λt ht=>?_,Jr _ _⟩⟩⟩⟩⟩;rcases cE.1 ht with rfl|ht;exact h.ag;rcases cE.1 ht with rfl|ht;exact λg W gQ=>(f2 g gQ).1 W;exact(Wo t ht).1;rcases cE.1 ht with rfl|ht;exact λg W gQ=>(f2 g gQ).2 W;exact(Wo t ht).2.1;rcases cE.1 ht with rfl|ht;exact ne b3;obtain rfl:t=c:=by simpa using ht
 exact ne eN;obtain rfl:t=c:=by simpa using ht
 exact ne mz
def aql{b:o}(aO:kH l q)(aa a2 a3:U):Sound l q k (eV k.toNat ((l.take b.toNat).map (ia q))) (dM ((l.take b.toNat).map (·.id))) (vX aa a2 a3 (l.drop b.toNat)):=by
 have bY:=aO.rows.nodup;have e:l.map (·.id)=(l.take b.toNat).map (·.id)++(l.drop b.toNat).map (·.id):=by rw[<-dY,r6]
 have w4:=bY;rw[e] at w4;obtain⟨b3,eN,_⟩:=gb.1 w4;refine⟨Dw b3,λr O=>?_,?_,λm hm Mj=>?_⟩;unfold vX at O;split at O;cases O;rename_i al;obtain rfl:r=⟨2,aa,a2,0,a3,mm (l.drop b.toNat),ml (l.drop b.toNat),dM ((l.drop b.toNat).map (·.id))⟩:=fI.1 O;have bH:gX (l.drop b.toNat) (q.length:o):=aO.rows.sub (N7 _ _);obtain⟨gf,gP,wz,BY,Hh,BZ⟩:=aea bH al;refine⟨⟨bH.dim,Dw eN,λx M=>?_,.inr (.inl ⟨rfl,rfl,wz,BY,gf,gP,Hh⟩)⟩,λh=>?_,λx M=>?_⟩;obtain⟨r,O,rfl⟩:=bk.1 ((nq _).mem_iff.1 M);exact bH.id r O;have:=dV hR h;rw[zm,dg] at this;exact al (ly this);obtain⟨r,O,rfl⟩:=bk.1 ((nq _).mem_iff.1 M);refine⟨r,uG O,rfl,λ_ i hi=>BZ r O i ?_,λh=>by cases h⟩;have:=(bH.v r O).1;omega;rw[e];refine List.Perm.append (nq _) ?_;unfold vX;split;rename_i h0;rw[h0];exact .refl _;simpa using nq _;have ad:m.Perm (l.take b.toNat):=akn bY hm (λr O=>nW O) (by rw[Mj];exact nq _);exact(DB (ad.map (ia q))).symm
def alK{b:o}:zp l q k b=0↔kH l q/\1<=k/\k<=64/\0<=b/\b<=1000000:=by unfold zp;constructor;intro h;split at h;rename_i al;exact a6 h al;rename_i he;split at h;cases h;exact⟨Hf.1 (by simpa using he),by omega,by omega,by omega,by omega⟩;rintro⟨h1,h2⟩;rw[az (by simp[Hf.2 h1]),az (by omega)]
def ay1{s t:U}{b:o}{K:U->U->U->o->H->Prop}(ag:dS u s l)(ht:Ints u t q)
  (dx:zp l q k b≠0->K ⟨none,0,0⟩ ⟨none,0,0⟩ ⟨none,0,0⟩ (zp l q k b) u)
  (bH:zp l q k b=0->∀aG ss bc aa a2 a3 u',jB u u' aG ss bc (eV k.toNat ((l.take b.toNat).map (ia q))) (dM ((l.take b.toNat).map (·.id))) (vX aa a2 a3 (l.drop b.toNat))->K aG ss bc 0 u'):
  Ps s t k b u K:=
 aze ag ht dx λh1 h2 h3 a7 bE aG ss bc u' _ aE=>by obtain⟨aa,a2,a3,ab⟩:=aE.own;exact bH (alK.2 ⟨h1,h2,h3,a7,bE⟩) aG ss bc aa a2 a3 u' ab
def DJ.nil(u:H):DJ u ⟨none,0,0⟩ ⟨none,0,0⟩ ⟨none,0,0⟩ [] [] []:=
 ⟨(aD.nil (H.le.refl u) 0 3).own.cC,Ints.nil u,(aD.nil (H.le.refl u) 0 6).own.cC,λr O=>by cases O⟩
def alH{P:J (o×J o)}{L:J av}{S R:J o}{aJ:o}{iI:o->bP}{rest:J cp}(bY:(P.map (·.1)).Nodup)(cL:(L.map av.bi).Perm P)(aO:kH L q)(fV:0<=aJ)(ad:(S++R).Perm (P.map (·.1)))(ar:S.length<=aJ.toNat)
  (ac:R≠[]->S.length=aJ.toNat) (tW:BQ R) (asX:∀r∈L,iI r.id=ia q r) (O:rest.map cp.core=if R=[] then[] else[(1,0,[],[],R)]):
  Sound L q k (eV k.toNat (S.map iI)) (dM S) rest/\((dM S).length:o)<=aJ/\(((dM S).length:o)=aJ∨(dM S).length=L.length):=by
 have ke:(P.map (·.1)).Perm (L.map (·.id)):=by rw[show L.map (·.id)=(L.map av.bi).map (·.1) by rw[ez];rfl];exact(cL.map _).symm
 have arE:S.Nodup:=(gb.1 (ad.nodup_iff.2 bY)).1
 have vr:rest.flatMap (·.ids)=R/\∀r∈rest,r.core=(1,0,[],[],R)/\R≠[]:=by
  by_cases e:R=[];rw[aV e] at O;have:rest=[]:=by simpa using O
  rw[this,e];exact⟨rfl,λr O=>by cases O⟩;rw[az e] at O;cases rest with
  |nil=>simp at O|cons r rs=>
   cases rs with
   |cons tc aGu=>simp at O|nil=>simp only[gl,Df,y9,vS] at O;refine⟨?_,λch cq=>?_⟩;have:r.ids=R:=dV (λY=>Y.2.2.2.2) O;simp[this];simp at cq;rw[cq];exact⟨O,e⟩
 refine⟨⟨Dw arE,λr cq=>?_,?_,λm hm Mk=>?_⟩,?_,?_⟩
 obtain⟨I,al⟩:=vr.2 r cq
 have c1:r.aG=1:=dV (λY=>Y.1) I
 have c2:r.cH=0:=dV (λY=>Y.2.1) I
 have fM:r.bJ=[]:=dV (λY=>Y.2.2.1) I
 have tw:r.hi=[]:=dV (λY=>Y.2.2.2.1) I
 have wC:r.ids=R:=dV (λY=>Y.2.2.2.2) I
 have b4:∀x∈R,x∈L.map (·.id):=λx M=>ke.mem_iff.1 (ad.mem_iff.1 (lf _ M))
 refine⟨⟨aO.rows.dim,by rw[wC];exact tW,λx M=>?_,.inl ⟨c1,fM,tw,c2⟩⟩,by rw[wC];exact al,λx M=>?_⟩
 rw[wC] at M
 obtain⟨w,hw,rfl⟩:=bk.1 (b4 x M)
 exact aO.rows.id w hw
 rw[wC] at M
 obtain⟨w,hw,rfl⟩:=bk.1 (b4 x M)
 exact⟨w,hw,rfl,λh=>(by rw[c1] at h;cases h),λh=>(by rw[c1] at h;cases h)⟩
 rw[vr.1]
 exact(((nq S).append_right R).trans ad).trans ke
 refine DB ?_
 have bE:(m.map (·.id)).Perm S:=by rw[Mk];exact nq S
 have fO:m.map (ia q)=(m.map (·.id)).map iI:=by rw[ez];exact zd λr fQ=>(asX r (hm r fQ)).symm
 rw[fO]
 exact(bE.map _).symm
 rw[zm];omega
 rw[zm]
 by_cases e:R=[]
 right
 rw[e,kA] at ad
 have:=(ad.trans ke).length_eq
 simpa using this
 left
 have:=ac e
 omega
end
namespace eA
section
variable{u ai u':H}{D:N->Prop}{b:N}{q:J o}{t:U}{K:aI->o->H->Prop}{k aJ:o}
def bb(X:aT):J zH:=e4 X.g
structure ek(ai u:H)(D:N->Prop)(b:N)(X:aT):Prop where
 ex:∃af,(∀c,D c↔af c≠none)/\In ai u af b X/\dP X
structure ko(u:H)(D:N->Prop)(u':H)(iv:N->Prop):Prop where
 bM:∀c z,u c=some z->¬D c->u' c=some z
 grow:∀c,iv c->D c∨u c=none
def ko.mono(h:u.le u'):ko u D u' D:=⟨λc z I _=>h c z I,λ_ h=>.inl h⟩
def ko.trans{aS c9:H}{p7 DV:N->Prop}(h:ko u D aS p7)(k:ko aS p7 c9 DV):ko u D c9 DV where
 bM c z I ac:=k.bM c z (h.bM c z I ac) λaw=>by rcases h.grow c aw with h1|h1;exact ac h1;rw[I] at h1;cases h1
 grow c I:=by
  rcases k.grow c I with h1|h1;exact h.grow c h1;by_cases e:D c;exact .inl e;right;cases aC:u c with
  |none=>rfl|some z=>rw[h.bM c z aC e] at h1;cases h1
def ko.apart{v:H}{iv:N->Prop}(h:ko u D u' iv)(aA:v.le u)(aw:∀c,D c->v c=none):v.le u'/\∀c,iv c->v c=none:=by refine⟨λc z I=>h.bM c z (aA c z I) λe=>?_,λc I=>?_⟩;have:=aw c e;rw[I] at this;cases this;rcases h.grow c I with h1|h1;exact aw c h1;exact aA.none h1
def ZH{af:N->ay bu}{T:aT}(h:In ai u af b T)(aR:dP T):ek ai u (λc=>af c≠none) b T:=⟨af,λ_=>A0,h,aR⟩
def amb{af aY:N->ay bu}(eM:∀c,D c↔af c≠none)(h:gy u af u' aY):ko u D u' (λc=>aY c≠none) where
 bM c z I ac:=h.bM c z I (by
  cases e:af c with
  |none=>rfl|some t=>exact a6 ((eM c).2 (by rw[e];simp)) ac)
 grow c I:=(h.grow c I).imp (eM c).2 λh=>h
def ek.base{X:aT}(h:ek ai u D b X):ai.le u/\(∀c,D c->ai c=none)/\∀c,D c->u c≠none:=by obtain⟨af,h1,h2,_⟩:=h.ex;exact⟨h2.le,λc I=>h2.out c ((h1 c).1 I),λc I=>h2.known c ((h1 c).1 I)⟩
def ek.same{X:aT}(h:ek ai u D b X)(hu:∀c z,u c=some z->D c->u' c=some z)(hle:ai.le u'):ek ai u' D b X:=by obtain⟨af,h1,h2,h3⟩:=h.ex;exact⟨af,h1,h2.same (λc z I ac=>hu c z I ((h1 c).2 ac)) hle,h3⟩
def ek.mono{X:aT}(h:ek ai u D b X)(hu:u.le u'):ek ai u' D b X:=h.same (λc z I _=>hu c z I) (h.base.1.trans hu)
def TN{X:aT}{K:o->H->Prop}(h:ek ai u D b X)(aq:K (bb X).length u):UD (some ⟨b,0,none⟩) u K:=by
 obtain⟨af,_,h2,_⟩:=h.ex;refine ak6 h2.aF ?_;have:(bb X).length=X.g.length:=by simp[bb,e4]
 rw[<-this];exact aq
def FD(X:aT)(id:o):(id∈X.g.map (·.1))↔id∈(bb X).map (·.1):=by unfold bb;rw[uK]
def abT{X:aT}{id:o}(h:ek ai u D b X)(ka:lD ai)(ht:Ints u t q)(fh:∀g,t.aj=some g->¬D g)
  (dx:fr id q X.dim (decide (id∈(bb X).map (·.1))) (bb X).length≠0->K ax (fr id q X.dim (decide (id∈(bb X).map (·.1))) (bb X).length) u)
  (bH:fr id q X.dim (decide (id∈(bb X).map (·.1))) (bb X).length=0->∀u' iv h6,ek ai u' iv b h6->ko u D u' iv->(bb h6).Perm ((id,q)::(bb X).filter λx=>x.1 !=id)->h6.dim=X.dim->h6.cj=X.cj->K (decide (id∉(bb X).map (·.1))) 0 u'):
  Px (some ⟨b,0,none⟩) id t u K:=by
 obtain⟨af,h1,h2,h3⟩:=h.ex
 have ar:(bb X).length=X.g.length:=by simp[bb,e4]
 have aw:decide (id∈X.g.map (·.1))=decide (id∈(bb X).map (·.1)):=Gq.2 (FD X id)
 have yt:decide (id∉X.g.map (·.1))=decide (id∉(bb X).map (·.1)):=Gq.2 (not_congr (FD X id))
 refine ak7 h2 h3 ka ht (λg W=>?_) (λal=>?_) λhe u' aY bx O=>?_
 cases e:af g with
 |none=>rfl
 |some x=>exact a6 ((h1 g).2 (by rw[e];simp)) (fh g W)
 rw[aw,<-ar] at al ⊢;exact dx al
 rw[aw,<-ar] at he
 rw[yt]
 exact bH he u' _ bx (ZH O.is O.ok) (amb h1 O.eQ) O.rows O.dim O.cj
def alf{X:aT}{id:o}(h:ek ai u D b X)(ed:id∉(bb X).map (·.1)->∀u',u.le u'->K ax 0 u')
  (kh:id∈(bb X).map (·.1)->∀u' iv h6,ek ai u' iv b h6->ko u D u' iv->bb h6=(bb X).filter (λx=>x.1 !=id)->h6.dim=X.dim->h6.cj=X.cj->K ak 0 u'):Pw (some ⟨b,0,none⟩) id u K:=by
 obtain⟨af,h1,h2,h3⟩:=h.ex
 refine TM h2 h3 (λae=>ed λhm=>z6.1 ae ((FD X id).2 hm)) λn ae u' aY bx O=>kh ((FD X id).1 (bk.2 ⟨_,ih ae,rfl⟩)) u' _ bx (ZH O.is O.ok) (amb h1 O.eQ) O.rows O.dim O.cj
def alg{X:aT}{K:U->H->Prop}(h:ek ai u D b X)(aq:∀s ls u',qO u u' s ls->(ls.map av.bi).Perm (bb X)->(ls.Pairwise λa b=>a.id<=b.id)->K s u'):UE (some ⟨b,0,none⟩) u K:=by obtain⟨af,_,h2,h3⟩:=h.ex;exact ak8 h2 h3 aq
def abS{s:U}{l:J av}{dim cj seed:o}{K:ay ba->o->H->Prop}(ag:dS u s l)(ka:lD u)(MT:dn seed)
  (dx:wA l dim cj≠0->K none (wA l dim cj) u) (bH:wA l dim cj=0->∀b D X u',ek u u' D b X->(bb X).Perm (l.map av.bi)->X.dim=dim->X.cj=cj->K (some ⟨b,0,none⟩) 0 u'):Pv s dim cj seed u K:=
 ak5 ag ka MT dx λhe b _ T u' O=>bH he b _ T u' (ZH O.is O.ok) O.rows O.dim O.cj
def iW(X:aT)(q:J o)(k aJ:o):J bP:=eV k.toNat ((pj X.g q X.entry aJ.toNat).1.map (cN X.g q))
def gk(X:aT)(q:J o)(aJ:o):J o:=dM (pj X.g q X.entry aJ.toNat).1
def jr(X:aT)(q:J o)(aJ:o):J (o×o×J o×J o×J o):=if(pj X.g q X.entry aJ.toNat).2=[] then[] else[(1,0,[],[],(pj X.g q X.entry aJ.toNat).2)]
def aki(jK:U)(X:aT)(q:J o)(aJ:o):(On jK (pj X.g q X.entry aJ.toNat).2).map cp.core=jr X q aJ:=by unfold On jr;split<;>rfl
def alh{X:aT}{K:U->U->U->o->H->Prop}(h:ek ai u D b X)(ht:Ints u t q)
  (dx:h7 q X.dim k aJ≠0->∀u',u.le u'->K ⟨none,0,0⟩ ⟨none,0,0⟩ ⟨none,0,0⟩ (h7 q X.dim k aJ) u')
  (bH:h7 q X.dim k aJ=0->∀aG ss bc rest u',jB u u' aG ss bc (iW X q k aJ) (gk X q aJ) rest->rest.map cp.core=jr X q aJ->K aG ss bc 0 u'):UF (some ⟨b,0,none⟩) t k aJ u K:=by
 obtain⟨af,_,h2,h3⟩:=h.ex
 exact ak9 h2 h3 ht dx λhe aG ss bc jK u' aE=>bH he aG ss bc _ u' aE (aki jK X q aJ)
def aiM{X:aT}(h:ek ai u D b X)(he:h7 q X.dim k aJ=0){L:J av}(cL:(L.map av.bi).Perm (bb X))(aO:kH L q){rest:J cp}(O:rest.map cp.core=jr X q aJ):
  Sound L q k (iW X q k aJ) (gk X q aJ) rest/\((gk X q aJ).length:o)<=aJ/\(((gk X q aJ).length:o)=aJ∨(gk X q aJ).length=L.length):=by
 obtain⟨af,_,h2,h3⟩:=h.ex
 obtain⟨aA,cx,cS,fV,gf⟩:=D3.1 he
 have bY:=h2.aF.nodup
 obtain⟨ad,ar,ac,tW⟩:=alL h3 bY q aJ.toNat
 rw[<-uK] at ad
 refine alH (by rw[show bb X=e4 X.g from rfl,uK];exact bY) cL aO fV ad ar ac tW (λr YO=>?_) O
 have bE:r.bi∈bb X:=cL.mem_iff.1 (bk.2 ⟨r,YO,rfl⟩)
 obtain⟨x,M,e⟩:=bk.1 bE
 have aP:x.1=r.id:=dV pd e
 have aC:x.2.v=r.v:=dV pR e
 have fO:eL X.g r.id=some x.2:=z1 bY (by rw[<-aP];exact M)
 unfold cN ia
 rw[fO]
 simp only[aC]
def aiN{X:aT}(h:ek ai u D b X)(he:h7 q X.dim k aJ=0){L:J av}(cL:(L.map av.bi).Perm (bb X))(aO:kH L q){rest:J cp}(O:rest.map cp.core=jr X q aJ):
  Sound L q k (iW X q k aJ) (gk X q aJ) rest/\((gk X q aJ).length:o)<=aJ/\(((gk X q aJ).length:o)=aJ∨(gk X q aJ).length=L.length∨zA q k (iW X q k aJ) rest):=by
 obtain⟨s1,s2,nk⟩:=aiM h he cL aO O
 exact⟨s1,s2,nk.imp id .inl⟩
def ek.l6{v:H}{X:aT}(h:ek ai u D b X)(aA:v.le ai):ek v u D b X:=by
 obtain⟨af,h1,h2,h3⟩:=h.ex;exact⟨af,h1,⟨h2.aF,aA.trans h2.le,λc I=>by
  cases M:v c with
  |none=>rfl|some z=>have:=aA _ _ M;rw[h2.out c I] at this;exact(nomatch this),h2.known⟩,h3⟩
def azr{af:N->ay bu}{T:aT}{id:o}(h:In ai u af b T)(aR:dP T)(ka:lD ai)(Ax:Ints ai t q)
  (dx:fr id q T.dim (decide (id∈T.g.map (·.1))) T.g.length≠0->K ax (fr id q T.dim (decide (id∈T.g.map (·.1))) T.g.length) u)
  (bH:fr id q T.dim (decide (id∈T.g.map (·.1))) T.g.length=0->∀u' aY bx,tp ai u af b T id q u' aY bx->K (decide (id∉T.g.map (·.1))) 0 u'):Px (some ⟨b,0,none⟩) id t u K:=by
 have ht:=Ax.mono h.le
 obtain⟨bK,_,_,fM,_⟩:=kB h.aF
 apply amC
 refine⟨λe=>(by cases e),λ_=>⟨_,rfl,_,fM,?_⟩⟩
 refine tf vF h.aF.map (ct:=.ptr) ((eL T.g id).map λn=>(⟨n.p,0,none⟩:ba)) (by rw[Cd];cases eL T.g id<;>rfl) ?_
 have iA:(fN (jh T.g) id).isSome=decide (id∈T.g.map (·.1)):=by
  rw[Cd,Tl];cases e:eL T.g id with
  |none=>rw[nY (z6.1 e)];rfl|some n=>rw[lP (bk.2 ⟨_,ih e,rfl⟩)];rfl
 rw[iA]
 refine⟨_,rfl,_,rfl,_,bK,_,fM,v7 vF h.aF.map ⟨H.le.refl u,JU ht ?_⟩⟩
 rw[NV]
 refine⟨λal=>dx al,λhe=>?_⟩
 have bH:=bH he
 have ke:¬(id<1∨1000000000<id)/\gn q T.dim=0/\¬(decide (id∈T.g.map (·.1))=ax/\512<=(T.g.length:o)):=by unfold fr at he;by_cases h1:id<1∨1000000000<id;rw[aV h1] at he;cases he;rw[az h1] at he;by_cases h2:gn q T.dim≠0;rw[aV h2] at he;exact a6 he h2;rw[az h2] at he;by_cases h3:decide (id∈T.g.map (·.1))=ax/\512<=(T.g.length:o);rw[aV h3] at he;cases he;exact⟨h1,by simpa using h2,h3⟩
 obtain⟨d1,d2,d3,d4⟩:=oA ke.2.1
 have lay:∀(aS:H) (cZ:N->ay bu) (a8:aT),In ai aS cZ b a8->gy u af aS cZ->dP a8->e4 a8.g=(e4 T.g).filter (λx=>x.1 !=id)->a8.dim=T.dim->a8.cj=T.cj->
   oC t aS λdp gC=>H.le aS gC/\GZ (some ⟨b,0,none⟩) id dp gC λxU=>K (!decide (decide (id∈T.g.map (·.1))=ak)) 0 xU:=by
  intro aS cZ a8 h1 mX sF vq sI gi
  have q1:Ints aS t q:=Ax.mono h1.le
  refine sc q1 (by have:=q1.len;omega) λdp gC fE _=>⟨fE.le,?_⟩
  have wL:=h1.mono fE.le
  obtain⟨hY,h2,xg,jT⟩:=wL.aci (s:=dp) (λg W=>⟨h1.fresh (fE.fresh g W),h1.le.none (fE.fresh g W),uu fE W⟩) id
  have w5:id∉a8.g.map (·.1):=λhm=>by rw[<-uK,vq] at hm;obtain⟨x,M,e⟩:=bk.1 hm;have:=(hT.1 M).2;simp[e] at this
  have hlen:a8.g.length<=512:=by
   have aP:a8.g.length=((e4 T.g).filter λx=>x.1 !=id).length:=by rw[<-vq];simp[e4]
   by_cases b4:id∈T.g.map (·.1);have:((e4 T.g).filter λx=>x.1 !=id).length<(e4 T.g).length:=by rw[Oc];rw[<-uK] at b4;obtain⟨x,M,e⟩:=bk.1 b4;exact⟨x,M,by simp[e]⟩
   have bE:(e4 T.g).length=T.g.length:=by simp[e4]
   have:=aR.k.ok.small;omega;have a7:¬512<=(T.g.length:o):=λbE=>ke.2.2 ⟨nY b4,bE⟩;have bE:(e4 T.g).length=T.g.length:=by simp[e4]
   have:=Bh (λx:o×J o=>x.1 !=id) (e4 T.g);omega
  refine abR h2 sF ka w5 (by omega) fE.ints xg ⟨by rw[sI];exact d3,d4⟩ hlen λxU oN D0 h3 mY Xe Av HW Ah=>?_
  have Z:(!decide (decide (id∈T.g.map (·.1))=ak))=decide (id∉T.g.map (·.1)):=by by_cases b4:id∈T.g.map (·.1)<;>simp[b4]
  rw[Z]
  refine bH xU oN D0 ⟨h3,?_,Xe,?_,HW.trans sI,Ah.trans gi⟩
  have gone:∀c,aS c=none->af c≠none∨u c=none:=λc I=>by
    cases e:af c with
    |some x=>exact .inl (by simp)|none=>
     cases aC:u c with
     |none=>exact .inr rfl|some z=>rw[mX.bM c z aC e] at I;cases I
  refine⟨λc z I ac=>?_,λc I=>?_⟩
  have bE:=mX.bM c z I ac
  have e:dp.aj≠some c:=λe=>by have:=fE.fresh c e;rw[bE] at this;cases this
  exact mY.bM c z (fE.le c z bE) (by rw[jT c e];exact mX.none I ac)
  rcases mY.grow c I with bE|bE
  by_cases e:dp.aj=some c
  exact gone c (fE.fresh c e)
  rw[jT c e] at bE;exact mX.grow c bE
  exact gone c (fE.le.none bE)
  rw[Av,vq]
  exact l5 _ _
 refine TM h aR (λed aS gI=>?_) λn ae aS cZ a8 kg=>?_
 refine lay aS af T (h.mono gI) (gy.mono gI) aR ?_ rfl rfl
 refine(pS.2 λx M=>?_).symm
 have:x.1≠id:=λe=>z6.1 ed (by rw[<-uK];exact bk.2 ⟨x,M,e⟩)
 simpa using this
 exact lay aS cZ a8 kg.is kg.eQ kg.ok kg.rows kg.dim kg.cj
end
end eA
section
variable{u ai:H}{D:N->Prop}
def Uf{bu:Type}{af:N->ay bu}{t:U}{q:J o}(eM:∀c,D c↔af c≠none)(ht:Ints u t q)(fh:(∀g,t.aj=some g->¬D g)∨Ints ai t q)(aS:H)(cZ:N->ay bu)(hle:ai.le aS)(hk:hA u af aS cZ):Ints aS t q:=by
 rcases fh with fh|Ax;exact bt.else ht λg z W ab=>hk.bM g z ab (by
   cases e:af g with
   |none=>rfl|some x=>exact a6 ((eM g).2 (by rw[e];simp)) (fh g W))
 exact Ax.mono hle
def eA.ama{u':H}{af aY:N->ay eA.bu}(h:eA.gy u af u' aY):hA u af u' aY:=⟨h.bM,h.grow⟩
def cD.Dx{b:N}{X:cD}{id:o}{t:U}{q:J o}{K:aI->o->H->Prop}(h:X.ek ai u D b)(kN:X.eR<=2700)(ka:eA.lD ai)(ht:Ints u t q)(fh:(∀g,t.aj=some g->¬D g)∨Ints ai t q)
  (dx:fr id q X.dim (decide (id∈X.rows.map (·.1))) X.rows.length≠0->K ax (fr id q X.dim (decide (id∈X.rows.map (·.1))) X.rows.length) u)
  (bH:fr id q X.dim (decide (id∈X.rows.map (·.1))) X.rows.length=0->∀u' iv (h6:cD),h6.ek ai u' iv b->ko u D u' iv->h6.rows.Perm ((id,q)::X.rows.filter λx=>x.1 !=id)->h6.dim=X.dim->h6.fb=X.fb->h6.eR<=X.eR+1->K (decide (id∉X.rows.map (·.1))) 0 u'):
  mJ aH (X.iface b) "Put" #[.agg #[.int .i64 id,.slice t.a t.n t.c]] [.one .bool,.one (.int .i64)] u K:=by
 cases X with
 |nN X=>obtain⟨af,h1,h2,h3⟩:=eW.ex h;exact k1 (f:=253) (by kernel_rfl) O8 (by kernel_rfl) (kE.Dx h2 h3 (jv kN (by decide)) ht (Uf h1 ht fh) dx λhe u' aY bx O=>bH he u' _ (.nN bx) (sV O.is O.ok) (zr h1 O.eQ) O.rows O.dim rfl O.eR)
 |aZ X=>obtain⟨af,h1,h2,h3⟩:=eW.ex h;exact k1 (f:=273) (by kernel_rfl) Pa (by kernel_rfl) (lE.Dx h2 h3 (jv kN (by decide)) ht (Uf h1 ht fh) dx λhe u' aY bx O=>bH he u' _ (.aZ bx) (sV O.is O.ok) (zr h1 O.eQ) O.rows O.dim rfl O.eR)
 |mZ X=>obtain⟨af,h1,h2,h3⟩:=eW.ex h;exact k1 (f:=281) (by kernel_rfl) O7 (by kernel_rfl) (jm.Dx h2 h3 ht (Uf h1 ht fh) dx λhe u' aY bx O=>bH he u' _ (.mZ bx) (sV O.is O.ok) (zr h1 O.eQ) O.rows O.dim rfl (nU _))
 |ae X=>
  obtain⟨af,h1,h2,h3⟩:=eW.ex h;have ar:(cD.ae X).rows.length=X.g.length:=by simp[cD.rows,eA.e4]
  have hm:(id∈X.g.map (·.1))↔id∈(cD.ae X).rows.map (·.1):=eA.FD X id;rw[ar,<-Gq.2 hm] at dx bH;rw[<-Gq.2 (not_congr hm)] at bH;refine k1 (f:=289) (by kernel_rfl) O6 (by kernel_rfl) ?_;have fin:=λhe u' aY bx (O:eA.tp ai u af b X id q u' aY bx)=>bH he u' _ (.ae bx) (sV (eA.toG O.is) O.ok) (zr h1 (eA.ama O.eQ)) O.rows O.dim rfl (nU _);rcases fh with fh|Ax;refine eA.ak7 (eA.FV h2) h3 ka ht (λg W=>?_) dx fin;cases e:af g with
  |none=>rfl|some x=>exact a6 ((h1 g).2 (by rw[e];simp)) (fh g W)
  exact eA.azr (eA.FV h2) h3 ka Ax dx fin
 |cW X=>
  obtain⟨af,h1,h2,h3⟩:=eW.ex h;have hk:(cD.cW X).rows.map (·.1)=X.w.map (·.1):=gO.na X;have ar:(cD.cW X).rows.length=X.w.length:=by simp[cD.rows,gO.bb]
  rw[hk,ar] at dx bH;have fin:=λhe u' aY bx (O:gO.tp ai u af b X id q u' aY bx)=>bH he u' _ (.cW bx) (sV O.is O.ok) (zr h1 O.eQ) O.rows O.dim (by rw[cD.GM,cD.GM,O.ao0]) (nU _);cases e:X.cd with
  |none=>rw[cD.IF e];exact k1 (f:=307) (by kernel_rfl) O9 (by kernel_rfl) (gO.alr h2 h3 ht dx λhe u' aY bx O _=>fin he u' aY bx O)|some c=>rw[cD.IE e];exact k1 (f:=311) (by kernel_rfl) amq (by kernel_rfl) (gO.ay8 h2 h3 e ht (Uf h1 ht fh) dx fin)
def cD.wa{b:N}{X:cD}{id:o}{K:aI->o->H->Prop}(h:X.ek ai u D b)(kN:X.eR<=2700)(ed:id∉X.rows.map (·.1)->∀u',u.le u'->K ax 0 u')
  (kh:id∈X.rows.map (·.1)->∀u' iv (h6:cD),h6.ek ai u' iv b->ko u D u' iv->h6.rows=X.rows.filter (λx=>x.1 !=id)->h6.dim=X.dim->h6.fb=X.fb->h6.eR<=X.eR->K ak 0 u'):
  mJ aH (X.iface b) "Delete" #[.int .i64 id] [.one .bool,.one (.int .i64)] u K:=by
 cases X with
 |nN X=>obtain⟨af,h1,h2,h3⟩:=eW.ex h;have hk:(cD.nN X).rows.map (·.1)=X.w.map (·.1):=kE.na X;rw[hk] at ed kh;exact k1 (f:=251) (by kernel_rfl) O8 (by kernel_rfl) (kE.wa h2 h3 (jv kN (by decide)) ed λae u' aY bx O=>kh ae u' _ (.nN bx) (sV O.is O.ok) (zr h1 O.eQ) O.rows O.dim rfl (JD O.eR))
 |aZ X=>obtain⟨af,h1,h2,h3⟩:=eW.ex h;have hk:(cD.aZ X).rows.map (·.1)=X.w.map (·.1):=lE.na X;rw[hk] at ed kh;exact k1 (f:=271) (by kernel_rfl) Pa (by kernel_rfl) (lE.wa h2 h3 (jv kN (by decide)) ed λae u' aY bx O=>kh ae u' _ (.aZ bx) (sV O.is O.ok) (zr h1 O.eQ) O.rows O.dim rfl (JD O.eR))
 |mZ X=>
  obtain⟨af,h1,h2,h3⟩:=eW.ex h;have hw:id∈X.w.map (·.1)↔id∈(cD.mZ X).rows.map (·.1):=by rw[show(cD.mZ X).rows=jm.bb X from rfl,jm.ZG];exact h3.acK
  exact k1 (f:=279) (by kernel_rfl) O7 (by kernel_rfl) (jm.wa h2 h3 (λae=>ed λhm=>ae (hw.2 hm)) λae u' aY bx O=>kh (hw.1 ae) u' _ (.mZ bx) (sV O.is O.ok) (zr h1 O.eQ) O.rows O.dim rfl (cg _))
 |ae X=>obtain⟨af,h1,h2,h3⟩:=eW.ex h;exact k1 (f:=287) (by kernel_rfl) O6 (by kernel_rfl) (eA.TM (eA.FV h2) h3 (λae=>ed λhm=>eA.z6.1 ae ((eA.FD X id).2 hm)) λn ae u' aY bx O=>kh ((eA.FD X id).1 (bk.2 ⟨_,eA.ih ae,rfl⟩)) u' _ (.ae bx) (sV (eA.toG O.is) O.ok) (zr h1 (eA.ama O.eQ)) O.rows O.dim rfl (cg _))
 |cW X=>
  obtain⟨af,h1,h2,h3⟩:=eW.ex h;have hk:(cD.cW X).rows.map (·.1)=X.w.map (·.1):=gO.na X;rw[hk] at ed kh;have:=gO.wa (K:=K) h2 h3 (λae=>ed ae u (H.le.refl u)) λae u' bx O=>kh ae u' _ (.cW bx) (sV O.is O.ok) (zr h1 O.eQ) O.rows O.dim (by rw[cD.GM,cD.GM,O.cd]) (cg _);cases e:X.cd with
  |some c=>rw[cD.IE e];exact V0 (f:=305) (λw=>by kernel_rfl) (by kernel_rfl) this|none=>rw[cD.IF e];exact k1 (f:=305) (by kernel_rfl) O9 (by kernel_rfl) this
end
namespace gO
section
open lE (ec)
def zC(k:tn)(c:N):Prop:=c=k.b∨k.fS.aj=some c∨∃y∈k.eK,y.1.aj=some c∨∃Y∈y.2,Y.1.aj=some c
def DU.fresh{u u':H}{d:o}{k:tn}(h:DU u u' d k)(c:N)(I:zC k c):u c=none/\u' c≠none:=by rcases I with rfl|I|⟨y,ah,I|⟨Y,aB,I⟩⟩;exact⟨h.new,by rw[h.cell];simp⟩;exact⟨h.own.fresh c I,dF h.own I⟩;exact⟨(h.each y ah).own.fresh c I,dF (h.each y ah).own I⟩;exact⟨((h.each y ah).inner Y aB).fresh c I,dF ((h.each y ah).inner Y aB) I⟩
def DU.at{u u' v:H}{d:o}{k:tn}{af:N->ay bu}(h:DU u u' d k)(aA:∀c z,u' c=some z->zC k c->v c=some z)(ac:∀c,zC k c->af c=some .code):si af v d k where
 cell:=aA _ _ h.cell (.inl rfl)
 Qt:=ac _ (.inl rfl)
 bo:=bt.else h.own.own.cC λg z W ab=>aA g z ab (.inr (.inl W))
 hV g W:=ac g (.inr (.inl W))
 tu c I:=⟨bt.else (h.each c I).own.own.cC λg z W ab=>aA g z ab (.inr (.inr ⟨c,I,.inl W⟩)),λY aB=>bt.else ((h.each c I).inner Y aB).ints λg z W ab=>aA g z ab (.inr (.inr ⟨c,I,.inr ⟨Y,aB,W⟩⟩))⟩
 dL c I:=⟨λg W=>ac g (.inr (.inr ⟨c,I,.inl W⟩)),λY aB g W=>ac g (.inr (.inr ⟨c,I,.inr ⟨Y,aB,W⟩⟩))⟩
def start{aS v:H}{b m:N}{dim:o}{cd:ay pq}(hle:aS.le v)(Z:v b=some (aT.obj ⟨dim,m,[],cd⟩))(hm:fs v m [])(Xy:b≠m)(h1:aS b=none)(h2:aS m=none)(aw:1<=dim/\dim<=64)
  (I:∀c,cd=some c->c.sf=[]/\fs v c.hD []/\c.hD≠m/\c.hD≠b/\aS c.hD=none/\∀k,c.co=some k->DK dim k.eK/\∃u u',aS.le u/\DU u u' dim k/\(∀x z,u' x=some z->zC k x->v x=some z)/\u b≠none/\u m≠none/\u c.hD≠none):
  ∃D,eW ef dP aS v D b ⟨dim,m,[],cd⟩/\∀c,D c->c=b∨c=m∨(∃x,cd=some x/\c=x.hD)∨∃x k,cd=some x/\x.co=some k/\zC k c:=by
 obtain⟨af,hI⟩:∃af:N->ay bu,af=λc=>open Classical in if c=b then some .obj else if c=m∨(∃x,cd=some x/\c=x.hD) then some .map else if ∃x k,cd=some x/\x.co=some k/\zC k c then some .code else none:=⟨_,rfl⟩
 have t1:af b=some .obj:=by rw[hI];exact aV rfl
 have t2:∀c,c≠b->(c=m∨∃x,cd=some x/\c=x.hD)->af c=some .map:=λc h bL=>by rw[hI];show(if c=b then _ else _)=_;rw[az h,aV bL]
 have t3:∀x k c,cd=some x->x.co=some k->zC k c->af c=some .code:=λx k c M hk kr=>by obtain⟨_,_,_,_,_,q⟩:=I x M;obtain⟨_,u,u',cT,da,dm,fx,rn,F2⟩:=q k hk;have ae:=(da.fresh c kr).1;rw[hI];show(if c=b then _ else _)=_;rw[az (λe=>fx (by rw[<-e];exact ae)),az (λe=>?_),aV ⟨x,k,M,hk,kr⟩];rcases e with e|⟨nt,fF,e⟩;exact rn (by rw[<-e];exact ae);rw[M] at fF;obtain rfl:=cO fF;exact F2 (by rw[<-e];exact ae)
 have t4:∀c,af c≠none->c=b∨c=m∨(∃x,cd=some x/\c=x.hD)∨∃x k,cd=some x/\x.co=some k/\zC k c:=λc al=>by by_cases aP:c=b;exact .inl aP;by_cases aC:c=m∨∃x,cd=some x/\c=x.hD;exact aC.elim (λe=>.inr (.inl e)) λe=>.inr (.inr (.inl e));by_cases c0:∃x k,cd=some x/\x.co=some k/\zC k c;exact .inr (.inr (.inr c0));exact a6 (by rw[hI];show(if c=b then _ else _)=_;rw[az aP,az aC,az c0]) al
 refine⟨λc=>af c≠none,⟨af,λ_=>A0,⟨⟨Z,t1,hm,t2 m (dv Xy) (.inl rfl),λe he=>(by cases he),λc lH=>?_⟩,hle,λc al=>?_,λc al=>?_⟩,⟨aw,λe he=>(by cases he),λe he=>(by cases he),nU _,λc k lH hk=>?_⟩⟩,t4⟩
 have lH:cd=some c:=lH
 obtain⟨F1,cT,da,dm,fx,rn⟩:=I c lH
 refine⟨by rw[F1];exact cT,t2 _ dm (.inr ⟨c,lH,rfl⟩),da,λe he=>(by rw[F1] at he;cases he),λk hk=>?_⟩
 obtain⟨_,u,u',hF,dO,pa,_⟩:=rn k hk
 exact dO.at pa λx M=>t3 c k x lH hk M
 rcases t4 c al with rfl|rfl|⟨x,M,rfl⟩|⟨x,k,M,hk,kr⟩
 exact h1
 exact h2
 exact(I x M).2.2.2.2.1
 obtain⟨_,u,u',hF,dO,pa,_⟩:=(I x M).2.2.2.2.2 k hk
 exact hF.none (dO.fresh c kr).1
 rcases t4 c al with rfl|rfl|⟨x,M,rfl⟩|⟨x,k,M,hk,kr⟩
 rw[Z];simp
 obtain⟨es,cl,e,_⟩:=hm
 rw[e];simp
 obtain⟨es,cl,e,_⟩:=(I x M).2.1
 rw[e];simp
 obtain⟨_,u,u',hF,dO,pa,_⟩:=(I x M).2.2.2.2.2 k hk
 obtain⟨z,ab⟩:=e3.1 (dO.fresh c kr).2
 rw[pa c z ab kr];simp
 exact((I c lH).2.2.2.2.2 k hk).1
end
end gO
section
variable{u:H}{n:N}{l L:J av}{K:o->H->Prop}{f:H->Prop}{a b dim:o}{q:J o}{rest:J cp}
def mj(k:o):ay (o×o×o):=if k=1 then some (0,0,0) else if k=2∨k=3∨k=4 then some (64,0,0) else if k=5 then some (64,8,16) else if k=6 then some (16,0,0) else none
abbrev ow(n m:o):Prop:=n<=m/\(if m<1 then m else 1)<=n
def rB(k s p c:o):o:=match mj k with
 |none=>120|some x=>if ow s x.1/\ow p x.2.1/\ow c x.2.2 then 0 else 121
def ayC{c x:o}(bG:0<=x)(dy:x<3)(h0:x=0->K a u)(h1:x=1->K b u)(h2:x=2->K c u):c4 aH (Instr.index 164 (.agg #[.int .i64 a,.int .i64 b,.int .i64 c]) (.int .i64 x)) [.one (.int .i64)] u K:=by
 have h:∀(y:o),(∀w:b6,(Instr.index 164 (.agg #[.int .i64 a,.int .i64 b,.int .i64 c]) (.int .i64 x)).run aH w=.ok (.int .i64 y) w)->K y u->c4 aH (Instr.index 164 (.agg #[.int .i64 a,.int .i64 b,.int .i64 c]) (.int .i64 x)) [.one (.int .i64)] u K:=λy O aq=>c4.C3 (c:=.int .i64) y (λw _=>O w) aq;obtain rfl|rfl|rfl:x=0∨x=1∨x=2:=by omega
 exact h a (λw=>by kernel_rfl) (h0 rfl);exact h b (λw=>by kernel_rfl) (h1 rfl);exact h c (λw=>by kernel_rfl) (h2 rfl)
def ab5{c y:o}(h:u n=some (.cells #[.int .i64 a,.int .i64 b,.int .i64 c] 164 (0,0)))(ac:f (u.ins n (.cells #[.int .i64 y,.int .i64 b,.int .i64 c] 164 (0,0)))):H.aN u (ep (cr n 0 none) 0) [.int .i64 y] f:=
 ⟨_,_,h,rfl,by simp[iC],by simp[cF],ac⟩
def aAp{c x y Y:o}(h:u n=some (.cells #[.int .i64 a,.int .i64 b,.int .i64 c] 164 (0,0)))(ac:f (u.ins n (.cells #[.int .i64 x,.int .i64 y,.int .i64 Y] 164 (0,0)))):H.aN u (cr n 0 none) [.int .i64 x,.int .i64 y,.int .i64 Y] f:=
 ⟨_,_,h,rfl,by simp,by simp[cF],by
  have e:wr #[cG .i64 a,.int .i64 b,.int .i64 c] 0 [.int .i64 x,.int .i64 y,.int .i64 Y]=#[.int .i64 x,.int .i64 y,.int .i64 Y]:=by simp[wr]
  rw[e];exact ac⟩
def azc{k s p c:o}(h:∀u',u.le u'->K (rB k s p c) u'):Uy k s p c u K:=by
 apply aBK;intro n0 eT;refine mG (zs:=[.int .i64 0,.int .i64 0,.int .i64 0]) rfl (by simp[cF]) ?_;obtain⟨aS,gI⟩:∃aS,aS=u.ins n0 (.cells [cG .i64 64,.int .i64 0,.int .i64 0].toArray 164 (0,0)):=⟨_,rfl⟩;rw[<-gI];have d0:aS n0=some (.cells #[.int .i64 64,.int .i64 0,.int .i64 0] 164 (0,0)):=by rw[gI];exact bf _ _ _
 have eZ:u.le aS:=by rw[gI];exact bW _ eT
 have Sz:∀z,u.le (aS.ins n0 z):=λz c x I=>by rw[bm _ _ (λe=>by rw[e,eT] at I;cases I)];exact eZ c x I
 intro nx h2;have fin:∀(a b d:o) (w:H),u.le w->w n0=some (.cells #[.int .i64 a,.int .i64 b,.int .i64 d] 164 (0,0))->mj k=some (a,b,d)->∀y,nx y w:=by intro a b d w hw I Z y;have key:∀Y,rB k s p c=Y->K Y w:=λY e=>e▸h w hw;have bad:¬(ow s a/\ow p b/\ow c d)->K 121 w:=λae=>key 121 (by unfold rB;rw[Z];exact az ae);apply h2;refine⟨λ_ x v=>v=w/\0<=x/\x<=3/\(0<x->ow s a)/\(1<x->ow p b)/\(2<x->ow c d),λ_ x _=>(3-x).toNat,⟨rfl,by omega,by omega,λe=>a6 e (by omega),λe=>a6 e (by omega),λe=>a6 e (by omega)⟩,?_⟩;rintro Y x v ⟨rfl,bG,dy,g0,g1,g2⟩;refine⟨λM=>ayC bG M (λe=>?_) (λe=>?_) (λe=>?_),λM=>key 0 (by unfold rB;rw[Z];exact aV ⟨g0 (by omega),g1 (by omega),g2 (by omega)⟩)⟩;subst e;refine⟨by decide,⟨by omega,by omega⟩,a,a1 I 0,λe=>bad λhk=>by have:=hk.1.1;omega,λe=>⟨by decide,⟨by omega,by omega⟩,a,a1 I 0,λaC=>bad λhk=>a6 hk.1.2 (by omega),λaC=>⟨⟨by omega,by omega⟩,⟨rfl,by omega,by omega,λ_=>⟨by omega,by omega⟩,λe=>a6 e (by omega),λe=>a6 e (by omega)⟩,by dsimp only;omega⟩⟩⟩;subst e;refine⟨by decide,⟨by omega,by omega⟩,b,a1 I 1,λe=>bad λhk=>by have:=hk.2.1.1;omega,λe=>⟨by decide,⟨by omega,by omega⟩,b,a1 I 1,λaC=>bad λhk=>a6 hk.2.1.2 (by omega),λaC=>⟨⟨by omega,by omega⟩,⟨rfl,by omega,by omega,λ_=>g0 (by omega),λ_=>⟨by omega,by omega⟩,λe=>a6 e (by omega)⟩,by dsimp only;omega⟩⟩⟩;subst e;refine⟨by decide,⟨by omega,by omega⟩,d,a1 I 2,λe=>bad λhk=>by have:=hk.2.2.1;omega,λe=>⟨by decide,⟨by omega,by omega⟩,d,a1 I 2,λaC=>bad λhk=>a6 hk.2.2.2 (by omega),λaC=>⟨⟨by omega,by omega⟩,⟨rfl,by omega,by omega,λ_=>g0 (by omega),λ_=>g1 (by omega),λ_=>⟨by omega,by omega⟩⟩,by dsimp only;omega⟩⟩⟩
 have gf:k=1->mj k=some (0,0,0):=λe=>by unfold mj;rw[aV e]
 have gP:k=2∨k=3∨k=4->mj k=some (64,0,0):=λe=>by unfold mj;rw[az (by omega),aV e]
 refine⟨λe=>⟨by decide,⟨by omega,by omega⟩,ab5 d0 (fin 0 0 0 _ (Sz _) (bf _ _ _) (gf e) _)⟩,λaP Kt QR=>?_⟩;have go:∀dD:aI,(dD=ak↔(k=2∨k=3))->Kt dD aS:=λdD oP=>QR _ _ ⟨λe=>fin 64 0 0 _ eZ d0 (gP (by have:=oP.1 e;omega)) _,λe=>?_⟩;exact⟨λe=>go ak ⟨λ_=>.inl e,λ_=>rfl⟩,λe=>go _ ⟨λh3=>.inr (uI h3),λh3=>lP (by omega)⟩⟩;have ae:¬(k=2∨k=3):=λh3=>by rw[oP.2 h3] at e;cases e
 refine⟨λff=>⟨by decide,⟨by omega,by omega⟩,ab5 d0 (fin 64 0 0 _ (Sz _) (bf _ _ _) (gP (by omega)) _)⟩,λff=>⟨λeX=>aAp d0 (fin 64 8 16 _ (Sz _) (bf _ _ _) ?_ _),λeX=>⟨λlp=>⟨by decide,⟨by omega,by omega⟩,ab5 d0 (fin 16 0 0 _ (Sz _) (bf _ _ _) ?_ _)⟩,λlp=>?_⟩⟩⟩;unfold mj;rw[az aP,az (by omega),aV eX];unfold mj;rw[az aP,az (by omega),az eX,aV lp];have:rB k s p c=120:=by unfold rB mj;rw[az aP,az (by omega),az eX,az lp]
 exact this▸h aS eZ
structure aT where
 k:o
 s:o
 p:o
 c:o
 dN:N
 X:cD
abbrev su(k s p c:o)(v:ao):Obj:=.cells #[.int .i64 k,.int .i64 s,.int .i64 p,.int .i64 c,v] 81 (0,0)
def aT.obj(T:aT):Obj:=su T.k T.s T.p T.c (T.X.iface T.dN)
structure ek(ai u:H)(D:N->Prop)(b:N)(X:aT):Prop where
 ex:∃km,(∀c,D c↔c=b∨km c)/\¬km b/\ai b=none/\u b=some X.obj/\X.X.ek ai u km X.dN
def pt(l:J av)(dim k s p c:o):o:=if rB k s p c≠0 then rB k s p c else if lz l dim≠0 then lz l dim else if k=5/\nh dim p≠0 then 100 else 0
def alG{k s p c:o}(h:rB k s p c=0):k=1∨((k=2∨k=3∨k=4)/\1<=s/\s<=64)∨(k=5/\1<=p/\p<=8/\1<=c/\c<=16)∨(k=6/\1<=s/\s<=16):=by
 unfold rB mj at h;by_cases h1:k=1;exact .inl h1;rw[az h1] at h;have one:∀{n m:o},1<=m->ow n m->1<=n/\n<=m:=λ{n m} hm hk=>by obtain⟨a,b⟩:=hk;rw[az (by omega)] at b;exact⟨b,a⟩
 by_cases h2:k=2∨k=3∨k=4;rw[aV h2] at h;dsimp only at h;split at h;rename_i hk;exact .inr (.inl ⟨h2,one (by decide) hk.1⟩);cases h;rw[az h2] at h;by_cases bE:k=5;rw[aV bE] at h;dsimp only at h;split at h;rename_i hk;obtain⟨a,b⟩:=one (by decide) hk.2.1;obtain⟨c,d⟩:=one (by decide) hk.2.2;exact .inr (.inr (.inl ⟨bE,a,b,c,d⟩));cases h;rw[az bE] at h;by_cases fO:k=6;rw[aV fO] at h;dsimp only at h;split at h;rename_i hk;exact .inr (.inr (.inr ⟨fO,one (by decide) hk.1⟩));cases h;rw[az fO] at h;cases h
def cD.afl{T:gO.aT}{oH:cD}(h:oH.fb=(cD.cW T).fb):oH.eR=0:=by
 rw[cD.GM] at h;cases oH with
 |nN X=>change (113:N)=_ at h;split at h<;>exact a6 h (by decide)|aZ X=>change (116:N)=_ at h;split at h<;>exact a6 h (by decide)|mZ X=>rfl|ae X=>rfl|cW X=>rfl
def ab6{k s p c:o}{v w:ao}(h:u n=some (su k s p c v))(aA:w.oneCell'=ak)(ac:f (u.ins n (su k s p c w))):H.aN u (ep (cr n 0 none) 4) [w] f:=
 ⟨_,_,h,rfl,by simp[iC],by simp[aA],ac⟩
def aAq{m hD:N}{d:o}{a b:ay ba}(h:u n=some (.cells #[.int .i64 d,.map (some m),.pointer a,.map (some hD)] 132 (0,0)))(ac:f (u.ins n (.cells #[.int .i64 d,.map (some m),.pointer b,.map (some hD)] 132 (0,0)))):H.aN u (ep (cr n 0 none) 2) [.pointer b] f:=
 ⟨_,_,h,rfl,by simp[iC],by simp[cF],ac⟩
def yV{A:H}{x y:N}{z:Obj}(M:A x=none)(ah:A y=some z):x≠y:=λe=>by rw[e,ah] at M;cases M
def awi(b1:gX l dim){r:av}(O:l[n]?=some r){P:J (o×J o)}(ew:P.Perm ((l.take n).map av.bi)):r.id∉P.map (·.1)/\fr r.id r.v dim (decide (r.id∈P.map (·.1))) P.length=0:=by
 obtain⟨bC,he⟩:=ir.1 O;have fQ:r∈l:=du O;have tZ:l.take n++r::l.drop (n+1)=l:=by have:=r6 n l;rw[s9 bC,he] at this;exact this
 have bY:=b1.nodup;rw[<-tZ,dY,gl,gb] at bY;have oj:r.id∉P.map (·.1):=λhm=>by have h1:=(ew.map (·.1)).mem_iff.1 hm;rw[ez] at h1;exact bY.2.2 r.id h1 r.id (gh ..) rfl
 have hlen:=ew.length_eq;rw[dg,gL] at hlen;have ar:=b1.len;have hi:=b1.id r fQ;obtain⟨v1,v2⟩:=b1.v r fQ;have aw:=b1.dim;have aA:gn r.v dim=0:=by rw[<-v1];exact y3 v2 (by omega)
 refine⟨oj,?_⟩;unfold fr;rw[az (by omega),az (by simpa using aA),az (λh=>by omega)]
def aAX{r:av}(O:l[n]?=some r){P Q:J (o×J o)}(ew:P.Perm ((l.take n).map av.bi))(oj:r.id∉P.map (·.1))(e6:Q.Perm ((r.id,r.v)::P.filter λx=>x.1 !=r.id)):Q.Perm ((l.take (n+1)).map av.bi):=by
 have ac:P.filter (λx=>x.1 !=r.id)=P:=pS.2 λq aO=>by have:q.1≠r.id:=λe=>oj (bk.2 ⟨q,aO,e⟩);simpa using this
 rw[ac] at e6;rw[gT,O,dY];exact e6.trans ((iL _ ew).trans (l5 _ _).symm)
def ay5{s:U}{k hr p c seed:o}{K:ay ba->o->H->Prop}(ag:dS u s l)(ka:eA.lD u)(MT:dn seed)
  (dx:pt l dim k hr p c≠0->∀u',u.le u'->K none (pt l dim k hr p c) u')
  (bH:pt l dim k hr p c=0->∀b D X u',ek u u' D b X->X.X.rows.Perm (l.map av.bi)->X.X.dim=dim->X.k=k->X.s=hr->X.p=p->X.c=c->X.X.eR=0->K (some ⟨b,0,none⟩) 0 u'):Ur k hr p c dim s seed u K:=by
 have bad:∀Y u',u.le u'->pt l dim k hr p c=Y->Y≠0->K none Y u':=λY u' hu e aB=>by subst e;exact dx aB u' hu
 apply aBy
 refine azc λaS eZ=>⟨λal=>bad _ aS eZ (by unfold pt;rw[aV al]) al,λFh=>?_⟩
 have eb:=ag.mono eZ
 have afZ:=ka.mono eZ
 refine JT eb ⟨λal=>bad _ aS eZ (by unfold pt;rw[az (by simpa using Fh),aV al]) al,λoX=>?_⟩
 have b1:=Dj.1 oX
 have dw:=ag.len
 have HM:=b1.len
 have W9:=b1.dim
 intro Kv a7
 have aFU:=alG Fh
 have base:pt l dim k hr p c=if k=5/\nh dim p≠0 then 100 else 0:=by unfold pt;rw[az (by simpa using Fh),az (by simpa using oX)]
 have main:(k=5->nh dim p=0)->∀y Y,Kv y Y aS:=by
  intro hdiv y Y;have bH:=bH (by rw[base,az (λh=>h.2 (hdiv h.1))]);apply a7;intro n8 nH BM mq;obtain⟨B,eg⟩:∃B,B=aS.ins n8 (su k hr p c .nilIface):=⟨_,rfl⟩;rw[<-eg];have CW:aS.le B:=by rw[eg];exact bW _ nH
  have J9:B n8=some (su k hr p c .nilIface):=by rw[eg];exact bf _ _ _
  have o1:u n8=none:=eZ.none nH;have R1:=eb.mono CW;have Tr:¬lz l dim≠0:=by simpa using oX
  have fin:∀(X:cD) (dN:N) (km:N->Prop) (v:H),X.ek B v km dN->X.rows.Perm (l.map av.bi)->X.dim=dim->X.eR=0->H.aN v (ep (cr n8 0 none) 4) [X.iface dN] λw=>BM 0 w:=by
   intro X dN km v qi O aw W;have Pe:=(cD.base qi).1 _ _ J9;have afG:¬km n8:=λe=>by have:=(cD.base qi).2.1 n8 e;rw[J9] at this;cases this
   refine ab6 Pe (by simp[cD.iface,cF]) (mq 0 _ ⟨λM=>a6 rfl M,λ_=>?_⟩);obtain⟨w,hw⟩:∃w,w=v.ins n8 (su k hr p c (X.iface dN)):=⟨_,rfl⟩;rw[<-hw];have kw:∀x z,v x=some z->x≠n8->w x=some z:=λx z M al=>by rw[hw,bm _ _ al];exact M
   have lw:u.le w:=λx z M=>kw x z ((cD.base qi).1 x z (CW x z (eZ x z M))) λe=>by rw[e,o1] at M;cases M
   exact bH n8 _ ⟨k,hr,p,c,dN,X⟩ w ⟨km,λ_=>A0,afG,o1,by rw[hw];exact bf _ _ _,cD.same (cD.l6 qi (eZ.trans CW)) (λx z M aw=>kw x z M λe=>afG (by rw[<-e];exact aw)) lw⟩ O aw rfl rfl rfl rfl W
  refine⟨λe=>kE.OO R1 (λal=>a6 (by unfold kE.ib;rw[az Tr,az (by omega)]) al) λ_ v dN af T O=>fin (.nN T) dN _ v (sV O.is O.ok) O.rows O.dim O.eR,λeN=>?_⟩;refine⟨λe=>lE.OO R1 (λal=>a6 (by unfold lE.ib;rw[az Tr,az (by omega)]) al) λ_ v dN af T O=>fin (.aZ T) dN _ v (sV O.is O.ok) O.rows O.dim O.eR,λmz=>?_⟩;refine⟨λe=>jm.OO R1 (λal=>a6 (by unfold jm.ib;rw[az Tr,az (by omega)]) al) λ_ v dN af T O=>fin (.mZ T) dN _ v (sV O.is O.ok) O.rows O.dim rfl,λe9=>?_⟩;refine⟨λe=>eA.ak5 R1 (afZ.mono CW) MT (λal=>a6 (by unfold eA.wA;rw[az Tr,az (by omega)]) al) λ_ dN af T v O=>fin (.ae T) dN _ v (sV (eA.toG O.is) O.ok) O.rows O.dim rfl,λn6=>?_⟩;refine GC λm C1 hm im=>?_;obtain⟨bN,hB⟩:∃bN,bN=B.ins m C1:=⟨_,rfl⟩;rw[<-hB] at im ⊢;have St:B.le bN:=by rw[hB];exact bW _ hm
  have anV:bN m=some C1:=by rw[hB];exact bf _ _ _
  intro n30 RO;refine mG (zs:=[.int .i64 0,.map none]) rfl (by simp[cF]) ?_;obtain⟨Hd,Ez⟩:∃Hd,Hd=bN.ins n30 (.cells [cG .i64 dim,.map (some m)].toArray 127 (0,0)):=⟨_,rfl⟩;rw[<-Ez];have ZY:bN.le Hd:=by rw[Ez];exact bW _ RO
  have adK:Hd n30=some (.cells #[.int .i64 dim,.map (some m)] 127 (0,0)):=by rw[Ez];exact bf _ _ _
  have m8:m≠n8:=yV hm J9;have u0:n30≠n8:=yV RO (St _ _ J9);have tv:n30≠m:=yV RO anV;refine ab6 (ZY _ _ (St _ _ J9)) (by simp[cF]) ?_;obtain⟨wy,EA⟩:∃wy,wy=Hd.ins n8 (su k hr p c (.iface 128 (.pointer (some ⟨n30,0,none⟩)))):=⟨_,rfl⟩;rw[<-EA];have c0:∀x z,Hd x=some z->x≠n8->wy x=some z:=λx z M al=>by rw[EA,bm _ _ al];exact M
  have P8:wy n8=some (su k hr p c (.iface 128 (.pointer (some ⟨n30,0,none⟩)))):=by rw[EA];exact bf _ _ _
  have Sp:aS.le wy:=λx z M=>c0 x z (ZY x z (St x z (CW x z M))) λe=>by rw[e,nH] at M;cases M
  have amd:aS m=none:=CW.none hm;have aBd:aS n30=none:=(CW.trans St).none RO;have Z8:fs wy m []:=im.else λz ab=>c0 m z (ZY m z ab) m8;intro Vx Eu;have loop:∀(T:gO.aT) (dN:N) (km:N->Prop) (v:H),(cD.cW T).ek aS v km dN->¬km n8->v n8=some (su k hr p c ((cD.cW T).iface dN))->T.w=[]->T.dim=dim->Vx v:=by
   intro T dN km v qi eM aA lY Cp;refine Eu v ⟨λx w=>0<=x/\x<=l.length/\∃(p7:N->Prop) (oH:cD),oH.ek aS w p7 dN/\¬p7 n8/\w n8=some (su k hr p c (oH.iface dN))/\oH.rows.Perm ((l.take x.toNat).map av.bi)/\oH.dim=dim/\oH.fb=(cD.cW T).fb,λx _=>l.length-x.toNat,⟨by omega,by omega,km,.cW T,qi,eM,aA,?_,Cp,rfl⟩,?_⟩;show(gO.bb T).Perm _;unfold gO.bb;rw[lY];exact Gl _;rintro x w ⟨bG,dy,p7,oH,Xl,z8,Se,Rf,Xm,Xn⟩;have Ix:dS w s l:=eb.mono (cD.base Xl).1;refine⟨λM=>?_,λgr=>?_⟩;obtain⟨q,aO,r,O,bK,c1,apd⟩:=Ix.at bG M;have fQ:r∈l:=du O;refine⟨q,aO,⟨bG,M⟩,r.id,bK,r.s,c1,oH.iface dN,a1 Se 4,?_⟩;obtain⟨oj,Ig⟩:=awi b1 O Rf;rw[<-Xm] at Ig;refine cD.Dx Xl (by rw[cD.afl Xn];omega) afZ apd (.inr (eb.2 r fQ)) (λal=>a6 Ig al) λ_ u' iv adP arP ht arR arQ af4 _=>⟨⟨by omega,by omega⟩,⟨by omega,by omega,iv,adP,arP,λe=>(ht.grow n8 e).elim z8 λaC=>(by rw[Se] at aC;cases aC),?_,?_,by rw[arQ];exact Xm,by rw[af4];exact Xn⟩,by dsimp only;omega⟩;rw[show adP.iface dN=oH.iface dN by unfold cD.iface;rw[af4]];exact ht.bM _ _ Se z8;rw[show(x+1).toNat=x.toNat+1 by omega];exact aAX O Rf oj arR;have eO:x.toNat=l.length:=by have:¬x<(s.n:o):=gr;omega
   rw[eO,ni] at Rf;exact mq 0 w ⟨λe=>a6 rfl e,λ_=>bH n8 _ ⟨k,hr,p,c,dN,oH⟩ w ⟨p7,λ_=>A0,z8,o1,Se,cD.l6 Xl eZ⟩ Rf Xm rfl rfl rfl rfl (cD.afl Xn)⟩
  refine⟨λeX=>?_,λ_=>?_⟩
  ·
   obtain⟨hF,dO,c1,c2⟩:1<=p/\p<=8/\1<=c/\c<=16:=by omega
   have adL:wy n30=some (.cells #[.int .i64 dim,.map (some m)] 127 (0,0)):=c0 _ _ adK u0;refine⟨dim,a1 adL 0,_,a1 adL 1,GC λhD ajr RM ahh=>?_⟩;obtain⟨He,Xj⟩:∃He,He=wy.ins hD ajr:=⟨_,rfl⟩;rw[<-Xj] at ahh ⊢;have nO:wy.le He:=by rw[Xj];exact bW _ RM
   have adM:He hD=some ajr:=by rw[Xj];exact bf _ _ _
   obtain⟨aGp,Yv⟩:∃z,wy m=some z:=by obtain⟨es,cl,e,_⟩:=Z8;exact⟨_,e⟩
   intro n50 Mo;obtain⟨Kz,Xk⟩:∃Kz,Kz=He.ins n50 (.cells #[.int .i64 dim,.map (some m),.pointer none,.map (some hD)] 132 (0,0)):=⟨_,rfl⟩;rw[<-Xk];have vA:He.le Kz:=by rw[Xk];exact bW _ Mo
   have anU:Kz n50=some (.cells #[.int .i64 dim,.map (some m),.pointer none,.map (some hD)] 132 (0,0)):=by rw[Xk];exact bf _ _ _
   have aem:hD≠n8:=yV RM P8;have V2:hD≠m:=yV RM Yv;have d8:n50≠n8:=yV Mo (nO _ _ P8);have hs:n50≠m:=yV Mo (nO _ _ Yv);have aex:n50≠hD:=yV Mo adM;have FH:=nO.trans vA;have AM:=Sp.trans FH;have aBe:aS hD=none:=Sp.none RM;have amc:aS n50=none:=(Sp.trans nO).none Mo;refine zo (eb.mono AM) b1.id (by omega) (λr O=>by have:=(b1.v r O).1;omega) λGw ls adN W8 hP _=>?_;have yR:=W8.own.le;have Yb:ls.length=l.length:=by have:=hP.length_eq;simpa using this
   have lI:∀r∈ls,(r.v.length:o)=dim/\db r.v:=λr O=>by obtain⟨ch,cq,e⟩:=bk.1 (hP.mem_iff.1 (bk.2 ⟨r,O,rfl⟩));have:ch.v=r.v:=dV pR e;rw[<-this];exact b1.v ch cq
   have aFf:=W8.rws.len;refine⟨λJM x w=>0<=x/\x<=ls.length/\aD adN w 30 1 JM (((ls.take x.toNat).map λr=>(r.s,r.v)).flatMap λy=>encS y.1),λ_ x _=>ls.length-x.toNat,⟨by omega,by omega,aD.nil (H.le.refl adN) _ _⟩,?_⟩;rintro JM x w ⟨bG,dy,ab⟩;have rM:=W8.rws.mono ab.le;have aqG:JM.n=((ls.take x.toNat).map λr=>(r.s,r.v)).length:=gY u5 (by decide) ab.own.cC;rw[dg,gL] at aqG;refine⟨λM=>?_,λgr=>?_⟩;obtain⟨q,aO,r,O,jZ,cx,_⟩:=rM.at bG M;refine⟨q,aO,⟨bG,M⟩,r.id,jZ,r.s,cx,?_⟩;refine np TZ (jm.Qj r.s) (by decide) rfl (by simp[cF]) ab (by show JM.n<_;omega) (by show(JM.n+1)*_<=_;omega) λap u' bQ hJ _ _ _=>⟨⟨by omega,by omega⟩,⟨by omega,by omega,?_⟩,by dsimp only;omega⟩;rw[show(x+1).toNat=x.toNat+1 by omega,gT,O,dY,gU];exact bQ
   .have eO:x.toNat=ls.length:=by
     have:¬x<(Gw.n:o):=gr
     omega
    rw[eO,ni] at ab
    have yQ:=yR.trans ab.le
    have Uh:w n8=some (su k hr p c (.iface 128 (.pointer (some ⟨n30,0,none⟩)))):=yQ _ _ (FH _ _ P8)
    have Uj:=yQ _ _ anU
    have last:∀(co:ay gO.tn) (v:H),v n8=some (su k hr p c (.iface 128 (.pointer (some ⟨n30,0,none⟩))))->v n50=some (.cells #[.int .i64 dim,.map (some m),.pointer (gO.pq.ptr ⟨hD,[],co⟩),.map (some hD)] 132 (0,0))->(∀x z,Kz x=some z->x≠n50->v x=some z)->
      (∀dG,co=some dG->gO.DK dim dG.eK/\∃u',gO.DU w u' dim dG/\∀x z,u' x=some z->x≠n50->v x=some z)->H.aN v (ep (cr n8 0 none) 4) [.iface 129 (.pointer (some ⟨n50,0,none⟩))] λY=>Vx Y:=by
     intro co v Pe qK acC sH
     refine ab6 Pe (by simp[cF]) ?_
     obtain⟨Y,aB⟩:∃Y,Y=v.ins n8 (su k hr p c (.iface 129 (.pointer (some ⟨n50,0,none⟩)))):=⟨_,rfl⟩
     rw[<-aB]
     have K3:∀x z,v x=some z->x≠n8->Y x=some z:=λx z M al=>by rw[aB,bm _ _ al];exact M
     have aEK:Y n8=some (su k hr p c (.iface 129 (.pointer (some ⟨n50,0,none⟩)))):=by rw[aB];exact bf _ _ _
     have apD:aS.le Y:=λx z M=>K3 x z (acC x z (AM x z M) λe=>by rw[e,amc] at M;cases M) λe=>by rw[e,nH] at M;cases M
     obtain⟨D,eM,HG⟩:=gO.start (cd:=some ⟨hD,[],co⟩) apD (K3 _ _ qK d8) (Z8.else λz ab=>K3 m z (acC m z (FH m z ab) (dv hs)) m8) hs amc amd W9 λmS c7=>by obtain rfl:=cO c7;refine⟨rfl,ahh.else λz ab=>K3 hD z (acC hD z (vA hD z ab) (dv aex)) aem,V2,dv aex,aBe,λdG Ag=>?_⟩;obtain⟨cT,u',da,dm⟩:=sH dG Ag;refine⟨cT,w,u',AM.trans yQ,da,λx z M Z=>?_,by rw[Uj];simp,?_,?_⟩;have aip:=(da.fresh x Z).1;exact K3 x z (dm x z M (yV aip Uj)) (yV aip Uh);rw[yQ _ _ (FH _ _ Yv)];simp;rw[yQ _ _ (vA _ _ adM)];simp
     refine loop ⟨dim,m,[],some ⟨hD,[],co⟩⟩ n50 D Y eM (λe=>?_) (by rw[cD.IE (c:=⟨hD,[],co⟩) rfl];exact aEK) rfl rfl
     rcases HG n8 e with e|e|⟨nt,fF,e⟩|⟨nt,dG,fF,hk,Z⟩
     exact d8 e.symm
     exact m8 e.symm
     obtain rfl:=cO fF
     exact aem e.symm
     obtain rfl:=cO fF
     obtain⟨_,u',da,_⟩:=sH dG hk
     have:=(da.fresh n8 Z).1
     rw[Uh] at this;cases this
    refine⟨λI=>?_,λ_=>last none w Uh Uj (λx z M _=>yQ x z M) λ_ e=>(by cases e)⟩
    have Cl:mh w JM (ls.map λr=>(r.s,r.v)):=⟨ab.own.cC,λy ah=>by obtain⟨r,O,rfl⟩:=bk.1 ah;exact rM.2 r O⟩
    refine gO.azC Cl (λy ah=>?_) W9 ⟨hF,dO⟩ (hdiv eX) ⟨c1,c2⟩ (by rw[dg];omega) (by rw[dg];omega) (by decide) λT7 dG hO aqQ=>?_
    obtain⟨r,O,rfl⟩:=bk.1 ah
    exact lI r O
    have aoV:=hO.le _ _ Uj
    refine aAq aoV ?_
    obtain⟨T8,Zd⟩:∃T8,T8=T7.ins n50 (.cells #[.int .i64 dim,.map (some m),.pointer (some ⟨dG.b,0,none⟩),.map (some hD)] 132 (0,0)):=⟨_,rfl⟩
    rw[<-Zd]
    have Wf:∀x z,T7 x=some z->x≠n50->T8 x=some z:=λx z M al=>by rw[Zd,bm _ _ al];exact M
    refine last (some dG) T8 (Wf _ _ (hO.le _ _ Uh) (dv d8)) (by rw[Zd];exact bf _ _ _) (λx z M al=>Wf x z (hO.le x z (yQ x z M)) al) λdQ de=>?_
    obtain rfl:=cO de
    exact⟨aqQ,T7,hO,Wf⟩
  obtain⟨D,eM,HG⟩:=gO.start (cd:=none) Sp (c0 _ _ adK u0) Z8 tv aBd amd W9 λ_ e=>by cases e
  refine loop ⟨dim,m,[],none⟩ n30 D wy eM (λe=>?_) (by rw[cD.IF rfl];exact P8) rfl rfl;rcases HG n8 e with e|e|⟨_,e,_⟩|⟨_,_,e,_⟩;exact u0 e.symm;exact m8 e.symm;cases e;cases e
 exact⟨λeX=>⟨by omega,λal=>bad 100 aS eZ (by rw[base,aV ⟨eX,al⟩]) (by decide),λhe=>main (λ_=>he) _ _⟩,λeX=>main (λe=>a6 e eX) _ _⟩
def sZ{n:o}:ow n 0↔n=0:=by unfold ow;rw[aV (by decide)];omega
def uq{n m:o}(h:1<=m):ow n m↔1<=n/\n<=m:=by unfold ow;rw[az (by omega)];omega
def OR{n m:o}{K:aI->H->Prop}(h:K (decide (1<=n/\n<=m)) u):zy n m u K:=by apply aDK;refine⟨λh1=>?_,λh1=>?_⟩;rw[show decide (1<=n/\n<=m)=decide (n<=m) from Gq.2 (by omega)] at h;exact h;rw[nY (by omega)] at h;exact h
def az9{k s p c:o}(h:K (rB k s p c) u):Vj k s p c u K:=by
 have of:∀{x y Y:o} (b:aI),mj k=some (x,y,Y)->(b=ak↔ow s x/\ow p y/\ow c Y)->rB k s p c=if b=ak then 0 else 121:=λ{x y Y} b Z hi=>by unfold rB;rw[Z];dsimp only;by_cases e:b=ak;rw[aV e,aV (hi.1 e)];rw[az e,az λh=>e (hi.2 h)]
 apply aDJ;intro lA h0;have key:∀gf:aI,(gf=ak↔p=0/\c=0)->lA gf u:=by
  intro gf ii;refine h0 _ _ λKu h3=>?_;have fin:∀{x y Y:o} (b:aI),mj k=some (x,y,Y)->(b=ak↔ow s x/\ow p y/\ow c Y)->∀i,Ku b i u:=λb Z hi i=>by rw[of b Z hi] at h;exact h3 _ _ _ ⟨λae=>by rw[az ae] at h;exact h,λah=>by rw[aV ah] at h;exact h⟩
  have yn:(1:o)<=64:=by decide
  have Et:(1:o)<=16:=by decide
  have mo:(1:o)<=8:=by decide
  have jP:∀{P:Prop},¬P->((ax=ak)↔P):=λh=>⟨λe=>(by cases e),λq=>a6 q h⟩;refine⟨λaP=>?_,λaP Kw kL=>?_⟩;have Z:mj k=some (0,0,0):=by unfold mj;rw[aV aP]
  exact⟨λs0=>fin gf Z (by rw[ii,sZ,sZ,sZ];omega) 0,λs0=>fin ax Z (jP (by rw[sZ,sZ,sZ];omega)) 0⟩;have tree:mj k=some (64,0,0)->zy s 64 u λb u'=>((b=ak)->Ku gf 0 u')/\((b=ax)->Ku ax 0 u'):=λZ=>
   OR ⟨λe=>fin gf Z (by rw[ii,sZ,sZ,uq yn];have:=uI e;omega) 0,λe=>fin ax Z (jP (by rw[sZ,sZ,uq yn];have:=Bg e;omega)) 0⟩
  have seven:∀u0:aI,(u0=ak↔k=2∨k=3)->Kw u0 u:=by
   intro u0 LB;refine kL _ _ ⟨λe=>tree ?_,λe=>⟨λff=>tree ?_,λff=>⟨λeX=>?_,λeX=>⟨λlp=>?_,λlp=>?_⟩⟩⟩⟩;unfold mj;rw[az aP,aV (by have:=LB.1 e;omega)];unfold mj;rw[az aP,aV (by omega)];have Z:mj k=some (64,8,16):=by unfold mj;rw[az aP,az (by omega),aV eX]
   refine OR ⟨λs1=>OR ⟨λhF=>OR (fin _ Z ?_ 0),λhF=>fin ax Z (jP ?_) 0⟩,λs1=>fin ax Z (jP ?_) 0⟩;have:=uI s1;have:=uI hF;rw[decide_eq_true_iff,uq yn,uq mo,uq Et];omega;have:=Bg hF;rw[uq yn,uq mo,uq Et];omega;have:=Bg s1;rw[uq yn,uq mo,uq Et];omega;have Z:mj k=some (16,0,0):=by
     unfold mj;rw[az aP,az (by
      intro WG;have:u0=ak∨k=4:=by rw[LB];omega
      rcases this with h|h;rw[h] at e;cases e;exact ff h),az eX,aV lp]
   exact OR ⟨λs1=>fin gf Z (by rw[ii,sZ,sZ,uq Et];have:=uI s1;omega) 0,λs1=>fin ax Z (jP (by rw[sZ,sZ,uq Et];have:=Bg s1;omega)) 0⟩;have Z:mj k=none:=by
     unfold mj;rw[az aP,az (by
      intro WG;have:u0=ak∨k=4:=by rw[LB];omega
      rcases this with h|h;rw[h] at e;cases e;exact ff h),az eX,az lp]
   have:rB k s p c=120:=by unfold rB;rw[Z]
   rw[this] at h;exact h
  exact⟨λe=>seven ak ⟨λ_=>.inl e,λ_=>rfl⟩,λe=>seven _ ⟨λh3=>.inr (uI h3),λh3=>lP (by omega)⟩⟩
 exact⟨λe=>key _ ⟨λh3=>⟨e,uI h3⟩,λh3=>lP h3.2⟩,λe=>key ax ⟨λh3=>(by cases h3),λh3=>a6 h3.1 e⟩⟩
def aAa{k s p c:o}{t:U}(ag:dS u t l)(h:K (pt l dim k s p c) u):Vk k s p c dim t u K:=by have key:∀Y,pt l dim k s p c=Y->K Y u:=λY e=>e▸h;apply aDL;refine az9 λnx h2=>⟨λe=>az6 ag (h2 _ _ λBL bE=>⟨λeX=>⟨λNo=>⟨?_,λal=>bE _ _ (key 100 ?_),λhe=>bE _ _ (key _ ?_)⟩,λNo=>bE _ _ (key _ ?_)⟩,λeX=>bE _ _ (key _ ?_)⟩),λe=>h2 _ _ λBL bE=>⟨λeX=>a6 eX e,λ_=>bE _ _ (key _ ?_)⟩⟩;have:=alG e;omega;unfold pt;rw[az (by simpa using e),az (by simpa using eX),aV ⟨No,al⟩];unfold pt;rw[az (by simpa using e),az (by simpa using eX),az λh=>h.2 he];exact eX.symm;unfold pt;rw[az (by simpa using e),az (by simpa using eX),az λh=>No h.1];exact eX.symm;unfold pt;rw[az (by simpa using e),aV eX];unfold pt;rw[aV e]
def aoy{bw:J av}(h:l.map av.bi=bw.map av.bi):mm l=mm bw/\ml l=ml bw:=by
 have key:∀(f:J o->J o->J o) (l:J av),l.foldl (λacc r=>f acc r.v) (l.headD ⟨0,⟨none,0,0⟩,[]⟩).v=(l.map av.bi).foldl (λacc r=>f acc r.2) ((l.map av.bi).headD (0,[])).2:=λf l=>by rw[List.foldl_map];cases l<;>rfl
 exact⟨by unfold mm;rw[key k8,key k8,h],by unfold ml;rw[key k9,key k9,h]⟩
def axZ{a b c cM zM mS:U}{bw:J av}(h:l.map av.bi=bw.map av.bi):(vX a b c l).map cp.core=(vX cM zM mS bw).map cp.core:=by
 have ar:=ajH h;have he:l=[]↔bw=[]:=by rw[<-Tq,ar,Tq]
 unfold vX;by_cases e:l=[];rw[aV e,aV (he.1 e)];rw[az e,az λgq=>e (he.2 gq)];obtain⟨h1,h2⟩:=aoy h;show[_]=[_];simp only[cp.core,h1,h2];rw[lZ,h,<-lZ]
def Sound.bi{kF:J av}{k:o}{gF:J bP}{seen:J o}(h:Sound L q k gF seen rest)(ad:(L.map av.bi).Perm (kF.map av.bi)):Sound kF q k gF seen rest where
 Dm:=h.Dm
 kl r O:=by obtain⟨h1,h2,h3⟩:=h.kl r O;refine⟨h1,h2,λx M=>?_⟩;obtain⟨w,hw,rfl,b4⟩:=h3 x M;obtain⟨w',kT,e⟩:=bk.1 (ad.mem_iff.1 (hS hw));exact⟨w',kT,dV pd e,by rw[show w'.v=w.v from dV pR e];exact b4⟩
 all:=by rw[lZ];refine h.all.trans ?_;rw[lZ];exact ad.map _
 first m hm ag:=by
  have:∀m:J av,(∀r∈m,r∈kF)->∃qu:J av,(∀r∈qu,r∈L)/\qu.map av.bi=m.map av.bi:=by
   intro m;induction m with
   |nil=>exact λ_=>⟨[],λr O=>(by cases O),rfl⟩
   |cons a m aL=>intro hm;obtain⟨qu,h1,h2⟩:=aL λr O=>hm r (gd _ O);obtain⟨w,hw,e⟩:=bk.1 (ad.mem_iff.2 (hS (hm a (gh ..))));refine⟨w::qu,λr O=>?_,by rw[gl,gl,e,h2]⟩;rcases cE.1 O with rfl|O;exact hw;exact h1 r O
  obtain⟨qu,h1,h2⟩:=this m hm;rw[<-agZ h2];exact h.first qu h1 (by rw[lZ,h2,<-lZ];exact ag)
def Sound.core{k:o}{gF:J bP}{seen:J o}{Gs:J cp}(h:Sound L q k gF seen rest)(e:rest.map cp.core=Gs.map cp.core):Sound L q k gF seen Gs where
 Dm:=h.Dm
 kl ch cq:=by have hm:ch.core∈rest.map cp.core:=e▸hS cq;obtain⟨r,O,I⟩:=bk.1 hm;have c1:r.aG=ch.aG:=dV (λY=>Y.1) I;have c2:r.cH=ch.cH:=dV (λY=>Y.2.1) I;have fM:r.bJ=ch.bJ:=dV (λY=>Y.2.2.1) I;have tw:r.hi=ch.hi:=dV (λY=>Y.2.2.2.1) I;have wC:r.ids=ch.ids:=dV (λY=>Y.2.2.2.2) I;obtain⟨h1,h2,h3⟩:=h.kl r O;refine⟨⟨h1.dim,wC▸h1.ids,wC▸h1.id,by rw[<-c1,<-c2,<-fM,<-tw];exact h1.shape⟩,wC▸h2,λx M=>?_⟩;obtain⟨w,hw,rfl,b4⟩:=h3 x (wC▸M);refine⟨w,hw,rfl,?_⟩;unfold mL at b4 ⊢;rw[<-c1,<-c2,<-fM,<-tw];exact b4
 all:=by
  have key:∀l:J cp,l.flatMap (·.ids)=(l.map cp.core).flatMap (λY=>Y.2.2.2.2):=λl=>by rw[Bf];rfl
  rw[key,<-e,<-key];exact h.all
 first:=h.first
namespace gO
def avL:∀{w:mQ},(w.map (·.1)).Nodup->∀{a b},a∈w->b∈w->a.1=b.1->a=b:=by
 intro w;induction w with
 |nil=>intro _ a b aE;cases aE
 |cons x w aL=>intro ae a b aE Z e;have h:=hK.1 ae;have no:∀{y},y∈w->x.1=y.1->ej:=λah e=>h.1 (bk.2 ⟨_,ah,e.symm⟩);rcases cE.1 aE with h1|h1<;>rcases cE.1 Z with h2|h2;rw[h1,h2];exact(no h2 (h1▸e)).elim;exact(no h1 (h2▸e).symm).elim;exact aL h.2 h1 h2 e
def uJ(w:mQ)(id:o):J o:=((w.find? λe=>e.1==id).map λe=>e.2.2).getD []
def Oo{w:mQ}(ae:(w.map (·.1)).Nodup){e:o×(U×J o)}(he:e∈w):uJ w e.1=e.2.2:=by
 unfold uJ;cases ac:w.find? λx=>x.1==e.1 with
 |none=>exact a6 (JA.1 ac e he) (by simp)|some x=>
  have h1:x.1=e.1:=by simpa using Jl ac
  rw[avL ae (Jk ac) he h1];rfl
def ax8{w:mQ}{id:o}(h:id∉w.map (·.1)):uJ w id=[]:=by unfold uJ;rw[JA.2 λx M=>by simp only[S6];exact λe=>h (e▸hS M)];rfl
def yy(w:mQ)(q:J o)(id:o):bP:=(id,fz (uJ w id) q (uJ w id).length)
def Tw(eK:J (U×J (U×J o)))(q:J o)(n i:N):J o:=(((eK[i]?).map (·.2)).getD []).map λy=>fz (s4 q n i) y.2 n
def Bs(eK:J (U×J (U×J o)))(q:J o):J (J o):=(ox eK.length).map (Tw eK q (q.length/eK.length))
def Bp(cW:J (J o))(code:J o):N->o
 |0=>0|i+1=>Bp cW code i+(cW.getD i []).getD (code.getD i 0).toNat 0
def K2(cW:J (J o))(code:J o):o:=open Classical in if cW.length=code.length/\∀i,i<code.length->0<=code.getD i 0/\code.getD i 0<(cW.getD i []).length then Bp cW code code.length else 0
def zX(cd:ay pq)(q:J o)(id:o):o:=match cd with
 |some ⟨_,sf,some k⟩=>K2 (Bs k.eK q) (uJ sf id)|_=>0
def qv(T:aT)(q:J o):J o:=(mF ((dM (T.w.map (·.1))).map λid=>(id,zX T.cd q id))).map (·.1)
def ajt(T:aT)(q:J o):(qv T q).Perm (T.w.map (·.1)):=by unfold qv;refine((v8 _).map _).trans ?_;rw[ez];rw[show((·.1)∘λid:o=>((id,zX T.cd q id):bP))=(λid:o=>id) from rfl,Gg];exact nq _
def td(w:mQ):J av:=(dM (w.map (·.1))).map λid=>⟨id,⟨none,0,0⟩,uJ w id⟩
def akm{w:mQ}(ae:(w.map (·.1)).Nodup):((td w).map av.bi).Perm (w.map λe=>(e.1,e.2.2)):=by unfold td;rw[ez];refine((nq _).map _).trans (aa2 ?_);rw[ez];refine zd λe he=>?_;show(e.1,uJ w e.1)=_;rw[Oo ae he]
def ayc{w:mQ}(ae:(w.map (·.1)).Nodup){ls:J av}(ad:(ls.map av.bi).Perm (w.map λe=>(e.1,e.2.2)))(ag:ls.Pairwise λa b=>a.id<=b.id):ls.map av.bi=(td w).map av.bi:=by
 have hk:(w.map λe=>(e.1,e.2.2)).map (·.1)=w.map (·.1):=by rw[ez];rfl
 refine ajI ?_ ?_ (ad.trans (akm ae).symm);have bY:(ls.map (·.id)).Nodup:=by rw[lZ];exact((ad.map _).nodup_iff).2 (by rw[hk];exact ae)
 rw[N8,ta] at bY;rw[ta];refine(ag.and bY).imp λ{x y} iV=>?_;have:=iV.1;have:=iV.2;show x.id<y.id;omega;unfold td;rw[ez,ta];exact(Dw ae).imp λh=>h
def iW(T:aT)(q:J o)(k aJ:o):J bP:=if T.cd.isSome then eV k.toNat (((qv T q).take aJ.toNat).map (yy T.w q)) else eV k.toNat (((td T.w).take aJ.toNat).map (ia q))
def gk(T:aT)(q:J o)(_k aJ:o):J o:=if T.cd.isSome then dM ((qv T q).take aJ.toNat) else dM (((td T.w).take aJ.toNat).map (·.id))
def jr(T:aT)(q:J o)(_k aJ:o):J (o×o×J o×J o×J o):=
 if T.cd.isSome then if(qv T q).drop aJ.toNat=[] then[] else[(1,0,[],[],dM ((qv T q).drop aJ.toNat))] else(vX ⟨none,0,0⟩ ⟨none,0,0⟩ ⟨none,0,0⟩ ((td T.w).drop aJ.toNat)).map cp.core
def sound{T:aT}(ae:(T.w.map (·.1)).Nodup){k aJ:o}(fV:0<=aJ)(cL:(L.map av.bi).Perm (bb T))(aO:kH L q)(O:rest.map cp.core=jr T q k aJ):
  Sound L q k (iW T q k aJ) (gk T q k aJ) rest/\((gk T q k aJ).length:o)<=aJ/\(((gk T q k aJ).length:o)=aJ∨(gk T q k aJ).length=L.length):=by
 have hk:=na T
 unfold jr at O
 unfold iW gk
 by_cases e:T.cd.isSome=ak
 rw[aV e] at O
 simp only[aV e]
 have ad:=ajt T q
 have aE:(qv T q).take aJ.toNat++(qv T q).drop aJ.toNat=qv T q:=r6 _ _
 have bY:(qv T q).Nodup:=ad.nodup_iff.2 ae
 have Cr:((qv T q).drop aJ.toNat).Nodup:=bY.sublist (N7 _ _)
 have h0:dM ((qv T q).drop aJ.toNat)=[]↔(qv T q).drop aJ.toNat=[]:=by rw[<-Tq,zm,Tq]
 refine alH (R:=dM ((qv T q).drop aJ.toNat)) (by rw[hk];exact ae) cL aO fV ?_ (by rw[gL];omega) (λal=>?_) (Dw Cr) (λr YO=>?_) ?_
 rw[hk]
 refine((nq _).append_left _).trans ?_
 rw[aE]
 exact ad
 rw[gL]
 by_cases hle:aJ.toNat<=(qv T q).length
 omega
 exact a6 (h0.2 (ry (by omega))) al
 obtain⟨x,M,e⟩:=bk.1 (cL.mem_iff.1 (hS YO))
 have aP:x.1=r.id:=dV pd e
 have aC:x.2.2=r.v:=dV pR e
 unfold yy ia
 rw[<-aP,Oo ae M,aC]
 rw[O]
 by_cases aC:(qv T q).drop aJ.toNat=[]
 rw[aV aC,aV (h0.2 aC)]
 rw[az aC,az λh=>aC (h0.1 h)]
 rw[az e] at O
 simp only[az e]
 have ad:((td T.w).map av.bi).Perm (L.map av.bi):=(akm ae).trans cL.symm
 have Is:kH (td T.w) q:=⟨aO.Ug,Dn aO.rows.dim (by have:=ad.length_eq;rw[dg,dg] at this;rw[this];exact aO.rows.len) (by rw[lZ];exact((ad.map (·.1)).nodup_iff).2 (by rw[<-lZ];exact aO.rows.nodup)) λp CE=>by obtain⟨r,O,rfl⟩:=bk.1 (ad.mem_iff.1 CE);exact⟨(aO.rows.id r O).1,(aO.rows.id r O).2,(aO.rows.v r O).1,(aO.rows.v r O).2⟩⟩
 have ag:=aql (k:=k) (b:=aJ) Is ⟨none,0,0⟩ ⟨none,0,0⟩ ⟨none,0,0⟩
 have hlen:(td T.w).length=L.length:=by have:=ad.length_eq;simpa using this
 have qp:(dM (((td T.w).take aJ.toNat).map (·.id))).length=min aJ.toNat L.length:=by rw[zm,dg,gL,hlen]
 refine⟨(Sound.core ag O.symm).bi ad,by rw[qp];omega,by rw[qp];omega⟩
end gO
end
namespace gO
section
variable{cW:J (J o)}{u:H}{s:U}
open lE (ec sD o5 yX iJ B8)
def Ej(d:o):J ao:=[.int .u64 (dk d),.int .u64 (dq d)]
def QA(d:o):(Ej d).length=2:=rfl
def aAQ:j9 aH 359=some (66,2,16,[.int .u64 0,.int .u64 0]):=by kernel_rfl
def aAP:j9 aH 354=some (359,1,24,[.slice none 0 0]):=by kernel_rfl
def aoL(x y:o):kp aH 359 1 #[(0,.agg #[.int .u64 x,.int .u64 y])]=some (66,[.int .u64 x,.int .u64 y]):=by kernel_rfl
def aoK(s:U):kp aH 354 1 #[(0,.slice s.a s.n s.c)]=some (359,[.slice s.a s.n s.c]):=by kernel_rfl
structure x9(u:H)(s:U)(cW:J (J o)):Prop where
 ex:∃ca:J (U×J o),bt u s 1 (ca.flatMap λy=>encS y.1)/\ca.map (·.2)=cW/\∀y∈ca,bt u y.1 2 (y.2.flatMap Ej)
def x9.mono{u':H}(h:x9 u s cW)(k:u.le u'):x9 u' s cW:=by obtain⟨ca,h1,h2,h3⟩:=h.ex;exact⟨ca,h1.mono k,h2,λy ah=>(h3 y ah).mono k⟩
def x9.len(h:x9 u s cW):s.n=cW.length:=by obtain⟨ca,h1,h2,_⟩:=h.ex;rw[<-h2,dg];exact gY u5 (by decide) h1
def x9.at(h:x9 u s cW){x:o}(h0:0<=x)(h1:x<(s.n:o)):∃p,s.a=some p/\∃t:U,u.cell? (p.add (x.toNat*1))=some (.slice t.a t.n t.c)/\bt u t 2 ((cW.getD x.toNat []).flatMap Ej):=by
 have ae:=h.len;obtain⟨ca,s1,s2,nk⟩:=h.ex;have ar:x.toNat<ca.length:=by have:=dV hR s2;rw[dg] at this;omega
 have M:ca[x.toNat]?=some ca[x.toNat]:=cn ar;obtain⟨p,ad,I⟩:=bt.elem u5 (by decide) s1 M;refine⟨p,ad,_,I 0 _ rfl,?_⟩;have:cW.getD x.toNat []=ca[x.toNat].2:=by rw[<-s2,dr,iD,M];rfl
 rw[this];exact nk _ (kk ar)
def ay3{af:N->ay bu}{d:o}{k:tn}{t:U}{q:J o}{K:U->o->H->Prop}(h:si af u d k)(Z:DK d k.eK)(ht:Ints u t q)(aO:gn q d=0)
  (aq:∀s u',u.le u'->x9 u' s (Bs k.eK q)->K s 0 u'):UO (some ⟨k.b,0,none⟩) t u K:=by
 have ae:=h.len
 have hm:=Z.many
 obtain⟨n,b3,nd,dU⟩:=Z.KO
 obtain⟨d1,d2,d3,d4⟩:=oA aO
 have ar:q.length=k.eK.length*n:=by omega
 have hdiv:q.length/k.eK.length=n:=by rw[ar];exact Nat.mul_div_cancel_left n (by omega)
 apply aCU
 refine⟨λe=>(by cases e),λ_=>⟨_,rfl,_,a1 h.cell 0,pX ht ?_⟩⟩
 rw[aO]
 refine⟨λe=>a6 rfl e,λ_=>⟨_,rfl,k.fS,a1 h.cell 1,λs x w=>0<=x/\x<=k.fS.n/\∃ca:J (U×J o),ca.map (·.2)=(ox x.toNat).map (Tw k.eK q n)/\aD u w 359 1 s (ca.flatMap λy=>encS y.1)/\∀y∈ca,aD u w 66 2 y.1 (y.2.flatMap Ej)/\dH s y.1,λ_ x _=>k.fS.n-x.toNat,⟨by omega,by omega,[],rfl,aD.nil (H.le.refl u) _ _,λy ah=>(by cases ah)⟩,?_⟩⟩
 rintro s x w ⟨bG,dy,ca,fh,ab,b4⟩
 have hw:=h.mono ab.le
 have aGb:ca.length=x.toNat:=by have:=dV hR fh;simpa using this
 have dw:s.n=ca.length:=gY u5 (by decide) ab.own.cC
 have Fl:=ht.mono ab.le
 refine⟨λM=>?_,λgr=>?_⟩
 obtain⟨p,ad,c,og,cJ,bK⟩:=hw.at bG M
 have pz:=dU c cJ
 have Cl:=hw.tu c cJ
 have RL:=pz.many
 have oR:=Cl.len
 refine⟨p,ad,⟨bG,M⟩,c.1,bK,λs2 y v=>0<=y/\y<=c.1.n/\aD w v 66 2 s2 (((c.2.take y.toNat).map λY=>fz (s4 q n x.toNat) Y.2 n).flatMap Ej),λ_ y _=>c.1.n-y.toNat,⟨by omega,by omega,aD.nil (H.le.refl w) _ _⟩,?_⟩
 rintro s2 y v ⟨jk,j6,dz⟩
 have aqA:s2.n=(c.2.take y.toNat).length:=by have:=gY QA (by decide) dz.own.cC;rw[dg] at this;exact this
 rw[gL] at aqA
 have aA:=hw.mono dz.le
 refine⟨λah=>?_,λavg=>?_⟩
 obtain⟨dO,fg,Y,aB,Si,KJ,avE⟩:=(Cl.mono dz.le).at jk ah
 refine⟨dO,fg,⟨jk,ah⟩,Y.1,KJ,_,rfl,k.fS,a1 aA.cell 1,?_⟩
 dsimp only
 rw[ae]
 have ahM:=Fl.mono dz.le
 refine abX ahM ar hm.1 b3 (by omega) bG (by omega) λxS rb=>?_
 have pl:=SI ar (i:=x.toNat) (by omega)
 obtain⟨aP,aC⟩:=pz.each Y Si
 refine Bm (rb _ ahM) avE (SJ d4 _ _) (by omega) aC (by omega) λa b DE ub Xp=>?_
 refine np aAQ (aoL a b) (by decide) rfl (by simp[cF]) dz (by show s2.n<_;omega) (by show(s2.n+1)*_<=_;omega) λap u' bQ hJ _ _ _=>⟨⟨by omega,by omega⟩,⟨by omega,by omega,?_⟩,by omega⟩
 rw[show(y+1).toNat=y.toNat+1 by omega,gT,aB,dY,gU]
 obtain⟨fu,dK⟩:=BB DE ub
 rw[Xp,pl] at fu dK
 rw[fu,dK] at bQ
 exact bQ
 have Fx:y.toNat=c.2.length:=by have:¬y<(c.1.n:o):=avg;omega
 rw[Fx,ni] at dz
 have rT:=ab.mono dz.le
 have ac:dH s s2:=λg h1 h2=>by have:=dz.fresh g h2;exact dF ab h1 this
 refine np aAP (aoK s2) (by decide) rfl (by simp[cF]) rT (by show s.n<_;omega) (by show(s.n+1)*_<=_;omega) λap u' bQ hJ he ev _=>⟨⟨by omega,by omega⟩,⟨by omega,by omega,ca++ [(s2,c.2.map λY=>fz (s4 q n x.toNat) Y.2 n)],?_,?_,λY aB=>?_⟩,by dsimp only;omega⟩
 rw[show(x+1).toNat=x.toNat+1 by omega,List.range_succ,dY,dY,fh]
 unfold Tw
 rw[show([x.toNat].map λi=>(((k.eK[i]?).map (·.2)).getD []).map λy=>fz (s4 q n i) y.2 n)=[(((k.eK[x.toNat]?).map (·.2)).getD []).map λy=>fz (s4 q n x.toNat) y.2 n] from rfl,og]
 rfl
 rw[gU];exact bQ
 have key:∀Y:U×J o,aD u v 66 2 Y.1 (Y.2.flatMap Ej)->dH s Y.1->aD u u' 66 2 Y.1 (Y.2.flatMap Ej)/\dH ap Y.1:=λY h1 h2=>⟨aD.else h1 he (λg W=>rT.fresh g W) h2,λg g1 g2=>by rcases ev g g1 with e|e;exact h2 g e g2;exact dF h1 g2 e⟩
 rcases cK.1 aB with aB|aB
 exact key Y ((b4 Y aB).1.mono dz.le) (b4 Y aB).2
 rw[fI.1 aB]
 exact key (s2,_) (dz.weaken ab.le) ac
 have eO:x.toNat=k.eK.length:=by have:¬x<(k.fS.n:o):=gr;omega
 rw[eO] at fh
 refine aq _ _ ab.le ⟨ca,ab.own.cC,?_,λy ah=>(b4 y ah).1.own.cC⟩
 rw[fh]
 unfold Bs
 rw[hdiv]
structure Hb(cW:J (J o)):Prop where
 many:cW.length<=8
 each:∀r∈cW,∀d∈r,0<=d/\d<=64*18446744056529682436
def Hb.get(h:Hb cW)(i j:N):0<=(cW.getD i []).getD j 0/\(cW.getD i []).getD j 0<=64*18446744056529682436:=by
 rw[dr (l:=cW)];cases e:cW[i]? with
 |none=>simp|some r=>
  have O:=du e;simp only[Jg];rw[dr];cases aC:r[j]? with
  |none=>simp|some d=>exact h.each r O d (du aC)
def aAT{d:o}{eK:J (U×J (U×J o))}{q:J o}(Z:DK d eK)(aO:gn q d=0):Hb (Bs eK q):=by
 obtain⟨n,b3,nd,dU⟩:=Z.KO;obtain⟨d1,d2,d3,d4⟩:=oA aO;have hm:=Z.many;have ar:q.length=eK.length*n:=by omega
 have hdiv:q.length/eK.length=n:=by rw[ar];exact Nat.mul_div_cancel_left n (by omega)
 have yn:n<=64:=by have:1*n<=eK.length*n:=r2 _ hm.1;omega
 refine⟨by unfold Bs;rw[dg,List.length_range];omega,λr O y ah=>?_⟩;unfold Bs at O;obtain⟨i,hi,rfl⟩:=bk.1 O;have ea:i<eK.length:=Jm.1 hi;rw[hdiv] at ah;unfold Tw at ah;rw[cn ea] at ah;obtain⟨Y,aB,rfl⟩:=bk.1 ah;obtain⟨aP,aC⟩:=(dU _ (kk ea)).each Y aB;have:=JX (SJ d4 n i) aC n (by rw[SI ar ea];omega) (by omega);have h2:(n:o)*18446744056529682436<=64*18446744056529682436:=by omega
 omega
def aAD(h:Hb cW)(code:J o):∀i:N,0<=Bp cW code i/\Bp cW code i<=i*(64*18446744056529682436):=by
 intro i;induction i with
 |zero=>exact⟨l4 _,l4 _⟩|succ i aL=>have:=h.get i (code.getD i 0).toNat;show 0<=Bp cW code i+_/\Bp cW code i+_<=_;omega
def ay0{t:U}{code:J o}{K:o->o->o->H->Prop}(ag:x9 u s cW)(ht:Ints u t code)(Z:Hb cW)(aq:∀x y e,dn x->dn y->fi x y=K2 cW code->K x y e u):UP s t u K:=by
 have dw:=ag.len;have ah4:=ht.len;have M4:=ht.max;have z0:dn 0:=⟨by decide,by decide⟩;have bad:¬(cW.length=code.length/\∀i,i<code.length->0<=code.getD i 0/\code.getD i 0<(cW.getD i []).length)->K 0 0 101 u:=λh=>aq 0 0 101 z0 z0 (by unfold K2;rw[az h];rfl);apply aCV;refine⟨λal=>bad λh=>al (by omega),λhe=>⟨λ_ x _ _ w=>w=u/\0<=x/\x<=t.n/\∀i:N,(i:o)<x->0<=code.getD i 0/\code.getD i 0<(cW.getD i []).length,λ_ x _ _ _=>t.n-x.toNat,⟨rfl,by omega,by omega,λi hi=>a6 hi (by omega)⟩,?_⟩⟩;rintro _ x _ _ w ⟨rfl,bG,dy,W⟩;refine⟨λM=>?_,λgr=>?_⟩;obtain⟨p,ad,bK⟩:=ht.at bG M;obtain⟨dO,fg,y,Eb,TY⟩:=ag.at bG (by omega);have Fy:=gY QA (by decide) TY;refine⟨p,ad,⟨bG,M⟩,_,bK,λaFS=>bad λh=>?_,λoW=>⟨dO,fg,⟨bG,by omega⟩,y,Eb,λhle=>bad λh=>?_,λbC=>⟨⟨by omega,by omega⟩,⟨rfl,by omega,by omega,λi hi=>?_⟩,by dsimp only;omega⟩⟩⟩;have:=h.2 x.toNat (by omega);omega;have:=h.2 x.toNat (by omega);omega;by_cases e:i=x.toNat;rw[e];omega;exact W i (by omega);have eO:x=code.length:=by have:¬x<(t.n:o):=gr;omega
 have eh:cW.length=code.length/\∀i,i<code.length->0<=code.getD i 0/\code.getD i 0<(cW.getD i []).length:=⟨by omega,λi hi=>W i (by omega)⟩;have e:K2 cW code=Bp cW code code.length:=aV eh;refine⟨λ_ x a b _ _ v=>v=w/\0<=x/\x<=t.n/\dn a/\dn b/\fi a b=Bp cW code x.toNat,λ_ x _ _ _ _ _=>t.n-x.toNat,⟨rfl,by omega,by omega,z0,z0,rfl⟩,?_⟩;rintro _ x a b _ _ v ⟨rfl,bG,dy,DE,ub,hw⟩;refine⟨λM=>?_,λgr=>?_⟩;obtain⟨p,ad,bK⟩:=ht.at bG M;obtain⟨dO,fg,y,Eb,TY⟩:=ag.at bG (by omega);have Fy:=gY QA (by decide) TY;obtain⟨g0,g1⟩:=eh.2 x.toNat (by omega);obtain⟨j,aM⟩:∃j,j=(code.getD x.toNat 0).toNat:=⟨_,rfl⟩;have ku:j<(cW.getD x.toNat []).length:=by omega
 have ag1:(cW.getD x.toNat [])[j]?=some (cW.getD x.toNat [])[j]:=cn ku;obtain⟨pa,q9,fM⟩:=bt.elem QA (by decide) TY ag1;have aw:(cW.getD x.toNat []).getD j 0=(cW.getD x.toNat [])[j]:=by rw[dr,ag1];rfl
 have bH:=Z.get x.toNat j;rw[aw] at bH;have aGa:=aAD Z code x.toNat;have Cy:=Z.many;have aGg:(x.toNat:o)<=8:=by omega
 have aek:=fM 0 _ rfl;rw[Addr.add_zero'] at aek;refine⟨p,ad,⟨bG,M⟩,_,bK,dO,fg,⟨bG,by omega⟩,y,Eb,pa,q9,⟨g0,by omega⟩,_,by unfold aW;rw[<-aM];exact aek,_,by unfold aW;rw[<-aM];exact fM 1 _ rfl,?_⟩;have aqW:mc (cW.getD x.toNat [])[j]:=⟨bH.1,by omega⟩;refine alE DE ub (XU aqW) (AO _) (λnt mI mH aBr iV=>⟨λh=>a6 rfl h,λ_=>⟨⟨by omega,by omega⟩,⟨rfl,by omega,by omega,mH,aBr,?_⟩,by dsimp only;omega⟩⟩) λar3=>?_;rw[iV,sg,hw,show(x+1).toNat=x.toNat+1 by omega];show _=Bp cW code x.toNat+_;rw[<-aM,aw];rw[sg,hw] at ar3;omega;have eO:x.toNat=code.length:=by have:¬x<(t.n:o):=gr;omega
 exact aq a b 0 DE ub (by rw[e,hw,eO])
end
section
variable{u ai:H}{b:N}{q:J o}{t:U}
open lE (ec sD o5 yX iJ B8)
def aof:hl aH 318=ak:=by kernel_rfl
def ayY{l:J (o×ao)}{K:U->H->Prop}(h:fs u b l)(ar:l.length<=1000000)(aq:∀s u',aD u u' 3 1 s ((dM (l.map (·.1))).flatMap encI)->K s u'):
  UM (some b) u λfv aS=>uU fv aS K:=by
 have bY:(l.map (·.1)).Nodup:=by obtain⟨_,_,_,he⟩:=h;exact he.nodup
 refine aCQ (some b) u _ λn0 eT=>?_
 have hle:=bW (u:=u) (b:=n0) (.cells #[.map (some b)] 125 (0,0)) eT
 refine eA.abY ar bY (λai rc=>?_) λs u' ab=>aq s u' (ab.weaken hle)
 have hm:=h.mono (hle.trans rc)
 have I:ai.cell? ⟨n0,0,none⟩=some (.map (some b)):=a1 (rc _ _ (bf _ _ _)) 0
 intro mb cU kM ah v K h0 aq
 refine⟨_,_,_,rfl,hh aof,ie.weaken (ss:=[]) ?_⟩
 exact aCR mb ⟨n0,0,none⟩ v _ ⟨_,qg (kM _ _ h0) I,eA.ZQ iJ hm cU kM ah h0 aq⟩
def axP{w:mQ}{d:o}(ae:(w.map (·.1)).Nodup)(aw:1<=d/\d<=64)(hi:∀e∈w,1<=e.1/\e.1<=1000000000)(aA:∀e∈w,(e.2.2.length:o)=d/\db e.2.2)(ag:w.length<=512)(aO:gn q d=0){ls:J av}(ad:(ls.map av.bi).Perm (w.map λe=>(e.1,e.2.2))):kH ls q:=by obtain⟨_,_,d3,d4⟩:=oA aO;refine⟨d4,?_⟩;rw[d3];have ar:=ad.length_eq;rw[dg,dg] at ar;refine Dn aw (by omega) ?_ λp CE=>?_;rw[lZ];refine((ad.map (·.1)).nodup_iff).2 ?_;rw[ez];exact ae;obtain⟨e,he,rfl⟩:=bk.1 (ad.mem_iff.1 CE);exact⟨(hi e he).1,(hi e he).2,aA e he⟩
def jB.weaken{u':H}{aG ss bc:U}{gF:J bP}{seen:J o}{rest:J cp}(h:jB u u' aG ss bc gF seen rest)(k:ai.le u):jB ai u' aG ss bc gF seen rest:=
 ⟨h.h.weaken k,h.s.weaken k,h.r.weaken k,λr O=>⟨(h.g r O).l.weaken k,(h.g r O).h.weaken k,(h.g r O).i.weaken k⟩,h.eu⟩
def azT{af:N->ay bu}{T:aT}{k aJ:o}{K:U->U->U->o->H->Prop}(h:In ai u af b T)(aR:dP T)(lH:T.cd=none)(ht:Ints u t q)
  (dx:h7 q T.dim k aJ≠0->∀u',u.le u'->K ⟨none,0,0⟩ ⟨none,0,0⟩ ⟨none,0,0⟩ (h7 q T.dim k aJ) u')
  (bH:h7 q T.dim k aJ=0->∀aG ss bc rest u',jB u u' aG ss bc (iW T q k aJ) (gk T q k aJ) rest->rest.map cp.core=jr T q k aJ->K aG ss bc 0 u'):acZ (some ⟨b,0,none⟩) t k aJ u K:=by
 apply aBG
 refine⟨_,rfl,_,aT.bK h.aF.cell,JS ht ⟨λal=>dx al u (H.le.refl u),λhe=>?_⟩⟩
 obtain⟨aA,cx,cS,fV,gf⟩:=D3.1 he
 refine zn h aR λs ls aS b1 ad ag=>?_
 have hle:=b1.own.le
 have ae:=h.aF.rD
 have kx:=ayc ae ad ag
 have aO:=axP ae aR.hs aR.ids aR.vec aR.small aA ad
 have EE:¬T.cd.isSome=ak:=by rw[lH];simp
 have al5:∀j,(ls.take j).map av.bi=((td T.w).take j).map av.bi:=λj=>by rw[JB,kx,JB]
 have bg:∀j,(ls.drop j).map av.bi=((td T.w).drop j).map av.bi:=λj=>by rw[Dh,kx,Dh]
 have LP:=alK.2 ⟨aO,cx,cS,fV,gf⟩
 refine ay1 b1.rws (ht.mono hle) (λal=>a6 LP al) λ_ aG ss bc aa a2 a3 u' aE=>?_
 refine bH he aG ss bc (vX aa a2 a3 (ls.drop aJ.toNat)) u' ?_ ?_
 unfold iW gk
 rw[az EE,az EE,<-agZ (al5 aJ.toNat),lZ ((td T.w).take aJ.toNat),<-al5,<-lZ]
 exact jB.weaken aE hle
 unfold jr
 rw[az EE]
 exact axZ (bg aJ.toNat)
def ay2{a b:bP}{K:o->H->Prop}(h:K (if bC a b=ak then -1 else 1) u):acW a.1 (dk a.2) (dq a.2) b.1 (dk b.2) (dq b.2) u K:=by apply aBB;refine JW ⟨λZ=>?_,λZ=>?_⟩;rw[aV Z] at h;exact h;rw[az (by rw[Z];simp)] at h;exact h
structure anS(B:H)(cc:N)(k:o)(w:mQ)(q ord:J o)(aJ x:N)(ja l7:U)(v:H):Prop where
 ex:∃v0,iE B cc k v0 ((ord.take (min x aJ)).map (yy w q))/\aD v0 v 3 1 ja (((ord.take x).drop aJ).flatMap encI)/\aD v0 v 3 1 l7 ((ord.take (min x aJ)).flatMap encI)/\dH ja l7
def ajM{v0 v:H}{s:U}{l m:J o}{Y:o}(ag:aD v0 v 3 1 s (l.flatMap encI))(ht:aD v0 v 3 1 t (m.flatMap encI))(ac:dH s t)(ar:l.length<=1000000){K:U->H->Prop}
  (aq:∀ap cm,aD v0 cm 3 1 ap ((l++ [Y]).flatMap encI)->aD v0 cm 3 1 t (m.flatMap encI)->dH ap t->K ap cm):
  c4 aH (dA 30 1 #[(0,.int .i64 Y)]) [.one .slice] v λs1 aS=>c4 aH (dW #[30,30] 30 #[.slice s.a s.n s.c,.slice s1.a s1.n s1.c]) [.one .slice] aS K:=by
 have ae:=ag.ints.len
 refine np lQ (zN Y) (by decide) rfl (by simp[cF]) ag (by omega) (by omega) λap cm ab _ he ev _=>aq ap cm ?_ (aD.else ht he (λg W=>ag.fresh g W) ac) λg W h2=>?_
 rw[gU];exact ab
 rcases ev g W with e|e
 exact ac g e h2
 exact dF ht h2 e
def ay9{af:N->ay bu}{T:aT}{c:pq}{k aJ:o}{K:U->U->U->o->H->Prop}(h:In ai u af b T)(aR:dP T)(lH:T.cd=some c)(ht:Ints u t q)
  (dx:h7 q T.dim k aJ≠0->∀u',u.le u'->K ⟨none,0,0⟩ ⟨none,0,0⟩ ⟨none,0,0⟩ (h7 q T.dim k aJ) u')
  (bH:h7 q T.dim k aJ=0->∀aG ss bc rest u',jB u u' aG ss bc (iW T q k aJ) (gk T q k aJ) rest->rest.map cp.core=jr T q k aJ->K aG ss bc 0 u'):acV (some ⟨b,0,none⟩) t k aJ u K:=by
 have aF:=h.aF
 have cell:u b=some (.cells #[.int .i64 T.dim,.map (some T.m),.pointer c.ptr,.map (some c.hD)] 132 (0,0)):=by have:=aF.cell;unfold aT.obj at this;rw[lH] at this;exact this
 have sx:=aF.sx c lH
 apply aBA
 refine⟨_,rfl,_,a1 cell 0,JS ht ⟨λal=>dx al u (H.le.refl u),λhe Kv a7=>?_⟩⟩
 have bH:=bH he
 obtain⟨aA,cx,cS,fV,gf⟩:=D3.1 he
 obtain⟨_,_,d3,d4⟩:=oA aA
 have ae:=aF.rD
 have oR:(c.sf.map (·.1)).Nodup:=by obtain⟨es,cl,_,he⟩:=sx.map;have:=he.nodup;rw[QC] at this;exact this
 have fq:=aR.small
 have lb:∀dG,c.co=some dG->Hb (Bs dG.eK q):=λdG hk=>aAT (aR.tu c dG lH hk) aA
 have main:∀(lh:U) (v:H),u.le v->(∀dG,c.co=some dG->x9 v lh (Bs dG.eK q))->Kv lh v:=by
  intro lh v hle Y4;apply a7;refine⟨_,rfl,_,a1 (hle _ _ cell) 1,ayY (aF.map.mono hle) (by simp[ec];omega) λpV gx qo=>?_⟩;rw[QC] at qo;obtain⟨ids,ke⟩:∃ids,ids=dM (T.w.map (·.1)):=⟨_,rfl⟩;rw[<-ke] at qo;have ea:ids.length=T.w.length:=by rw[ke,zm,dg]
  have Hz:=qo.ints.len;have ag8:=hle.trans qo.le;refine⟨λqD x w=>0<=x/\x<=pV.n/\aD gx w 68 3 qD (((ids.take x.toNat).map λid=>((id,zX T.cd q id):bP)).flatMap fD),λ_ x _=>pV.n-x.toNat,⟨by omega,by omega,aD.nil (H.le.refl gx) _ _⟩,?_⟩;rintro qD x w ⟨bG,dy,ab⟩;have hw:=ag8.trans ab.le;have QR:qD.n=(ids.take x.toNat).length:=by have:=ab.fh.len;rw[dg] at this;exact this
  rw[gL] at QR;refine⟨λM=>?_,λgr=>?_⟩
  .obtain⟨p,ad,bK⟩:=(qo.ints.mono ab.le).at bG M;have eO:x.toNat<ids.length:=by omega
   have Sf:ids[x.toNat]?=some ids[x.toNat]:=cn eO;have aw:ids.getD x.toNat 0=ids[x.toNat]:=by rw[dr,Sf];rfl
   rw[aw] at bK;have one:∀(a cM:o),a=dk (zX T.cd q ids[x.toNat])->cM=dq (zX T.cd q ids[x.toNat])->∀{fA:U->H->Prop},(∀ap w',br (x+1)->(0<=x+1/\x+1<=pV.n/\aD gx w' 68 3 ap (((ids.take (x+1).toNat).map λid=>((id,zX T.cd q id):bP)).flatMap fD))->(pV.n-(x+1).toNat:N)<pV.n-x.toNat->fA ap w')->
     c4 aH (dA 38 1 #[(0,.agg #[.int .i64 ids[x.toNat],.int .u64 a,.int .u64 cM])]) [.one .slice] w λs1 aS=>c4 aH (dW #[38,38] 38 #[.slice qD.a qD.n qD.c,.slice s1.a s1.n s1.c]) [.one .slice] aS fA:=by
    intro a cM aE Rg fA mr
    subst aE;subst Rg
    refine np al1 (aoB _ _ _) (by decide) rfl (by simp[cF]) ab (by show qD.n<_;omega) (by show(qD.n+1)*_<=_;omega) λap w' bQ _ _ _ _=>mr ap w' ⟨by omega,by omega⟩ ⟨by omega,by omega,?_⟩ (by omega)
    rw[show(x+1).toNat=x.toNat+1 by omega,gT,Sf,dY,gU]
    exact bQ
   refine⟨p,ad,⟨bG,M⟩,_,bK,_,rfl,c.ptr,a1 (hw _ _ cell) 2,λal=>?_,λAm=>?_⟩;cases hk:c.co with
   |none=>exact a6 (by simp[pq.ptr,hk]) al|some dG=>
    have Rs:zX T.cd q ids[x.toNat]=K2 (Bs dG.eK q) (uJ c.sf ids[x.toNat]):=by obtain⟨hD,sf,co⟩:=c;obtain rfl:co=some dG:=hk;rw[lH];rfl
    obtain⟨y,ah,cA⟩:∃y:U,(fN (ec c.sf) ids[x.toNat]).getD (.slice none 0 0)=aK.slice.enc y/\Ints w y (uJ c.sf ids[x.toNat]):=by rcases sD c.sf ids[x.toNat] with⟨W,hm⟩|⟨e,he,b7,W⟩;exact⟨⟨none,0,0⟩,by rw[W];rfl,by rw[ax8 hm];exact Ints.nil w⟩;exact⟨e.2.1,by rw[W];rfl,by rw[<-b7,Oo oR he];exact(sx.vec e he).1.mono hw⟩
    refine⟨_,rfl,_,a1 (hw _ _ cell) 3,OA iJ (sx.map.mono hw) (ct:=.slice) y ah ?_⟩;refine ay0 ((Y4 dG hk).mono (qo.le.trans ab.le)) cA (lb dG hk) λa cM e DE acs Xo=>?_;obtain⟨fu,dK⟩:=BB DE acs;rw[Xo,<-Rs] at fu dK;exact one a cM fu dK λap w' i1 i2 i3=>⟨i1,i2,i3⟩
   have Rs:zX T.cd q ids[x.toNat]=0:=by
     obtain⟨hD,sf,co⟩:=c;cases co with
     |none=>rw[lH];rfl|some dG=>simp[pq.ptr] at Am
   exact one 0 0 (by rw[Rs];rfl) (by rw[Rs];rfl) λap w' i1 i2 i3=>⟨i1,i2,i3⟩
  have eO:x.toNat=ids.length:=by have:¬x<(pV.n:o):=gr;omega
  rw[eO,ni] at ab;rw[eO] at QR;refine alo (cf:=λa b=>if bC a b=ak then -1 else 1) (λa b=>by by_cases h:bC a b=ak<;>simp[h]) (enters_of func317 (by kernel_rfl) rfl)
   (λa b u'=>ay2 (K:=λfj c9=>fj=(if bC a b=ak then -1 else 1)/\c9=u') ⟨rfl,rfl⟩) ab (by rw[dg];omega) λhc Mz _=>?_
  obtain⟨ag,XS⟩:∃ag,ag=mF (ids.map λid=>((id,zX T.cd q id):bP)):=⟨_,rfl⟩;rw[<-XS] at Mz;obtain⟨ord,ME⟩:∃ord,ord=qv T q:=⟨_,rfl⟩;have MD:ord=ag.map (·.1):=by rw[ME,XS,ke];rfl
  have As:ord.length=qD.n:=by rw[MD,dg,XS,OM,dg];omega
  have at5:ord.Perm (T.w.map (·.1)):=by rw[ME];exact ajt T q
  have ah8:=ag8.trans Mz.le;refine OT (λZ=>by omega) λ_ _ cc acq aGk vo pJ=>?_;refine⟨λja x abq l7 abr w=>abq=⟨none,0,0⟩/\abr=⟨none,0,0⟩/\0<=x/\x<=qD.n/\anS hc cc k T.w q ord aJ.toNat x.toNat ja l7 w,λ_ x _ _ _ _=>qD.n-x.toNat,⟨rfl,rfl,by omega,by omega,acq,by simpa using pJ,by simpa using aD.nil (H.le.refl acq) 3 1,by simpa using aD.nil (H.le.refl acq) 3 1,λg W=>by simp[U.aj] at W⟩,?_⟩;rintro ja x abq l7 abr w ⟨Wd,We,bG,dy,v0,jR,z7,HC,pD⟩;change aD v0 w _ 1 ja _ at z7;change aD v0 w _ 1 l7 _ at HC;change dH ja l7 at pD;have jH:=jR.le;have lw:=ah8.trans (jH.trans z7.le);refine⟨λM=>?_,λgr=>?_⟩;obtain⟨p,ad,y,ah,bK,c1,c2⟩:=(Mz.fh.mono (jH.trans z7.le)).at bG M;have aiu:ord[x.toNat]?=some y.1:=by rw[MD,iD,ah];rfl
  have Ay:ord.take (x+1).toNat=ord.take x.toNat++ [y.1]:=by rw[show(x+1).toNat=x.toNat+1 by omega,gT,aiu];rfl
  have k3:y.1∈T.w.map (·.1):=at5.mem_iff.1 (du aiu);have eO:x.toNat<ord.length:=by omega
  refine⟨p,ad,⟨bG,M⟩,_,bK,_,c1,_,c2,λZ=>?_,λZ=>?_⟩;refine ajM z7 HC pD (by rw[nV,gL];omega) λap w' i1 i2 i3=>⟨⟨by omega,by omega⟩,⟨Wd,We,by omega,by omega,v0,?_,?_,?_,i3⟩,by dsimp only;omega⟩;rw[show min (x+1).toNat aJ.toNat=min x.toNat aJ.toNat by omega];exact jR;rw[Ay,aaM (by rw[gL];omega)];exact i1;rw[show min (x+1).toNat aJ.toNat=min x.toNat aJ.toNat by omega];exact i2;obtain⟨e,kd,b7⟩:=bk.1 k3;obtain⟨Y,aB,W⟩:∃Y,fN (ec T.w) y.1=some (aK.slice.enc Y)/\Ints u Y (uJ T.w y.1):=by rcases sD T.w y.1 with⟨_,hm⟩|⟨e,he,b7,W⟩;exact a6 k3 hm;exact⟨e.2.1,W,by rw[<-b7,Oo ae he];exact(aF.vec e he).1⟩
  have Ff:uJ T.w y.1=e.2.2:=by rw[<-b7];exact Oo ae kd
  obtain⟨v1,v2⟩:=aR.vec e kd;refine⟨_,rfl,_,a1 (lw _ _ cell) 1,OA iJ (aF.map.mono lw) (ct:=.slice) Y (by rw[aB];rfl) ?_⟩;refine Bm (W.mono lw) (ht.mono lw) (by rw[Ff];exact v2) (by rw[Ff];have:=aR.hs;omega) d4 (by rw[Ff];omega) λa cM DE acs Xo=>?_;obtain⟨fu,dK⟩:=BB DE acs;rw[Xo] at fu dK;rw[fu,dK];have I:zz (some ⟨cc,0,none⟩) (yy T.w q y.1).1 (dk (yy T.w q y.1).2) (dq (yy T.w q y.1).2) v0 λ_ cm=>iE hc cc k cm (yy T.w q y.1::(ord.take (min x.toNat aJ.toNat)).map (yy T.w q)):=OS jR cx cS λ_ _ bV=>bV;refine I.frame z7.le ?_;rintro _ iu w' ac sF;have QK:=aD.Hw z7 ac;have QL:=aD.Hw HC ac;have aP:min x.toNat aJ.toNat=x.toNat:=by omega
  have aC:min (x+1).toNat aJ.toNat=(x+1).toNat:=by omega
  refine ajM QL QK pD.symm (by rw[gL];omega) λap dK i1 i2 i3=>⟨⟨by omega,by omega⟩,⟨Wd,We,by omega,by omega,iu,?_,?_,?_,i3.symm⟩,by dsimp only;omega⟩;rw[aC,Ay,dY];rw[aP] at sF;exact sF.perm (l5 _ _).symm;have d1:(ord.take (x+1).toNat).drop aJ.toNat=[]:=ry (by rw[gL];omega);have d2:(ord.take x.toNat).drop aJ.toNat=[]:=ry (by rw[gL];omega);rw[d1];rw[d2] at i2;exact i2;rw[aC,Ay];rw[aP] at i1;exact i1;have eO:x.toNat=ord.length:=by have:¬x<(qD.n:o):=gr;omega
  obtain⟨S,bh⟩:∃S,S=ord.take aJ.toNat:=⟨_,rfl⟩;obtain⟨R,b1⟩:∃R,R=ord.drop aJ.toNat:=⟨_,rfl⟩;have apM:ord.take (min x.toNat aJ.toNat)=S:=by rw[bh,eO];rcases Nat.le_total ord.length aJ.toNat with bV|bV;rw[A9 bV,ni,ho bV];rw[Nat.min_eq_right bV]
  have apL:(ord.take x.toNat).drop aJ.toNat=R:=by rw[eO,ni,b1]
  rw[apM] at jR HC;rw[apL] at z7;have tF:S.length<=ord.length:=by rw[bh,gL];omega
  have HM:R.length<=ord.length:=by rw[b1,nV];omega
  have EE:T.cd.isSome=ak:=by rw[lH];rfl
  have avm:iW T q k aJ=eV k.toNat (S.map (yy T.w q)):=by unfold iW;rw[aV EE,<-ME,<-bh]
  have avo:gk T q k aJ=dM S:=by unfold gk;rw[aV EE,<-ME,<-bh]
  have avn:jr T q k aJ=if R=[] then[] else[(1,0,[],[],dM R)]:=by unfold jr;rw[aV EE,<-ME,<-b1]
  rw[avm,avo,avn] at bH;have QU:=z7.ints.len;refine GI HC (by omega) λamh w9 asn=>?_;have QK:aD v0 amh 3 1 ja (R.flatMap encI):=aD.else z7 asn (λg W=>HC.fresh g W) pD.symm;intro Vz WL;have Pc:=ah8.trans jH;have NF:∀(x:U),dH x ⟨none,0,0⟩:=λx g _ W=>by simp[U.aj] at W
  have yg:∀(x:U),dH ⟨none,0,0⟩ x:=λx g W=>by simp[U.aj] at W
  have last:∀(bc:U) (rest:J cp) (v:H),iE hc cc k v (S.map (yy T.w q))->aD v0 v 3 1 l7 ((dM S).flatMap encI)->aD u v 102 6 bc (rest.flatMap tB)->(∀r∈rest,x7 u v r)->(qR ⟨none,0,0⟩ l7 bc rest).Pairwise dH->rest.map cp.core=(if R=[] then[] else[(1,0,[],[],dM R)])->Vz ⟨none,0,0⟩ l7 bc v:=by intro bc rest v i1 i2 i3 i4 i5 i6;refine WL ⟨none,0,0⟩ l7 bc v (JV i1 λap u' bQ=>bH ap l7 bc rest u' ⟨bQ.weaken (Pc.trans i2.le),(i2.weaken Pc).mono bQ.le,i3.mono bQ.le,λr O=>⟨(i4 r O).l.mono bQ.le,(i4 r O).h.mono bQ.le,(i4 r O).i.mono bQ.le⟩,?_⟩ i6);refine jJ.2 ⟨λy ah=>?_,(jJ.1 i5).2⟩;have kn:∀{e dG:N} {xs:J ao} {aS:H},aD aS v e dG y xs->dH ap y:=λbV g h1 h2=>dF bV h2 (bQ.fresh g h1);rcases cE.1 ah with rfl|ah;exact kn i2;rcases cE.1 ah with rfl|ah;exact kn i3;obtain⟨r,O,ah⟩:=ee.1 ah;simp only[cp.jj,cE,qA,qB] at ah;rcases ah with rfl|rfl|rfl;exact kn (i4 r O).l;exact kn (i4 r O).h;exact kn (i4 r O).i
  have asx:dH l7 ja:=pD.symm;obtain rfl:abq=⟨none,0,0⟩:=Wd;obtain rfl:abr=⟨none,0,0⟩:=We;refine⟨λoW=>?_,λq6=>?_⟩;have Xb:R≠[]:=λe=>by rw[e] at QU;simp at QU;omega
  refine GI QK (by omega) λJ2 xa aso=>?_;have QL:aD v0 J2 3 1 l7 ((dM S).flatMap encI):=aD.else w9 aso (λg W=>QK.fresh g W) pD;refine l8 (eA.aed ja) λjQ lW=>?_;obtain⟨Y,aB⟩:∃Y,Y=J2.ins jQ (.cells [cG .i64 1,.slice none 0 0,.slice none 0 0,.int .u64 0,.int .u64 0,.slice ja.a ja.n ja.c].toArray 102 (0,0)):=⟨_,rfl⟩;have CX:J2.le Y:=by rw[aB];exact bW _ lW
  have ahn:=aD.make (k:=6) (H.le.refl J2) lW (cells:=[cG .i64 1,.slice none 0 0,.slice none 0 0,.int .u64 0,.int .u64 0,.slice ja.a ja.n ja.c].toArray) (e:=102) (n:=1) (by omega) (by simp);rw[<-aB] at ahn ⊢;have Fs:u.le J2:=Pc.trans xa.le;have H2:∀{e dG:N} {y:U} {xs:J ao} {aS:H},aD aS J2 e dG y xs->dH y ⟨some ⟨jQ,0,none⟩,1,1⟩:=λbV g h1 h2=>by
   have:jQ=g:=by simpa[U.aj] using h2
   exact dF bV h1 (by rw[<-this];exact lW)
  refine last ⟨some ⟨jQ,0,none⟩,1,1⟩ [eA.D2 ja (dM R)] Y (jR.mono (xa.le.trans CX)) (QL.mono CX) ?_ (λr O=>?_) ?_ ?_;have aP:([eA.D2 ja (dM R)]:J cp).flatMap tB=[cG .i64 1,.slice none 0 0,.slice none 0 0,.int .u64 0,.int .u64 0,.slice ja.a ja.n ja.c]:=by simp[tB,eA.D2,XV,Z5]
  rw[aP];exact ahn.weaken Fs;rw[fI.1 O];exact⟨aD.nil (Fs.trans CX) _ _,aD.nil (Fs.trans CX) _ _,(xa.weaken Pc).mono CX⟩;show([⟨none,0,0⟩,l7,⟨some ⟨jQ,0,none⟩,1,1⟩,⟨none,0,0⟩,⟨none,0,0⟩,ja]:J U).Pairwise dH;simp only[jJ,cE,qA,qB,Js,Ob,mE,vS,To,Tp];exact⟨⟨yg _,yg _,yg _,yg _,yg _⟩,⟨H2 QL,NF _,NF _,asx⟩,⟨NF _,NF _,(H2 xa).symm⟩,⟨yg _,yg _⟩,yg _⟩;rw[az Xb];rfl;have Xa:R=[]:=by
    have:ja.n=0:=by omega
    rw[this] at QU;exact ly QU.symm
  refine last ⟨none,0,0⟩ [] amh (jR.mono w9.le) w9 (aD.nil (Pc.trans w9.le) _ _) (λr O=>(by cases O)) ?_ (by rw[aV Xa];rfl);show([⟨none,0,0⟩,l7,⟨none,0,0⟩]:J U).Pairwise dH;simp only[jJ,cE,qA,qB,Js,Ob,mE,vS,To,Tp];exact⟨⟨yg _,yg _⟩,NF _⟩
 refine⟨_,rfl,_,a1 cell 2,λal=>⟨_,rfl,_,a1 cell 2,?_⟩,λAm=>main ⟨none,0,0⟩ u (H.le.refl u) λdG hk=>?_⟩
 cases hk:c.co with
 |none=>exact a6 (by simp[pq.ptr,hk]) al
 |some dG=>rw[show c.ptr=some ⟨dG.b,0,none⟩ by simp[pq.ptr,hk]];refine ay3 (sx.co dG hk) (aR.tu c dG lH hk) ht aA λs u' hle Y4=>main s u' hle λdQ de=>?_;rw[hk] at de;obtain rfl:=cO de;exact Y4
 simp[pq.ptr,hk] at Am
end
end gO
section
variable{u ai u':H}{D:N->Prop}{b:N}{q:J o}{X:cD}{k aJ A B E F d:o}{t:U}{l L:J av}{K:aI->o->H->Prop}
def cD.Qb:cD->J o->o->o->J bP
 | .nN X=>kE.iW X| .aZ X=>lE.iW X| .mZ X=>jm.iW X| .ae X=>eA.iW X| .cW X=>gO.iW X
def cD.qR:cD->J o->o->o->J o
 | .nN X=>kE.gk X| .aZ X=>lE.gk X| .mZ X=>jm.gk X| .ae X=>λq _ aJ=>eA.gk X q aJ| .cW X=>gO.gk X
def cD.VF:cD->J o->o->o->J (o×o×J o×J o×J o)
 | .nN X=>kE.jr X| .aZ X=>lE.jr X| .mZ X=>jm.jr X| .ae X=>λq _ aJ=>eA.jr X q aJ| .cW X=>gO.jr X
def cD.ids(h:X.ek ai u D b):(X.rows.map (·.1)).Nodup:=by
 cases X with
 |nN X=>obtain⟨af,h1,h2,h3⟩:=eW.ex h;exact h2.aF.rD
 |aZ X=>obtain⟨af,h1,h2,h3⟩:=eW.ex h;exact h2.aF.rD
 |mZ X=>obtain⟨af,h1,h2,h3⟩:=eW.ex h;rw[show(cD.mZ X).rows=jm.bb X from rfl,jm.ZG];exact h3.nodup
 |ae X=>obtain⟨af,h1,h2,h3⟩:=eW.ex h;rw[show(cD.ae X).rows=eA.e4 X.g from rfl,eA.uK];exact(eA.FV h2).aF.nodup
 |cW X=>obtain⟨af,h1,h2,h3⟩:=eW.ex h;rw[show(cD.cW X).rows=gO.bb X from rfl,gO.na];exact h2.aF.rD
def cD.abk(h:X.ek ai u D b)(ac:X.rows.length<=512)(ad:(L.map av.bi).Perm X.rows):gX L X.dim:=by
 have ae:=ad.length_eq;rw[dg] at ae;have aw:(L.map (·.id)).Nodup:=by rw[lZ,(ad.map (·.1)).nodup_iff];exact cD.ids h
 have fin:(1<=X.dim/\X.dim<=64)->(∀p∈X.rows,1<=p.1/\p.1<=1000000000/\(p.2.length:o)=X.dim/\db p.2)->gX L X.dim:=λh1 h2=>Dn h1 (by omega) aw λp hm=>h2 p (ad.mem_iff.1 hm);cases X with
 |nN X=>obtain⟨af,h1,h2,h3⟩:=eW.ex h;exact fin h3.hs λp hm=>by obtain⟨e,he,rfl⟩:=bk.1 hm;exact⟨(h3.ids e he).1,(h3.ids e he).2,h3.vec e he⟩
 |aZ X=>obtain⟨af,h1,h2,h3⟩:=eW.ex h;exact fin h3.hs λp hm=>by obtain⟨e,he,rfl⟩:=bk.1 hm;exact⟨(h3.ids e he).1,(h3.ids e he).2,h3.vec e he⟩
 |mZ X=>obtain⟨af,h1,h2,h3⟩:=eW.ex h;exact fin h3.hs λp hm=>by obtain⟨r,O,rfl⟩:=bk.1 hm;obtain⟨l,ar,cq⟩:=ee.1 O;exact⟨(h3.ids l ar r cq).1,(h3.ids l ar r cq).2,h3.vec l ar r cq⟩
 |ae X=>obtain⟨af,h1,h2,h3⟩:=eW.ex h;exact fin h3.k.ok.hs λp hm=>by obtain⟨e,he,rfl⟩:=bk.1 hm;exact⟨(h3.k.ok.ids e he).1,(h3.k.ok.ids e he).2,h3.k.ok.vec e he⟩
 |cW X=>obtain⟨af,h1,h2,h3⟩:=eW.ex h;exact fin h3.hs λp hm=>by obtain⟨e,he,rfl⟩:=bk.1 hm;exact⟨(h3.ids e he).1,(h3.ids e he).2,h3.vec e he⟩
def cD.sound(h:X.ek ai u D b)(he:h7 q X.dim k aJ=0)(cL:(L.map av.bi).Perm X.rows)(aO:kH L q){rest:J cp}(O:rest.map cp.core=X.VF q k aJ):
  Sound L q k (X.Qb q k aJ) (X.qR q k aJ) rest/\((X.qR q k aJ).length:o)<=aJ/\(((X.qR q k aJ).length:o)=aJ∨(X.qR q k aJ).length=L.length∨zA q k (X.Qb q k aJ) rest):=by
 obtain⟨aA,cx,_,fV,_⟩:=D3.1 he
 have aw:=(oA aA).2.2.1
 cases X with
 |nN X=>obtain⟨af,h1,h2,h3⟩:=eW.ex h;exact kE.O0 h3 cx fV aw cL aO O
 |aZ X=>obtain⟨af,h1,h2,h3⟩:=eW.ex h;exact lE.O0 h3 cx fV aw cL aO O
 |mZ X=>obtain⟨af,h1,h2,h3⟩:=eW.ex h;exact jm.O0 h3 cx fV aw cL aO O
 |ae X=>obtain⟨af,h1,h2,h3⟩:=eW.ex h;obtain⟨s1,s2,nk⟩:=eA.aiM (D:=D) (b:=b) ⟨af,h1,eA.FV h2,h3⟩ he cL aO O;exact⟨s1,s2,nk.imp id .inl⟩
 |cW X=>obtain⟨af,h1,h2,h3⟩:=eW.ex h;obtain⟨s1,s2,nk⟩:=gO.sound h2.aF.rD fV cL aO O;exact⟨s1,s2,nk.imp id .inl⟩
def cD.GG{K:U->U->U->o->H->Prop}(h:X.ek ai u D b)(kN:X.eR<=2700)(ht:Ints u t q)
  (dx:h7 q X.dim k aJ≠0->∀u',u.le u'->K ⟨none,0,0⟩ ⟨none,0,0⟩ ⟨none,0,0⟩ (h7 q X.dim k aJ) u')
  (bH:h7 q X.dim k aJ=0->∀aG ss bc rest u',jB u u' aG ss bc (X.Qb q k aJ) (X.qR q k aJ) rest->rest.map cp.core=X.VF q k aJ->K aG ss bc 0 u'):
  mJ aH (X.iface b) "Search" #[.slice t.a t.n t.c,.int .i64 k,.int .i64 aJ] [.agg [.slice,.slice,.slice],.one (.int .i64)] u K:=by
 cases X with
 |nN X=>obtain⟨af,h1,h2,h3⟩:=eW.ex h;exact k1 (f:=255) (by kernel_rfl) O8 (by kernel_rfl) (kE.GG h2 h3 kN ht (λal=>dx al u (H.le.refl u)) bH)
 |aZ X=>obtain⟨af,h1,h2,h3⟩:=eW.ex h;exact k1 (f:=275) (by kernel_rfl) Pa (by kernel_rfl) (lE.GG h2 h3 kN ht (λal=>dx al u (H.le.refl u)) bH)
 |mZ X=>obtain⟨af,h1,h2,h3⟩:=eW.ex h;exact k1 (f:=283) (by kernel_rfl) O7 (by kernel_rfl) (jm.GG h2 h3 ht (λal=>dx al u (H.le.refl u)) bH)
 |ae X=>obtain⟨af,h1,h2,h3⟩:=eW.ex h;exact k1 (f:=291) (by kernel_rfl) O6 (by kernel_rfl) (eA.ak9 (eA.FV h2) h3 ht dx λhe aG ss bc jK u' aE=>bH he aG ss bc _ u' aE (eA.aki jK X q aJ))
 |cW X=>
  obtain⟨af,h1,h2,h3⟩:=eW.ex h;cases e:X.cd with
  |none=>rw[cD.IF e];exact k1 (f:=309) (by kernel_rfl) O9 (by kernel_rfl) (gO.azT h2 h3 e ht dx bH)|some c=>rw[cD.IE e];exact k1 (f:=312) (by kernel_rfl) amq (by kernel_rfl) (gO.ay9 h2 h3 e ht dx bH)
def aT.dim(X:aT):o:=X.X.dim
def aT.cj(_:aT):o:=0
def bb(X:aT):J zH:=X.X.rows
def iW(X:aT)(q:J o)(k aJ:o):J bP:=X.X.Qb q k aJ
def gk(X:aT)(q:J o)(k aJ:o):J o:=X.X.qR q k aJ
def jr(X:aT)(q:J o)(k aJ:o):J (o×o×J o×J o×J o):=X.X.VF q k aJ
abbrev ib(l:J av)(dim A B E F:o):o:=pt l dim A B E F
def xl(X:aT):N:=X.X.eR
abbrev lD(u:H):Prop:=eA.lD u
def lD.mono(h:lD u)(hu:u.le u'):lD u':=eA.lD.mono h hu
def ek.base{X:aT}(h:ek ai u D b X):ai.le u/\(∀c,D c->ai c=none)/\∀c,D c->u c≠none:=by obtain⟨km,h1,_,h3,a7,bE⟩:=h.ex;obtain⟨cx,cS,nM⟩:=cD.base bE;refine⟨cx,λc I=>?_,λc I=>?_⟩;rcases(h1 c).1 I with rfl|I;exact h3;exact cS c I;rcases(h1 c).1 I with rfl|I;rw[a7];simp;exact nM c I
def ek.same{X:aT}(h:ek ai u D b X)(hu:∀c z,u c=some z->D c->u' c=some z)(hle:ai.le u'):ek ai u' D b X:=by obtain⟨km,h1,h2,h3,a7,bE⟩:=h.ex;exact⟨km,h1,h2,h3,hu _ _ a7 ((h1 b).2 (.inl rfl)),cD.same bE (λc z I aw=>hu c z I ((h1 c).2 (.inr aw))) hle⟩
def ek.mono{X:aT}(h:ek ai u D b X)(hu:u.le u'):ek ai u' D b X:=h.same (λc z I _=>hu c z I) (h.base.1.trans hu)
def ek.l6{v:H}{X:aT}(h:ek ai u D b X)(aA:v.le ai):ek v u D b X:=by obtain⟨km,h1,h2,h3,a7,bE⟩:=h.ex;exact⟨km,h1,h2,aA.none h3,a7,cD.l6 bE aA⟩
def ek.eQ{p7 km:N->Prop}{X:aT}{oH:cD}(h1:∀c,D c↔c=b∨km c)(h2:¬km b)(h3:ai b=none)(a7:u b=some X.obj)(is:oH.ek ai u' p7 X.dN)(t:ko u km u' p7)(ht:oH.fb=X.X.fb):
  ek ai u' (λc=>c=b∨p7 c) b {X with X:=oH}/\ko u D u' λc=>c=b∨p7 c:=by
 have Z:¬p7 b:=λaw=>by rcases t.grow b aw with h|h;exact h2 h;rw[a7] at h;cases h
 refine⟨⟨p7,λ_=>A0,Z,h3,?_,is⟩,λc z I aw=>t.bM c z I λh=>aw ((h1 c).2 (.inr h)),λc I=>?_⟩
 rw[t.bM _ _ a7 h2]
 unfold aT.obj cD.iface
 simp only[ht]
 rcases I with rfl|I
 exact .inl ((h1 c).2 (.inl rfl))
 exact(t.grow c I).imp (λh=>(h1 c).2 (.inr h)) id
def TN{X:aT}{K:o->H->Prop}(h:ek ai u D b X)(aq:K (bb X).length u):DM (some ⟨b,0,none⟩) u K:=by obtain⟨km,_,_,_,a7,bE⟩:=h.ex;apply aBt;exact⟨λe=>(by cases e),λ_=>⟨_,rfl,_,a1 a7 4,cD.Bl bE aq⟩⟩
def alg{X:aT}{K:U->H->Prop}(h:ek ai u D b X)(aq:∀s ls u',qO u u' s ls->(ls.map av.bi).Perm (bb X)->(ls.Pairwise λa b=>a.id<=b.id)->K s u'):Up (some ⟨b,0,none⟩) u K:=by obtain⟨km,_,_,_,a7,bE⟩:=h.ex;apply aBv;exact⟨λe=>(by cases e),λ_=>⟨_,rfl,_,a1 a7 4,cD.zn bE aq⟩⟩
def azx{X:aT}{K:o->o->o->o->H->Prop}(h:ek ai u D b X)(aq:K X.k X.s X.p X.c u):Kc (some ⟨b,0,none⟩) u K:=by obtain⟨km,_,_,_,a7,_⟩:=h.ex;apply aBx;exact⟨λe=>(by cases e),λ_=>⟨_,rfl,_,a1 a7 0,_,a1 a7 1,_,a1 a7 2,_,a1 a7 3,aq⟩⟩
def azw{X:aT}{id:o}(h:ek ai u D b X)(kN:xl X<=2700)(ka:lD ai)(ht:Ints u t q)(fh:(∀g,t.aj=some g->¬D g)∨Ints ai t q)
  (dx:fr id q X.dim (decide (id∈(bb X).map (·.1))) (bb X).length≠0->K ax (fr id q X.dim (decide (id∈(bb X).map (·.1))) (bb X).length) u)
  (bH:fr id q X.dim (decide (id∈(bb X).map (·.1))) (bb X).length=0->∀u' iv h6,ek ai u' iv b h6->ko u D u' iv->(bb h6).Perm ((id,q)::(bb X).filter λx=>x.1 !=id)->h6.dim=X.dim->h6.cj=X.cj->xl h6<=xl X+1->K (decide (id∉(bb X).map (·.1))) 0 u'):
  Kb (some ⟨b,0,none⟩) id t u K:=by
 obtain⟨km,h1,h2,h3,a7,bE⟩:=h.ex
 apply aBu
 refine⟨λe=>(by cases e),λ_=>⟨_,rfl,_,a1 a7 4,cD.Dx bE kN ka ht (fh.imp (λh g W aw=>h g W ((h1 g).2 (.inr aw))) λh=>h) dx λhe u' iv oH i1 i2 i3 i4 i5 i6=>?_⟩⟩
 obtain⟨jY,Nl⟩:=ek.eQ h1 h2 h3 a7 i1 i2 i5
 exact bH he u' _ _ jY Nl i3 i4 rfl i6
def abT{X:aT}{id:o}(h:ek ai u D b X)(kN:xl X<=2700)(ka:lD ai)(ht:Ints u t q)(fh:∀g,t.aj=some g->¬D g)
  (dx:fr id q X.dim (decide (id∈(bb X).map (·.1))) (bb X).length≠0->K ax (fr id q X.dim (decide (id∈(bb X).map (·.1))) (bb X).length) u)
  (bH:fr id q X.dim (decide (id∈(bb X).map (·.1))) (bb X).length=0->∀u' iv h6,ek ai u' iv b h6->ko u D u' iv->(bb h6).Perm ((id,q)::(bb X).filter λx=>x.1 !=id)->h6.dim=X.dim->h6.cj=X.cj->xl h6<=xl X+1->K (decide (id∉(bb X).map (·.1))) 0 u'):
  Kb (some ⟨b,0,none⟩) id t u K:=azw h kN ka ht (.inl fh) dx bH
def alf{X:aT}{id:o}(h:ek ai u D b X)(kN:xl X<=2700)(ed:id∉(bb X).map (·.1)->∀u',u.le u'->K ax 0 u')
  (kh:id∈(bb X).map (·.1)->∀u' iv h6,ek ai u' iv b h6->ko u D u' iv->bb h6=(bb X).filter (λx=>x.1 !=id)->h6.dim=X.dim->h6.cj=X.cj->xl h6<=xl X->K ak 0 u'):Uo (some ⟨b,0,none⟩) id u K:=by
 obtain⟨km,h1,h2,h3,a7,bE⟩:=h.ex
 apply aBs
 refine⟨λe=>(by cases e),λ_=>⟨_,rfl,_,a1 a7 4,cD.wa bE kN ed λhm u' iv oH i1 i2 i3 i4 i5 i6=>?_⟩⟩
 obtain⟨jY,Nl⟩:=ek.eQ h1 h2 h3 a7 i1 i2 i5
 exact kh hm u' _ _ jY Nl i3 i4 rfl i6
def alh{X:aT}{K:U->U->U->o->H->Prop}(h:ek ai u D b X)(kN:xl X<=2700)(ht:Ints u t q)
  (dx:h7 q X.dim k aJ≠0->∀u',u.le u'->K ⟨none,0,0⟩ ⟨none,0,0⟩ ⟨none,0,0⟩ (h7 q X.dim k aJ) u')
  (bH:h7 q X.dim k aJ=0->∀aG ss bc rest u',jB u u' aG ss bc (iW X q k aJ) (gk X q k aJ) rest->rest.map cp.core=jr X q k aJ->K aG ss bc 0 u'):Uq (some ⟨b,0,none⟩) t k aJ u K:=by
 obtain⟨km,_,_,_,a7,bE⟩:=h.ex
 apply aBw
 exact⟨λe=>(by cases e),λ_=>⟨_,rfl,_,a1 a7 4,cD.GG bE kN ht dx bH⟩⟩
def abS{s:U}{dim seed:o}{K:ay ba->o->H->Prop}(ag:dS u s l)(ka:lD u)(Xi:dn seed)
  (dx:ib l dim A B E F≠0->K none (ib l dim A B E F) u) (bH:ib l dim A B E F=0->∀b D X u',ek u u' D b X->(bb X).Perm (l.map av.bi)->X.dim=dim->(X.k=A/\X.s=B/\X.p=E/\X.c=F)->xl X=0->K (some ⟨b,0,none⟩) 0 u'):PO s dim A B E F seed u K:=by
 refine ie.weaken (ss:=[.one .ptr,.one (.int .i64)]) ?_
 apply aDz
 exact ay5 ag ka Xi (λal _ l=>⟨u,l,dx al⟩) λhe b D X u' qi O aw h1 h2 h3 a7 W=>⟨u',H.le.refl u',bH he b D X u' qi O aw ⟨h1,h2,h3,a7⟩ W⟩
def aiN{X:aT}(h:ek ai u D b X)(he:h7 q X.dim k aJ=0)(cL:(L.map av.bi).Perm (bb X))(aO:kH L q){rest:J cp}(O:rest.map cp.core=jr X q k aJ):
  Sound L q k (iW X q k aJ) (gk X q k aJ) rest/\((gk X q k aJ).length:o)<=aJ/\(((gk X q k aJ).length:o)=aJ∨(gk X q k aJ).length=L.length∨zA q k (iW X q k aJ) rest):=by
 obtain⟨km,_,_,_,_,bE⟩:=h.ex
 exact cD.sound bE he cL aO O
def avB{bw:J av}(h:l.map av.bi=bw.map av.bi):ib l d A B E F=ib bw d A B E F:=by unfold ib pt;rw[axV h]
def avC(h:ib l d A B E F=0):gX l d:=by unfold ib pt at h;by_cases h1:rB A B E F≠0;rw[aV h1] at h;exact a6 h h1;rw[az h1] at h;by_cases h2:lz l d≠0;rw[aV h2] at h;exact a6 h h2;exact Dj.1 (by simpa using h2)
def az4{s:U}{seed:o}{K:o->H->Prop}(ag:dS u s l)(h:K (ib l d A B E F) u):Vf s d A B E F seed u K:=by apply aDC;exact aAa ag h
end
